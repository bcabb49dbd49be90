/- TxSpoilt: for every input the call returns true, and each argument reads afterwards as it read before. No condition. -/
import Derived.Test.YtoeobffjdbdpgaaMTxSpoilt13
namespace Go.Proofs.Ytoeobffjdbdpgaa
set_option linter.unusedVariables false
set_option linter.unusedSimpArgs false
open List renaming append_assoc->Wu,flatMap_cons->Q4,replicate->We,length_cons->XV,mem_map->Xn
open IntKind renaming wrap->QF
open Bool renaming not_true->Xi
section
set_option linter.unusedSectionVars false
set_option maxRecDepth 100000
theorem zBm{x:Inp}(h:32≤x.pv.length):zuc x=List.take 32 x.pv:=by rw [zAx h]; rfl
theorem zKd{x:Inp}(h:x.pv.length=33):zuc x++[x.pv.getD 32 0]=x.pv:=by
 rw [zBm (by omega)]
 have:List.drop 32 x.pv=[x.pv.getD 32 0]:=by
  rw [List.drop_eq_getElem_cons (by omega),List.drop_eq_nil_of_le (by omega),List.getD_eq_getElem?_getD,List.getElem?_eq_getElem (by omega)]
  rfl
 rw [← this,List.take_append_drop]
structure InOk (x:Inp):Prop where
 pv:x.pv.length=33
 ix:0≤x.pv.getD 32 0∧x.pv.getD 32 0≤4294967295
 sq:0≤x.seq∧x.seq≤4294967295
 wl:x.wit.length≤32
 wi:∀ y∈x.wit,y.length≤520
structure OutOk (o:Outp):Prop where
 val:0≤o.val∧o.val≤9223372036854775807
 scr:o.scr.length≤520
def zLa(x:Inp):Inp:=⟨x.pv,x.seq,[]⟩
theorem zKx{j r:List Int}{x:Inp}(hx:InOk x){a:Nat}(ha:a≤j.length)(h:j.drop a=inB x++r):∃ a',gIn j a=.ok (zLa x,a')∧a'≤j.length∧j.drop a'=r:=by
 obtain ⟨ix,hix⟩:∃ n:Nat,x.pv.getD 32 0=(n:Int):=⟨(x.pv.getD 32 0).toNat,by have:=hx.ix; omega⟩
 obtain ⟨sq,hsq⟩:∃ n:Nat,x.seq=(n:Int):=⟨x.seq.toNat,by have:=hx.sq; omega⟩
 have l1:=hx.ix
 have l2:=hx.sq
 unfold inB ptB at h
 rw [hix,hsq,zvJ (by omega),zvJ (by omega),Wu,Wu] at h
 have k1:=zkN h ha
 have d1:=zkV h
 rw [zqE] at k1 d1
 obtain ⟨e2,d2⟩:=wrN (w:=4) (n:=ix) k1 (by omega) d1
 have k2:=zhU e2
 obtain ⟨e3,d3⟩:=wrN (w:=4) (n:=sq) k2 (by omega) d2
 refine ⟨a+32+4+4,?_,zhU e3,d3⟩
 unfold gIn zhN
 rw [if_pos k1]
 simp only [e2,e3]
 have ht:(j.drop a).take 32=zuc x:=by rw [h,List.take_left' (zqE x)]
 rw [ht,← hix,zKd hx.pv,← hsq]
 rfl
theorem zNh{j r:List Int}{o:Outp}(ho:OutOk o){a:Nat}(ha:a≤j.length)(h:j.drop a=zk5 o++r):∃ a',zlL j a=.ok (o,a')∧a'≤j.length∧j.drop a'=r:=by
 have hv:=ho.val
 obtain ⟨v,hv2⟩:∃ n:Nat,o.val=(n:Int):=⟨o.val.toNat,by omega⟩
 unfold zk5 at h
 rw [hv2,zbY (by omega) (by omega),zHt,Wu] at h
 obtain ⟨e1,d1⟩:=wrN (w:=8) (n:=v) ha (by omega) h
 obtain ⟨a2,e2,k2,d2⟩:=wrB (most:=520) (zhU e1) ho.scr (by decide) d1
 refine ⟨a2,?_,k2,d2⟩
 unfold zlL
 simp only [e1,e2]
 rw [if_neg (by omega),← hv2]
theorem zLp{j r:List Int}:∀ (xs:List Inp) (a:Nat),(∀ x∈xs,InOk x)→a≤j.length→j.drop a=xs.flatMap inB++r→∃ a',zhH j xs.length a=.ok (xs.map zLa,a')∧a'≤j.length∧j.drop a'=r
 | [],a,hx,ha,h=>⟨a,rfl,ha,h⟩
 | x::xs,a,hx,ha,h=>by
  rw [Q4,Wu] at h
  obtain ⟨a1,e1,k1,d1⟩:=zKx (hx x (by simp)) ha h
  obtain ⟨a2,e2,k2,d2⟩:=zLp xs a1 (fun y hy=>hx y (by simp [hy])) k1 d1
  exact ⟨a2,by simp only [XV,zhH,e1,e2,List.map_cons],k2,d2⟩
theorem zJo{j r:List Int}:∀ (xs:List Outp) (a:Nat),(∀ x∈xs,OutOk x)→a≤j.length→j.drop a=xs.flatMap zk5++r→∃ a',zd9 j xs.length a=.ok (xs,a')∧a'≤j.length∧j.drop a'=r
 | [],a,hx,ha,h=>⟨a,rfl,ha,h⟩
 | x::xs,a,hx,ha,h=>by
  rw [Q4,Wu] at h
  obtain ⟨a1,e1,k1,d1⟩:=zNh (hx x (by simp)) ha h
  obtain ⟨a2,e2,k2,d2⟩:=zJo xs a1 (fun y hy=>hx y (by simp [hy])) k1 d1
  exact ⟨a2,by simp only [XV,zd9,e1,e2],k2,d2⟩
theorem zLh{j r:List Int}:∀ (xs:List (List Int)) (a:Nat),(∀ x∈xs,x.length≤520)→a≤j.length→j.drop a=xs.flatMap bsB++r→∃ a',zir j xs.length a=.ok (xs,a')∧a'≤j.length∧j.drop a'=r
 | [],a,hx,ha,h=>⟨a,rfl,ha,h⟩
 | x::xs,a,hx,ha,h=>by
  rw [Q4,Wu] at h
  obtain ⟨a1,e1,k1,d1⟩:=wrB (most:=520) ha (hx x (by simp)) (by decide) h
  obtain ⟨a2,e2,k2,d2⟩:=zLh xs a1 (fun y hy=>hx y (by simp [hy])) k1 d1
  exact ⟨a2,by simp only [XV,zir,e1,e2],k2,d2⟩
theorem zJh{j r:List Int}:∀ (xs:List Inp) (a:Nat),(∀ x∈xs,InOk x)→a≤j.length→j.drop a=xs.flatMap zoM++r→∃ a',zd3 j (xs.map zLa) a=.ok (xs,a')∧a'≤j.length∧j.drop a'=r
 | [],a,hx,ha,h=>⟨a,rfl,ha,h⟩
 | x::xs,a,hx,ha,h=>by
  rw [Q4,Wu] at h
  unfold zoM at h
  rw [Wu] at h
  obtain ⟨a1,e1,k1,d1⟩:=wrS (most:=32) ha (hx x (by simp)).wl (by decide) h
  obtain ⟨a2,e2,k2,d2⟩:=zLh x.wit a1 (hx x (by simp)).wi k1 d1
  obtain ⟨a3,e3,k3,d3⟩:=zJh xs a2 (fun y hy=>hx y (by simp [hy])) k2 d2
  exact ⟨a3,by simp only [List.map_cons,zd3,e1,e2,e3]; rfl,k3,d3⟩
theorem zNE{t:TxT}(hv:0≤t.ver∧t.ver≤4294967295)(hk:0≤t.lock∧t.lock≤4294967295)(hi:∀ x∈t.ins,InOk x)(ho:∀ x∈t.outs,OutOk x)(li:t.ins.length≤64)(lo:t.outs.length≤64)(hl:(zkj t true).length≤20000):gTx (zkj t true) 0=.ok (t,(zkj t true).length):=by
 obtain ⟨v,hv2⟩:∃ n:Nat,t.ver=(n:Int):=⟨t.ver.toNat,by omega⟩
 obtain ⟨k,hk2⟩:∃ n:Nat,t.lock=(n:Int):=⟨t.lock.toNat,by omega⟩
 generalize hj:zkj t true=j at hl ⊢
 have h:j.drop 0=zkj t true:=by rw [hj]; rfl
 unfold zkj at h
 rw [hv2,hk2,zvJ (by omega),zvJ (by omega)] at h
 simp only [if_true,Wu] at h
 obtain ⟨e1,d1⟩:=wrN (w:=4) (n:=v) (Nat.zero_le _) (by omega) h
 obtain ⟨a2,e2,k2,d2⟩:=wrS (most:=64) (zhU e1) li (by decide) d1
 obtain ⟨a3,e3,k3,d3⟩:=zLp t.ins a2 hi k2 d2
 obtain ⟨a4,e4,k4,d4⟩:=wrS (most:=64) k3 lo (by decide) d3
 obtain ⟨a5,e5,k5,d5⟩:=zJo t.outs a4 ho k4 d4
 obtain ⟨e6,d6⟩:=wrN (w:=4) (n:=k) k5 (by omega) d5
 rw [← List.append_nil (t.ins.flatMap zoM)] at d6
 obtain ⟨a7,e7,k7,d7⟩:=zJh t.ins (a5+4) hi (zhU e6) d6
 have h7:a7=j.length:=by
  have:=congrArg List.length d7
  rw [List.length_drop,List.length_nil] at this
  omega
 unfold gTx
 simp only [e1,e2,e3,e4,e5,e6,e7]
 rw [if_neg (by omega),h7,← hv2,← hk2]
end
section
set_option linter.unusedSectionVars false
set_option maxRecDepth 100000
variable {β:Type}
section
variable {L:Nat} (hL:1000≤L) {j:List Int} (hb:Byt j) (hj:j.length≤100000000)
include hL hb hj
end
theorem zfS{a b:List Int}(h1:Byt a)(h2:Byt b):Byt (a++b):=fun x hx=>(List.mem_append.1 hx).elim (h1 x) (h2 x)
theorem zqz:∀ (w n:Nat),Byt (leB n w)
 | 0,n=>fun x hx=>by cases hx
 | w+1,n=>fun x hx=>by
  rcases List.mem_cons.1 hx with rfl | hx
  ·omega
  ·exact zqz w _ x hx
theorem zBN{α:Type}{f:α→List Int}{l:List α}(h:∀ x∈l,Byt (f x)):Byt (l.flatMap f):=fun y hy=>by
 obtain ⟨x,hx,hy⟩:=List.mem_flatMap.1 hy
 exact h x hx y hy
theorem zB6{n:Nat}(h:n<4294967296):Byt (szB ((n:Nat):Int)):=by
 by_cases h1:n<253
 ·rw [zLv h1]; exact zqz _ _
 ·by_cases h2:n<65536
  ·rw [zLl h1 h2]; exact zfS (zqz _ _) (zqz _ _)
  ·rw [zLq h1 h2 h]; exact zfS (zqz _ _) (zqz _ _)
theorem zzc{n:Int}(h:0≤n∧n≤4294967295):Byt (zwy n):=by
 obtain ⟨m,rfl⟩:∃ m:Nat,n=(m:Int):=⟨n.toNat,by omega⟩
 rw [zvJ (by omega)]; exact zqz _ _
theorem zJB{s:List Int}(h:Byt s)(hl:s.length≤1000000):Byt (bsB s):=zfS (zB6 (by omega)) h
theorem zK9{x:Inp}(h:InpOk x):Byt (zuc x):=by
 have hp:=h.pv
 rw [zBm (by omega),zAx (by omega)]
 intro y hy
 obtain ⟨i,hi,rfl⟩:=Xn.1 hy
 exact h.by_ i (List.mem_range.1 hi)
theorem zKU{t:TxT}(h:TxOk t)(hi:∀ x∈t.ins,InOk x)(ho:∀ x∈t.outs,OutOk x)(li:t.ins.length≤64)(lo:t.outs.length≤64):Byt (zkj t true):=by
 unfold zkj
 simp only [if_true]
 refine zfS (zfS (zfS (zfS (zfS (zfS (zzc h.ver) (zB6 (by omega))) (zBN fun x hx=>?_)) (zB6 (by omega))) (zBN fun o hx=>?_)) (zzc h.lock)) (zBN fun x hx=>?_)
 ·exact zfS (zfS (zK9 (h.ins x hx)) (zzc (hi x hx).ix)) (zzc (hi x hx).sq)
 ·have hv:=(ho o hx).val
  have hs:=(ho o hx).scr
  obtain ⟨v,hv2⟩:∃ n:Nat,o.val=(n:Int):=⟨o.val.toNat,by omega⟩
  unfold zk5
  rw [hv2,zbY (by omega) (by omega),zHt]
  exact zfS (zqz _ _) (zJB (h.outs o hx).scr (by omega))
 ·have h1:=(hi x hx).wl
  unfold zoM
  refine zfS (zB6 (by omega)) (zBN fun y hy=>?_)
  have:=(hi x hx).wi y hy
  exact zJB ((h.ins x hx).wit y hy).1 (by omega)
theorem zH2{t:TxT}(h:zhT t=true):t.ins.length≤64∧t.outs.length≤64∧(∀ o∈t.outs,0≤o.val∧o.scr.length≤520)∧(∀ x∈t.ins,x.wit.length≤32∧∀ y∈x.wit,y.length≤520)∧(zkj t true).length≤20000:=by
 unfold zhT at h
 simp only [Bool.and_eq_true,decide_eq_true_eq,List.all_eq_true,okO,okI] at h
 obtain ⟨⟨⟨⟨h1,h2⟩,h3⟩,h4⟩,h5⟩:=h
 exact ⟨h1,h2,h3,h4,h5⟩
end
section
set_option maxRecDepth 100000
variable {β:Type}
theorem zKk(z:Int):0≤QF .u8 z∧QF .u8 z≤255:=by
 have e:QF .u8 z=z % 256:=rfl
 rw [e]; omega
theorem zKn{L:Nat}(hL:2000≤L){t:TxT}(h:KeptP t)(w:Bool)(k:List (List V)→Int→Option β):z7 β L (zbR t) w k=if zhT t=true then k (yk .u8 (zkj t w)) 0 else k (yk .u8 []) 4:=by
 unfold z7 zpv
 have l4:=zhv t
 rw [zj (by omega),zyN,zIH hL h,zA7 hL h]
 cases hf:zhT t with
 | true=>rw [if_pos rfl,Xi,zkU,zj (by omega)]
 | false=>rfl
theorem zJz(kd:IntKind){l:List Int}{i:Nat}(h:i<l.length)(x:Int):xm (row kd l) i [V.sc (.int kd x)]=row kd (l.set i x):=by
 unfold xm row
 rw [List.set_eq_take_append_cons_drop,if_pos h]
 simp
theorem zHc(kd:IntKind){l:List Int}{n:Nat}(h:n≤l.length):zl 1 n (row kd l)=yk kd (l.take n):=by
 rw [← zt0,zGJ (sz:=1) (fun e he=>by unfold yk at he; obtain ⟨x,_,rfl⟩:=Xn.1 he; rfl) (by rw [y7]; exact h)]
 simp [yk,List.map_take]
theorem zIU(kd:IntKind){l:List Int}(h:l≠[]):zqZ (yk kd l)=true:=by
 unfold zqZ
 rw [Bool.and_eq_true]
 refine ⟨?_,?_⟩
 ·cases l with
  | nil=>exact absurd rfl h
  | cons x l=>rfl
 ·rw [zt0,List.all_eq_true]
  intro v hv
  obtain ⟨x,_,rfl⟩:=Xn.1 hv
  rfl
theorem zLT{l:List Int}(h:Byt l){i:Nat}{x:Int}(hx:0≤x∧x≤255):Byt (l.set i x):=by
 intro y hy
 rcases List.mem_or_eq_of_mem_set hy with q | q
 ·exact h y q
 ·rw [q]; exact hx
theorem zKY{l:List Int}(h:Byt l)(n:Nat):Byt (l.take n):=fun y hy=>h y (List.mem_of_mem_take hy)
theorem zMZ{kd:IntKind}{l:List Int}(h:l≠[]):(row kd l).isEmpty=false:=by
 cases l with
 | nil=>exact absurd rfl h
 | cons x l=>rfl
theorem tm1(x n:Nat):Int.tmod (x:Int) (n:Int)=((x % n:Nat):Int):=rfl
theorem tm2(x n:Nat):Int.tmod (x:Int) ((n:Int)+1)=((x % (n+1):Nat):Int):=rfl
theorem tm3(x:Nat):Int.tmod (x:Int) (3:Int)=((x % 3:Nat):Int):=rfl
theorem zLA(A B:Option β):ifb (zqZ (yk .u8 [])) A B=B:=rfl
theorem zL8(t:TxT):gTx [] 0≠.ok (t,0):=by intro h; cases h
theorem zDz(a0:List V)(a1 a2 a3:Int)(wf0:HasRow ([.int .u32]++[.sl (We 32 (.int .u8)++We 2 (.int .u32)++[.sl ([.sl ([.int .u8])])])]++[.sl ([.int .i64]++[.sl ([.int .u8])])]++[.int .u32]) a0)(wf1:(Lit.int .u16 a1).wf=true)(wf2:(Lit.int .u8 a2).wf=true)(wf3:(Lit.int .u8 a3).wf=true):∃ L,∀ k:Bool→Option Bool,zcH Bool L a0 a1 a2 a3 k=k true:=by
 obtain ⟨t,rfl,ht⟩:=zM4 wf0
 obtain ⟨L,hL⟩:∃ L:Nat,2000≤L:=⟨2000,Nat.le_refl _⟩
 refine ⟨L,fun k=>?_⟩
 have l4:=zhv t
 have h1:0≤a1∧a1≤65535:=zML wf1
 have h3:0≤a3∧a3≤255:=zE9 wf3
 obtain ⟨x,rfl⟩:∃ x:Nat,a1=(x:Int):=⟨a1.toNat,by omega⟩
 obtain ⟨c,rfl⟩:∃ c:Nat,a3=(c:Int):=⟨a3.toNat,by omega⟩
 unfold zcH znf
 rw [zMa (by omega)]
 simp only [Xi,zkU]
 rw [zj (by omega),zyN,zMF hL]
 cases hk:zAW t with
 | false=>rw [Bool.not_false,zxf]
 | true=>
  rw [Xi,zkU]
  rw [zse,zsg,zk,zbc]
  split
  ·rfl
  ·rw [zj (by omega),zKn hL (zM0 hk)]
   by_cases hf:zhT t=true
   ·obtain ⟨f1,f2,f3,f4,f5⟩:=zH2 hf
    have hi:∀ x∈t.ins,InOk x:=fun x hx=>⟨(ht.ins x hx).pv,(ht.ins x hx).ix,(ht.ins x hx).seq,(f4 x hx).1,(f4 x hx).2⟩
    have ho:∀ x∈t.outs,OutOk x:=fun x hx=>⟨⟨(f3 x hx).1,(ht.outs x hx).val.2⟩,(f3 x hx).2⟩
    have hbe:=zKU ht hi ho f1 f2
    have hne:zkj t true≠[]:=by
     intro e
     have:=zNE ht.ver ht.lock hi ho f1 f2 f5
     rw [e] at this
     exact zL8 t this
    generalize zkj t true=j at hbe f5 hne
    have hj:0<j.length:=List.length_pos_iff.2 hne
    have hx:x % j.length<j.length:=Nat.mod_lt _ hj
    rw [if_pos hf,zIU .u8 hne,zxf,xw,if_pos rfl,zk,y7,zj (by omega),yH (by omega) (by omega),zk,tm1,zj (by omega),zt0,Nat.zero_add,Nat.mul_one,Int.toNat_natCast]
    rw [zpf (n:=j[x % j.length]) (by simp [row,hx]),zk,zj (by omega),zj ⟨trivial,by rw [zcd]; omega⟩,zJz .u8 hx,zk,zk,yH (by omega) (by omega),zk,yH (by omega) (by omega),zj (by omega),zk,tm2,zk,tm3,zk]
    have hc:c % (j.length+1) % 3≤j.length:=Nat.le_trans (Nat.mod_le _ _) (Nat.le_of_lt_succ (Nat.mod_lt _ (by omega)))
    generalize c % (j.length+1) % 3=y at hc
    rw [yH (by omega) (by omega),zj (by omega),show ((j.length:Int)-(y:Int))=((j.length-y:Nat):Int) by omega,Int.toNat_natCast,Nat.sub_zero]
    have hset:(j.set (x % j.length) (QF .u8 (j[x % j.length]+a2))).length=j.length:=by simp
    have hb:Byt (j.set (x % j.length) (QF .u8 (j[x % j.length]+a2))):=zLT hbe (zKk _)
    generalize j.set (x % j.length) (QF .u8 (j[x % j.length]+a2))=m at hset hb
    have hm:m≠[]:=by intro e; rw [e] at hset; simp at hset; omega
    rw [zMZ hm,zkU,zHc .u8 (by omega)]
    have hb':=zKY hb (j.length-y)
    have hl':(m.take (j.length-y)).length≤100000000:=by rw [List.length_take]; omega
    generalize m.take (j.length-y)=q at hb' hl'
    obtain ⟨u,e,hu,d1,d2⟩:=zG0 (β:=Bool) (L:=L) (by omega) hb' hl'
    have lu:=zhv u
    rw [d1,zj (by omega),zhI,zk,d2,zj (by omega),zhI,zk,zaJ rfl,zj (by omega),zj (by omega),zyN,zMp (by omega) hu]
   ·rw [if_neg hf,zLA,xw,if_neg (by decide)]
end
section
namespace txSpoiltL
open Go.ChangeShapes Go.WideShapes Go.ChangeAt Go.RowKit
theorem own:ownKnob Try.prog.godebug=none:=by kernel_rfl
theorem zzq:laidOutB Try.prog=true:=by kernel_rfl
set_option maxRecDepth 100000 in
theorem zMA(os:Os)(started:os.Started)(H:Type)(enc:TypeId × Value→H) :
  ReturnsInHanded {} Try.checked os 8 .any (Rows.txSpoiltSpec.pre6 enc Try.prog Try.f8 Rows.txSpoiltRow.domain false) (Rows.txSpoiltSpec.post enc Try.prog Try.f8 false true false false):=by
 refine returnsInHanded_of_change (C:=Try.checked) own started (by kernel_rfl) Try.func8
  (ChangeSpec.witness6 (enc:=enc) (C:=Try.checked) false ⟨#[],#[.agg (#[(Value.int .u32 0)]++#[(Value.slice none 0 0)]++#[(Value.slice none 0 0)]++#[(Value.int .u32 0)]),.int .u16 0,.int .u8 0,.int .u8 0],[]⟩ 8 (by kernel_rfl) (by kernel_rfl) (by kernel_rfl) (by kernel_rfl)) ?_
 intro W base args ds gs before hval0 hW hcnd _
 have hval:∀ (j:Nat) t v,Try.f8.params[j]?=some t→args[j]?=some v→Value.okWide Try.prog W .any base t v:=hval0
 have hW':=hW
 obtain ⟨p,q,hA0,hV,rfl,hfz,hnd⟩:=hW
 have hA:DataW.TrodAll enc Try.prog W 0 (fun _=>true) true Try.f8.params.toList args.toList ds p:=hA0
 rw [Try.params8] at hA hval
 obtain ⟨v0,vs0,d0,ds0,p0,q0,hargs,rfl,rfl,h0,r0⟩:=trodAll_cons hA
 obtain ⟨v1,vs1,d1,ds1,p1,q1,rfl,rfl,rfl,h1,r1⟩:=trodAll_cons r0
 obtain ⟨v2,vs2,d2,ds2,p2,q2,rfl,rfl,rfl,h2,r2⟩:=trodAll_cons r1
 obtain ⟨v3,vs3,d3,ds3,p3,q3,rfl,rfl,rfl,h3,r3⟩:=trodAll_cons r2
 obtain ⟨rfl,rfl,rfl⟩:=trodAll_nil r3
 obtain rfl:args=#[v0,v1,v2,v3]:=by cases args; simp_all
 obtain ⟨rfl,rfl⟩:=trodVars_none hV
 have k0:=h0
 have lt0:∀ x∈p0,x.block<W.heap.size:=by obtain ⟨m,hm⟩:=k0; exact DataW.trod_lt m _ _ _ hm
 have k1:=h1
 have lt1:∀ x∈p1,x.block<W.heap.size:=by obtain ⟨m,hm⟩:=k1; exact DataW.trod_lt m _ _ _ hm
 have k2:=h2
 have lt2:∀ x∈p2,x.block<W.heap.size:=by obtain ⟨m,hm⟩:=k2; exact DataW.trod_lt m _ _ _ hm
 have k3:=h3
 have lt3:∀ x∈p3,x.block<W.heap.size:=by obtain ⟨m,hm⟩:=k3; exact DataW.trod_lt m _ _ _ hm
 obtain ⟨a0,wf0,rp0⟩:=zLP (ren:=xK fg gls) (d:=20) (cts:=[.int .u32]++[.sl (We 32 (.int .u8)++We 2 (.int .u32)++[.sl ([.sl ([.int .u8])])])]++[.sl ([.int .i64]++[.sl ([.int .u8])])]++[.int .u32]) (by kernel_rfl) (hval 0 26 v0 rfl rfl) h0 (by kernel_rfl)
 obtain ⟨a1,rfl,rfl,rfl,wf1⟩:=open_int Try.underlying51 (hval 1 51 v1 rfl rfl) h1
 obtain ⟨a2,rfl,rfl,rfl,wf2⟩:=open_int Try.underlying5 (hval 2 5 v2 rfl rfl) h2
 obtain ⟨a3,rfl,rfl,rfl,wf3⟩:=open_int Try.underlying5 (hval 3 5 v3 rfl rfl) h3
 clear hA0 hval0
 obtain ⟨L,hL⟩:=zDz a0 a1 a2 a3 wf0 wf1 wf2 wf3
 have hd:zjh zcH L Bool [(V.agg a0),(Qb a1),(Qa a2),(Qa a3)] [] zzj=some true:=by
  show (aG (V.agg a0) fun x0=>aI .u16 (Qb a1) fun x1=>aI .u8 (Qa a2) fun x2=>aI .u8 (Qa a3) fun x3=>zcH Bool L x0 x1 x2 x3 (fun p=>zzj (V.sc (.bool p)) []))=some true
  rw [zNa,zIu,zIu,zIu]
  exact (hL (fun p=>zzj (V.sc (.bool p)) [])).trans rfl
 obtain ⟨v,b,hev,hk⟩:=zyC L 100 (by decide) Bool [(V.agg a0),(Qb a1),(Qa a2),(Qa a3)] [] zzj true hd
 have hv:=zJK hk
 subst hv
 refine (zIh (us:=[v0,.int .u16 a1,.int .u8 a2,.int .u8 a3]) (w:=W) (fun _ _ h=>by cases h) (zM9 L 100) (f:=8) (by kernel_rfl) rfl (fun i x u hx hu=>?_) hev).mono fun e W' ⟨he,bel0⟩=>?_
 ·match i,hx,hu with
  | 0,hx,hu=>cases hx; cases hu; exact rp0
  | 1,hx,hu=>cases hx; cases hu; exact .sc _ rfl
  | 2,hx,hu=>cases hx; cases hu; exact .sc _ rfl
  | 3,hx,hu=>cases hx; cases hu; exact .sc _ rfl
  | n+4,hx,hu=>simp at hx
 ·have bel:=Kept.below bel0
  subst he
  exact ⟨_,rfl,_,_,_,[],_,[],hW',trodAll_mk1 (shut_bool Try.underlying4 _),(trodAll_cons_mk (Below.trod zzq (by kernel_rfl) (of_decide_eq_true (by kernel_rfl)) k0 bel lt0) (trodAll_cons_mk (Below.trod zzq (by kernel_rfl) (of_decide_eq_true (by kernel_rfl)) k1 bel lt1) (trodAll_cons_mk (Below.trod zzq (by kernel_rfl) (of_decide_eq_true (by kernel_rfl)) k2 bel lt2) (trodAll_cons_mk (Below.trod zzq (by kernel_rfl) (of_decide_eq_true (by kernel_rfl)) k3 bel lt3) trodAll_mk0)))),rfl,bel.frame _,fun h=>by cases h⟩
theorem over:Rows.txSpoiltRow.holds Try.pinned (OpenSpec.ofChange Rows.txSpoiltSpec):=
 OpenClaim.holds_of_wide 8 Try.f8 rfl rfl rfl rfl rfl rfl rfl ⟨rfl,rfl,rfl,rfl,rfl⟩ rfl rfl rfl rfl rfl (by kernel_rfl) Try.func8 (by kernel_rfl)
  (of_decide_eq_true (by kernel_rfl)) (by unfold Func.isWrapper; first | (rw [if_pos (by decide +kernel)]; kernel_rfl) | (rw [if_neg (by decide +kernel)]; exact ⟨rfl,rfl⟩))
  (fun os started H enc _=>zMA os started H enc)
end txSpoiltL
theorem txSpoilt_holds:Rows.TxSpoiltSaid:=txSpoiltL.over
end
end Go.Proofs.Ytoeobffjdbdpgaa
