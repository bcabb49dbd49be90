/- RelayHears: for every input the call returns true, and each argument reads afterwards as it read before. No condition. -/
import Derived.Test.YtpbbfpfmdckclaaMRelayHears10
namespace Go.Proofs.Ytpbbfpfmdckclaa
section
set_option linter.unusedVariables false
set_option linter.unusedSimpArgs false
variable {β:Type}
structure Stm where
 id:List Int
 fr:Int
 to:Int
 due:Int
 hid:id.length=32
def Stm.v (s:Stm):List V:=row .u8 s.id++[V.sc (.int .i64 s.fr),V.sc (.int .i64 s.to),V.sc (.int .u32 s.due)]
structure Hs where
 l:List Int
 hl:l.length=32
def Hs.v (h:Hs):List V:=row .u8 h.l
structure Rl where
 ep:Int
 df:Bool
 rt:List Int
 st:List Stm
 fl:List Hs
def Rl.v (r:Rl):List V:=[V.sc (.int .u32 r.ep),V.sc (.bool r.df),V.sl 1 (zaz .i64 r.rt),V.sl 35 (r.st.map Stm.v),V.sl 32 (r.fl.map Hs.v)]
structure Rl.Ok (r:Rl):Prop where
 nr:r.rt.length≤500
 ns:r.st.length≤500
 nf:r.fl.length≤500
theorem zhz (r:Rl) (k:Int→Option β):cI .u32 r.v 0 k=k r.ep:=zdl rfl k
theorem zgB (r:Rl) (k:Bool→Option β):cB r.v 1 k=k r.df:=zzY rfl k
theorem zjT (r:Rl) (k:List (List V)→Option β):cL 1 r.v 2 k=k (zaz .i64 r.rt):=zt4 rfl k
theorem zjn (r:Rl) (k:List (List V)→Option β):cL 35 r.v 3 k=k (r.st.map Stm.v):=zt4 rfl k
theorem zjc (r:Rl) (k:List (List V)→Option β):cL 32 r.v 4 k=k (r.fl.map Hs.v):=zt4 rfl k
theorem zdt (r:Rl) (k:List (List V)→Option β):cLd 1 r.v 2 k=k (zaz .i64 r.rt):=zrW rfl k
theorem zi7 (r:Rl) (k:List (List V)→Option β):cLd 35 r.v 3 k=k (r.st.map Stm.v):=zrW rfl k
theorem znp (r:Rl) (k:List (List V)→Option β):cLd 32 r.v 4 k=k (r.fl.map Hs.v):=zrW rfl k
theorem zsX (r:Rl):List.map V.dem (List.take 5 r.v)=r.v:=Eq.trans rfl rfl
theorem zwD (r:Rl):List.take 5 r.v=r.v:=Eq.trans rfl rfl
theorem zsO (r:Rl):za [(V.sc (.int .u32 (0:Int))),(V.sc (.bool false)),(V.gs 1 ([]:List (List V))),(V.gs 35 ([]:List (List V))),(V.gs 32 ([]:List (List V)))] 0 r.v=r.v:=zp8 rfl
theorem zgT (r:Rl) (k:Option β):chk (List.length r.v=5) k=k:=yt rfl k
theorem zhk (r:Rl) (k:Option β):chk (0+5≤List.length r.v) k=k:=yt (by show 0+5≤5; omega) k
theorem zqE (r:Rl) (k:Option β):chk ((List.length r.v)=5∧0+5≤5) k=k:=yt ⟨rfl,by decide⟩ k
theorem zjz (s:Stm):s.v.length=35:=by rw [Stm.v,List.length_append,zhq,s.hid]; rfl
theorem zon (s:Stm):List.take 35 s.v=s.v:=List.take_of_length_le (by rw [zjz]; omega)
theorem zAj (s:Stm):List.take 32 s.v=row .u8 s.id:=by
 rw [Stm.v,List.take_append_of_le_length (by rw [zhq,s.hid]; omega),List.take_of_length_le (by rw [zhq,s.hid]; omega)]
theorem zxT (s:Stm):za (List.replicate 32 (V.sc (.int .u8 (0:Int)))++[(V.sc (.int .i64 (0:Int))),(V.sc (.int .i64 (0:Int))),(V.sc (.int .u32 (0:Int)))]) 0 s.v=s.v:=zp8 (by rw [zjz]; rfl)
theorem zz9 (s:Stm) (k:Option β):chk ((List.length (List.take 35 s.v))=35∧0+35≤35) k=k:=yt ⟨by rw [zon,zjz],by decide⟩ k
theorem zwF (s:Stm) (k:Option β):chk (0+32≤(List.length s.v)) k=k:=yt (by rw [zjz]; omega) k
theorem zcu (h:Hs):h.v.length=32:=by rw [Hs.v,zhq,h.hl]
theorem zbf (h:Hs):List.take 32 h.v=h.v:=List.take_of_length_le (by rw [zcu]; omega)
theorem zvL (h:Hs):za (List.replicate 32 (V.sc (.int .u8 (0:Int)))) 0 h.v=h.v:=zp8 (by rw [zcu]; rfl)
theorem zx9 (h:Hs) (k:Option β):chk ((List.length (List.take 32 h.v))=32∧0+32≤32) k=k:=yt ⟨by rw [zbf,zcu],by decide⟩ k
theorem zbQ (h:Hs) (k:Option β):chk (0+32≤(List.length h.v)) k=k:=yt (by rw [zcu]; omega) k
theorem zsc (a b:Hs) (k:Bool→Option β):eqC 32 a.v b.v k=k (decide (a.l=b.l)):=zzI .u8 a.hl b.hl k
def Stm.h (s:Stm):Hs:=⟨s.id,s.hid⟩
theorem ztO (s:Stm):List.take 32 s.v=s.h.v:=zAj s
theorem zhG {l:List Stm} {i:Nat} (h:i < l.length):(l.map Stm.v)[i]?=some l[i].v:=by simp [h]
theorem ziX {l:List Hs} {i:Nat} (h:i < l.length):(l.map Hs.v)[i]?=some l[i].v:=by simp [h]
def isH (h:Hs) (x:Hs):Bool:=decide (x.l=h.l)
def isS (h:Hs) (x:Stm):Bool:=decide (x.id=h.l)
theorem zyA (a b:List Int):decide (a=b)=decide (b=a):=decide_eq_decide.2 ⟨Eq.symm,Eq.symm⟩
theorem zyO {α:Type} {l:List α} {p:α→Bool} {i:Nat} (h:i < l.length):(l.drop i).any p=(p l[i] || (l.drop (i+1)).any p):=by
 rw [List.drop_eq_getElem_cons h]; rfl
theorem zqs {α:Type} {l:List α} {p:α→Bool} {i:Nat} (h:i < l.length):zgV p (l.drop i) i=if p l[i]=true then (i:Int) else zgV p (l.drop (i+1)) (i+1):=by
 rw [List.drop_eq_getElem_cons h]; rfl
theorem zvB (L:Nat) (h:Hs) (l:List Hs) (hl:l.length≤100000) (kr:Bool→Option β) (kx:Option β):∀ (n i:Nat),i≤l.length→l.length - i < n →
  zeF L kr kx n (l.map Hs.v) (i:Int) h.v=ifb ((l.drop i).any (isH h)) (kr true) kx
 | 0,i,h1,h2=>by omega
 | n+1,i,h1,h2=>by
  simp only [zeF,zjX,yH,List.length_map]
  by_cases hi:i < l.length
  ·rw [xI (by omega),zaI (ziX hi),zbQ,zbf,zbf,zsc,z8 (by omega),zvB L h l hl kr kx n (i+1) (by omega) (by omega),zyO hi]
   show ifb (isH h l[i]) _ _=_
   cases isH h l[i] <;> rfl
  ·rw [zE (by omega),List.drop_of_length_le (by omega)]; rfl
theorem zvx {L:Nat} {l:List Hs} (hl:l.length≤1000) (hL:2000≤L) (h:Hs) (k:Bool→Option β):xc β L (l.map Hs.v) h.v k=k (l.any (isH h)):=by
 unfold xc zkX znX
 refine (zvB L h l (by omega) _ _ L 0 (by omega) (by omega)).trans ?_
 unfold zgY zhQ
 rw [List.drop_zero]
 cases l.any (isH h) <;> rfl
theorem zuj (L:Nat) (h:Hs) (l:List Stm) (hl:l.length≤100000) (k:Int→Option β):∀ (n i:Nat),i≤l.length→l.length - i < n →
  zd3 L k (k (-1)) n (l.map Stm.v) (i:Int) h.v=k (zgV (isS h) (l.drop i) i)
 | 0,i,h1,h2=>by omega
 | n+1,i,h1,h2=>by
  simp only [zd3,ziB,yH,List.length_map]
  by_cases hi:i < l.length
  ·rw [xI (by omega),zaI (zhG hi),zbQ,ztO,zbf,zsc,z8 (by omega),zuj L h l hl k n (i+1) (by omega) (by omega),zqs hi]
   show ifb (isS h l[i]) _ _=_
   cases isS h l[i] <;> rfl
  ·rw [zE (by omega),List.drop_of_length_le (by omega)]; rfl
theorem zwn {L:Nat} {l:List Stm} (hl:l.length≤1000) (hL:2000≤L) (h:Hs) (k:Int→Option β):zb β L (l.map Stm.v) h.v k=k (zgV (isS h) l 0):=by
 unfold zb zjA zmC
 have:=zuj L h l (by omega) k L 0 (by omega) (by omega)
 rw [List.drop_zero] at this
 exact this
theorem zss (L:Nat) (h:Hs) (l:List Hs) (hl:l.length≤100000) (k:Int→Option β):∀ (n i:Nat),i≤l.length→l.length - i < n →
  yU L k (k (-1)) n (l.map Hs.v) (l.length:Int) (i:Int) h.v=k (zgV (isH h) (l.drop i) i)
 | 0,i,h1,h2=>by omega
 | n+1,i,h1,h2=>by
  simp only [yU,zbl,yH]
  by_cases hi:i < l.length
  ·rw [xI (by omega),zaI (ziX hi),zbQ,zbf,zbf,zsc,zyA,z8 (by omega),zss L h l hl k n (i+1) (by omega) (by omega),zqs hi]
   show ifb (isH h l[i]) _ _=_
   cases isH h l[i] <;> rfl
  ·rw [zE (by omega),List.drop_of_length_le (by omega)]; rfl
theorem zv5 {L:Nat} {l:List Hs} (hl:l.length≤1000) (hL:2000≤L) (h:Hs) (k:Bool→Option β):zh β L (l.map Hs.v) h.v k=k (l.any (isH h)):=by
 unfold zh zbo
 rw [zbQ,zbf]
 unfold xn zaM zbZ
 rw [List.length_map]
 have:=zss L h l (by omega) (fun v0=>k (decide (v0 ≥ (0:Int)))) L 0 (by omega) (by omega)
 rw [List.drop_zero,zt1] at this
 exact this
theorem zyt (L:Nat) (s:Stm) (h:Hs) (k:Bool→List V→Option β):zg β L s.v h.v k=k (isS h s) h.v:=by
 unfold zg zko
 rw [zwF,zbQ,ztO,zbf,zsc]; exact Eq.trans rfl rfl
theorem zri (L:Nat) (h:Hs) (l:List Stm) (hl:l.length≤100000) (k:Int→List V→Option β):∀ (n i:Nat),i≤l.length→l.length - i < n →
  xN zg L k (k (-1)) n (l.map Stm.v) (l.length:Int) (i:Int) h.v=k (zgV (isS h) (l.drop i) i) h.v
 | 0,i,h1,h2=>by omega
 | n+1,i,h1,h2=>by
  simp only [xN,zaV,yH]
  by_cases hi:i < l.length
  ·rw [xI (by omega),zaI (zhG hi),zon]
   rw [zyt,yt rfl,z8 (by omega),zri L h l hl k n (i+1) (by omega) (by omega),zqs hi]
   cases isS h l[i] <;> rfl
  ·rw [zE (by omega),List.drop_of_length_le (by omega)]; rfl
theorem zzo {L:Nat} {l:List Stm} (hl:l.length≤1000) (hL:2000≤L) (a:Int) (b:Bool) (c d:List (List V)) (h:Hs) (k:Int→Option β):zW β L a b c (l.map Stm.v) d h.v k=k (zgV (isS h) l 0):=by
 unfold zW zmE zk zan zbi
 rw [List.length_map]
 have:=zri L h l (by omega) (fun v0 v1=>chk ([(List.length v1)]=[(List.length h.v)]) (k v0)) L 0 (by omega) (by omega)
 rw [List.drop_zero] at this
 exact this.trans (yt rfl _)
theorem zsT (L:Nat) (l:List Int) (hl:l.length≤100000) (kr:Bool→Option β) (kx:Option β):∀ (n i:Nat),i≤l.length→l.length - i < n →
  zcc L kr kx n (zaz .i64 l) (zaz .i64 l) (i:Int)=kx
 | 0,i,h1,h2=>by omega
 | n+1,i,h1,h2=>by
  simp only [zcc,ze9,yH,yR]
  by_cases hi:i < l.length
  ·rw [xI (by omega),zaI (zmV _ hi),zdl rfl,zaI (zmV _ hi),zdl rfl,zbR,if_pos rfl,z8 (by omega)]
   exact zsT L l hl kr kx n (i+1) (by omega) (by omega)
  ·rw [zE (by omega)]
theorem zAQ {L:Nat} {l:List Int} (hl:l.length≤1000) (hL:2000≤L) (k:Bool→Option β):yf β L (zaz .i64 l) (zaz .i64 l) k=k true:=by
 unfold yf zfP zix
 rw [zbR,if_pos rfl]
 exact zsT L l (by omega) _ _ L 0 (by omega) (by omega)
theorem zs9 (L:Nat) (l:List Hs) (hl:l.length≤100000) (kr:Bool→Option β) (kx:Option β):∀ (n i:Nat),i≤l.length→l.length - i < n →
  zbC L kr kx n (l.map Hs.v) (l.map Hs.v) (i:Int)=kx
 | 0,i,h1,h2=>by omega
 | n+1,i,h1,h2=>by
  simp only [zbC,zer,yH,List.length_map]
  by_cases hi:i < l.length
  ·rw [xI (by omega),zaI (ziX hi),zaI (ziX hi),zbf,zsc,decide_eq_true rfl,z8 (by omega)]
   exact zs9 L l hl kr kx n (i+1) (by omega) (by omega)
  ·rw [zE (by omega)]
theorem zAV {L:Nat} {l:List Hs} (hl:l.length≤1000) (hL:2000≤L) (k:Bool→Option β):ye β L (l.map Hs.v) (l.map Hs.v) k=k true:=by
 unfold ye zeE zhe
 rw [zbR,if_pos rfl]
 exact zs9 L l (by omega) _ _ L 0 (by omega) (by omega)
theorem zrh {k:IntKind}:∀ (l:List Int) (t:List V),zcB t t=some true→zcB (row k l++t) (row k l++t)=some true
 | [],t,h=>h
 | x::l,t,h=>by
  have:=zrh (k:=k) l t h
  simp only [row] at this
  simp only [row,List.map_cons,List.cons_append,zcB,if_true,this,Option.map_some,BEq.rfl,Bool.and_true]
theorem zAK (s:Stm) (k:Bool→Option β):eqC 35 s.v s.v k=k true:=by
 have:zcB s.v s.v=some true:=zrh s.id _ (by simp [zcB])
 simp only [eqC,zjz,and_self,zqG,this]
theorem zue (L:Nat) (r:Rl) (hr:r.Ok) (kr:Bool→Option β) (kx:Option β):∀ (n i:Nat),i≤r.st.length→r.st.length - i < n →
  zdH yf ye L kr kx n (i:Int) r.v r.v=kx
 | 0,i,h1,h2=>by omega
 | n+1,i,h1,h2=>by
  have hs:=hr.ns
  simp only [zdH,zhT,yH,zi7,List.length_map]
  by_cases hi:i < r.st.length
  ·rw [xI (by omega),zaI (zhG hi),zaI (zhG hi),zon,zAK,z8 (by omega)]
   exact zue L r hr kr kx n (i+1) (by omega) (by omega)
  ·rw [zE (by omega)]
theorem zzw {L:Nat} {r:Rl} (hr:r.Ok) (hL:2000≤L) (k:Bool→Option β):yc β L r.v r.v k=k true:=by
 have h1:=hr.nr; have h2:=hr.ns; have h3:=hr.nf
 unfold yc zje zmB
 rw [zhz,zhz,zbR,if_pos rfl,zgB,zgB,BEq.rfl,Bool.not_true,xH,zdt,zdt,zAQ (by omega) hL,Bool.not_true,xH,znp,znp,zAV (by omega) hL,Bool.not_true,xH,zi7,zi7,zbR,if_pos rfl]
 exact zue L r hr _ _ L 0 (by omega) (by omega)
end
section
set_option linter.unusedVariables false
set_option linter.unusedSimpArgs false
variable {β:Type}
def za7:List (List Int)→List (List Int)→Bool
 | _,[]=>true
 | N,x::l=>!(decide (x ∈ N)) && za7 (N++[x]) l
theorem zsk:∀ (l N:List (List Int)),za7 N l=true↔l.Nodup∧∀ x ∈ l,x ∉ N
 | [],N=>by simp [za7]
 | x::l,N=>by
  rw [za7,Bool.and_eq_true,zsk l (N++[x])]
  simp only [Bool.not_eq_true',decide_eq_false_iff_not,List.nodup_cons,List.mem_cons,List.mem_append,List.mem_singleton,List.not_mem_nil,or_false]
  constructor
  ·rintro ⟨h1,h2,h3⟩
   refine ⟨⟨fun hx=>h3 x hx (.inr rfl),h2⟩,?_⟩
   rintro y (rfl | hy)
   ·exact h1
   ·exact fun hn=>h3 y hy (.inl hn)
  ·rintro ⟨⟨h1,h2⟩,h3⟩
   refine ⟨h3 x (.inl rfl),h2,fun y hy hn=>?_⟩
   rcases hn with hn | rfl
   ·exact h3 y (.inr hy) hn
   ·exact h1 hy
def zcN (r:Rl):List (List Int):=r.st.map (·.id)
def zdB (r:Rl):List (List Int):=r.fl.map (·.l)
def rtB (rt:List Int):Bool:=rt.all (fun x=>decide (0≤x)) && !(decide (rt.length=2) && decide (rt.getD 0 0=rt.getD 1 0))
def zkL (r:Rl):Bool:=decide (r.rt.length≤2) && (decide (r.st.length≤64) && (decide (r.fl.length≤2048) && (rtB r.rt && (za7 [] (zcN r) && za7 (zcN r) (zdB r)))))
def zig (N:List (List Int)):List (V × V):=N.map fun l=>(V.agg (row .u8 l),V.sc (.bool true))
theorem zqr (a b:List Int) (h:a.length=b.length):zgx (V.agg (row .u8 a)) (V.agg (row .u8 b))=some (decide (a=b)):=by
 simp only [zgx,zhq,h,if_true,zmp .u8 a b h]
theorem zsM (a:List Int) (ha:a.length=32):∀ N:List (List Int),(∀ x ∈ N,x.length=32)→zlZ (V.agg (row .u8 a)) (zig N)=some (if a ∈ N then some (V.sc (.bool true)) else none)
 | [],_=>rfl
 | x::N,h=>by
  have ih:=zsM a ha N (fun y hy=>h y (List.mem_cons_of_mem _ hy))
  have hx:=h x (List.mem_cons_self ..)
  simp only [zig,List.map_cons,zlZ,zqr a x (by omega)] at ih ⊢
  by_cases e:a=x
  ·subst e; simp
  ·simp only [decide_eq_false e,List.mem_cons,e,false_or]; exact ih
theorem zub (a:List Int) (ha:a.length=32):∀ N:List (List Int),(∀ x ∈ N,x.length=32)→∃ m,zpX (V.agg (row .u8 a)) (V.sc (.bool true)) (zig N)=some m∧(a ∉ N→m=zig (N++[a]))
 | [],_=>⟨_,rfl,fun _=>rfl⟩
 | x::N,h=>by
  obtain ⟨m,e1,e2⟩:=zub a ha N (fun y hy=>h y (List.mem_cons_of_mem _ hy))
  have hx:=h x (List.mem_cons_self ..)
  by_cases e:a=x
  ·subst e
   refine ⟨(V.agg (row .u8 a),V.sc (.bool true))::zig N,?_,fun hn=>absurd (List.mem_cons_self ..) hn⟩
   simp only [zig,List.map_cons,zpX,zqr a a rfl,decide_true]
  ·refine ⟨(V.agg (row .u8 x),V.sc (.bool true))::m,?_,fun hn=>?_⟩
   ·simp only [zig,List.map_cons,zpX,zqr a x (by omega),decide_eq_false e] at e1 ⊢
    rw [e1]; rfl
   ·rw [e2 (fun hm=>hn (List.mem_cons_of_mem _ hm))]; rfl
theorem zx7 (L:Nat) (h:Hs) (N:List (List Int)) (hN:∀ x ∈ N,x.length=32) (k:Bool→List (V × V)→Option β) (R:Option β) (hk:∀ m,k false m=R):ze β L h.v (zig N) k=ifb (!(decide (h.l ∈ N))) (k true (zig (N++[h.l]))) R:=by
 unfold ze zjw
 have ok:zfS 34 (V.agg (row .u8 h.l))=true:=by simp [zfS,zhq,h.hl]
 obtain ⟨m,e1,e2⟩:=zub h.l h.hl N hN
 rw [zbQ,zbf]
 simp only [Hs.v,mAt,zxt,ok,zsM h.l h.hl N hN,e1]
 by_cases hm:h.l ∈ N
 ·rw [if_pos hm,decide_eq_true hm]
  simp only [Option.getD_some,aB]
  rw [yt (by rw [zhq,h.hl]; omega)]
  exact hk m
 ·rw [if_neg hm,decide_eq_false hm,e2 hm]
  simp only [Option.getD_none,aB]
  rw [yt (by rw [zhq,h.hl]; omega)]
  rfl
theorem zmL {rt:List Int} (h:rt.length≤2):rt=[]∨(∃ a,rt=[a])∨∃ a b,rt=[a,b]:=by
 match rt,h with
 | [],_=>exact .inl rfl
 | [a],_=>exact .inr (.inl ⟨a,rfl⟩)
 | [a,b],_=>exact .inr (.inr ⟨a,b,rfl⟩)
theorem zo1 (l:List (List Int)) {i:Nat} (h:i < l.length):za7 (l.take i) (l.drop i)=(!(decide (l[i] ∈ l.take i)) && za7 (l.take (i+1)) (l.drop (i+1))):=by
 rw [List.drop_eq_getElem_cons h,za7,List.take_succ_eq_append_getElem h]
theorem zwJ (L:Nat) (l:List Int) (hl:l.length≤100000) (b1:List V) (kr:Bool→Option β) (kx:List V→Option β):∀ (n i:Nat),i≤l.length→l.length - i < n →
  zdg ze L kr kx n (zaz .i64 l) (l.length:Int) (i:Int) b1=ifb ((l.drop i).all (fun x=>decide (0≤x))) (kx b1) (kr false)
 | 0,i,h1,h2=>by omega
 | n+1,i,h1,h2=>by
  simp only [zdg,zgW,yH]
  by_cases hi:i < l.length
  ·rw [xI (by omega),zaI (zmV _ hi),zdl rfl,z8 (by omega),zwJ L l hl b1 kr kx n (i+1) (by omega) (by omega),List.drop_eq_getElem_cons hi,List.all_cons]
   by_cases hx:0≤l[i]
   ·rw [zE (by omega),decide_eq_true hx]; rfl
   ·rw [xI (by omega),decide_eq_false hx]; rfl
  ·rw [zE (by omega),List.drop_of_length_le (by omega)]; rfl
theorem zwp (L:Nat) (l:List Stm) (hl:l.length≤100000) (b1:List V) (kr:Bool→List (V × V)→Option β) (R:Option β) (hk:∀ m,kr false m=R) (kx:List V→List (V × V)→Option β):∀ (n i:Nat),i≤l.length→l.length - i < n →
  zba ze L kr kx n (l.map Stm.v) (l.length:Int) (i:Int) b1 (zig ((l.map (·.id)).take i))=ifb (za7 ((l.map (·.id)).take i) ((l.map (·.id)).drop i)) (kx b1 (zig (l.map (·.id)))) R
 | 0,i,h1,h2=>by omega
 | n+1,i,h1,h2=>by
  simp only [zba,zeN,yH]
  by_cases hi:i < l.length
  ·have hi':i < (l.map (·.id)).length:=by simpa using hi
   have e:(l.map (·.id))[i]=l[i].h.l:=by simp [Stm.h]
   rw [xI (by omega),zaI (zhG hi),zz9,zon,zxT,zwF,ztO]
   rw [zx7 L l[i].h _ (fun x hx=>by obtain ⟨s,_,rfl⟩:=List.mem_map.1 (List.mem_of_mem_take hx); exact s.hid) _ R (fun m=>by rw [Bool.not_false,xV]; exact hk m)]
   rw [Bool.not_true,xH,← e,← List.take_succ_eq_append_getElem hi',z8 (by omega),zwp L l hl b1 kr R hk kx n (i+1) (by omega) (by omega),zo1 _ hi']
   cases !(decide ((l.map (·.id))[i] ∈ (l.map (·.id)).take i)) <;> rfl
  ·have e1:(l.map (·.id)).take i=l.map (·.id):=List.take_of_length_le (by simp; omega)
   have e2:(l.map (·.id)).drop i=[]:=List.drop_of_length_le (by simp; omega)
   rw [zE (by omega),e1,e2]; rfl
theorem zwz (L:Nat) (N:List (List Int)) (hN:∀ x ∈ N,x.length=32) (l:List Hs) (hl:l.length≤100000) (kr:Bool→List (V × V)→Option β) (R:Option β) (hk:∀ m,kr false m=R) (kx:List (V × V)→Option β) (hx:∀ m,kx m=kx []):∀ (n i:Nat),i≤l.length→l.length - i < n →
  zbD ze L kr kx n (l.map Hs.v) (l.length:Int) (i:Int) (zig (N++(l.map (·.l)).take i))=ifb (za7 (N++(l.map (·.l)).take i) ((l.map (·.l)).drop i)) (kx []) R
 | 0,i,h1,h2=>by omega
 | n+1,i,h1,h2=>by
  simp only [zbD,zes,yH]
  by_cases hi:i < l.length
  ·have hi':i < (l.map (·.l)).length:=by simpa using hi
   have e:(l.map (·.l))[i]=l[i].l:=by simp
   rw [xI (by omega),zaI (ziX hi),zx9,zbf,zvL,zbQ,zbf]
   rw [zx7 L l[i] _ (fun x hx=>by
    rcases List.mem_append.1 hx with hx | hx
    ·exact hN x hx
    ·obtain ⟨s,_,rfl⟩:=List.mem_map.1 (List.mem_of_mem_take hx); exact s.hl) _ R (fun m=>by rw [Bool.not_false,xV]; exact hk m)]
   rw [Bool.not_true,xH,← e,List.append_assoc,← List.take_succ_eq_append_getElem hi',z8 (by omega),zwz L N hN l hl kr R hk kx hx n (i+1) (by omega) (by omega)]
   rw [List.drop_eq_getElem_cons hi',za7,List.append_assoc,← List.take_succ_eq_append_getElem hi']
   cases !(decide ((l.map (·.l))[i] ∈ N++(l.map (·.l)).take i)) <;> rfl
  ·have e2:(l.map (·.l)).drop i=[]:=List.drop_of_length_le (by simp; omega)
   rw [zE (by omega),e2]; exact hx _
theorem zeu (a b:Bool) (x y:Option β):ifb (a && b) x y=ifb a (ifb b x y) y:=by cases a <;> cases b <;> rfl
theorem zzi (a:Bool) (k:Bool→Option β):ifb a (k true) (k false)=k a:=by cases a <;> rfl
theorem zy7 {L:Nat} {r:Rl} (hr:r.Ok) (hL:2000≤L) (k:Bool→Option β):zB β L r.v k=k (zkL r):=by
 have h1:=hr.nr; have h2:=hr.ns; have h3:=hr.nf
 unfold zB ziq zlO
 rw [← zzi (zkL r) k,zkL,zeu,zeu,zeu,zeu]
 simp only [zdt,zi7,znp,yR,List.length_map]
 by_cases q1:r.rt.length≤2
 ·rw [zE (by omega),decide_eq_true q1,xV]
  by_cases q2:r.st.length≤64
  ·rw [zE (by omega),decide_eq_true q2,xV,zE (by omega),decide_eq_true (by omega:r.fl.length≤2048),xV]
   refine (zwJ L r.rt (by omega) r.v _ _ L 0 (by omega) (by omega)).trans ?_
   rw [List.drop_zero,rtB,zeu]
   cases r.rt.all (fun x=>decide (0≤x)) with
   | false=>rfl
   | true =>
    rw [xV,xV]
    have key:∀ (p:List (List V)) (m:Int),p=r.st.map Stm.v→m=(r.st.length:Int) →
      zba ze L (fun p2 b52=>zdf ze L p2 b52 k) (fun b1 b52=>zbg ze L b1 b52 k) L p m (0:Int) r.v []=ifb (za7 [] (zcN r) && za7 (zcN r) (zdB r)) (k true) (k false):=by
     rintro p m rfl rfl
     refine (zwp L r.st (by omega) r.v _ (k false) (fun m=>rfl) _ L 0 (by omega) (by omega)).trans ?_
     rw [zeu]
     simp only [List.take_zero,List.drop_zero]
     show ifb (za7 [] (zcN r)) _ _=_
     cases za7 [] (zcN r) with
     | false=>rfl
     | true =>
      rw [xV,xV]
      unfold zbg zea
      rw [znp,List.length_map]
      have:=zwz L (zcN r) (fun x hx=>by obtain ⟨s,_,rfl⟩:=List.mem_map.1 hx; exact s.hid) r.fl (by omega) (fun p2 b52=>zc0 ze L p2 b52 k) (k false) (fun m=>rfl) (fun b52=>zdQ ze L b52 k) (fun m=>rfl) L 0 (by omega) (by omega)
      simp only [List.take_zero,List.drop_zero,List.append_nil] at this
      exact this
    unfold zdu zfx
    rw [zdt,yR]
    rcases zmL q1 with e | ⟨a,e⟩ | ⟨a,b,e⟩
    ·rw [yF (by rw [e]; exact (by decide:((0:Nat):Int)≠2)),zi7,List.length_map]
     refine (key _ _ rfl rfl).trans ?_
     rw [e]; rfl
    ·rw [yF (by rw [e]; exact (by decide:((1:Nat):Int)≠2)),zi7,List.length_map]
     refine (key _ _ rfl rfl).trans ?_
     rw [e]; rfl
    ·have e0:(zaz .i64 r.rt)[0]?=some [V.sc (.int .i64 a)]:=by rw [e]; rfl
     have e1:(zaz .i64 r.rt)[1]?=some [V.sc (.int .i64 b)]:=by rw [e]; rfl
     have g0:r.rt.getD 0 0=a:=by rw [e]; rfl
     have g1:r.rt.getD 1 0=b:=by rw [e]; rfl
     rw [zav (by rw [e]; rfl),zdt,ziz (by decide) e0,zdl rfl,zdt,ziz (by decide) e1,zdl rfl,zi7,List.length_map,decide_eq_true (by rw [e]; rfl:r.rt.length=2),Bool.true_and,g0,g1]
     by_cases hab:a=b
     ·rw [zav hab,decide_eq_true hab]; rfl
     ·rw [yF hab,decide_eq_false hab,Bool.not_false,xV]
      exact key _ _ rfl rfl
  ·rw [xI (by omega),decide_eq_false q2]; rfl
 ·rw [xI (by omega),decide_eq_false q1]; rfl
end
section
set_option linter.unusedVariables false
set_option linter.unusedSimpArgs false
variable {β:Type}
theorem zwv (h:Hs) (l:List Hs):l.any (isH h)=decide (h.l ∈ l.map (·.l)):=by
 rw [Bool.eq_iff_iff,List.any_eq_true,decide_eq_true_eq,List.mem_map]
 constructor
 ·rintro ⟨x,hx,e⟩; exact ⟨x,hx,of_decide_eq_true e⟩
 ·rintro ⟨x,hx,e⟩; exact ⟨x,hx,decide_eq_true e⟩
theorem zyq (l:List Stm) {i:Nat} (hi:i < l.length):decide (zgV (isS l[i].h) l 0=(i:Int))=!(decide ((l.map (·.id))[i]'(by simpa using hi) ∈ (l.map (·.id)).take i)):=by
 have e:(l.map (·.id))[i]'(by simpa using hi)=l[i].h.l:=by simp [Stm.h]
 rw [e,← decide_not]
 apply decide_eq_decide.2
 rcases zqf (isS l[i].h) l 0 with ⟨h1,h2⟩ | ⟨j,hj,h1,h2,h3⟩
 ·have:=h2 l[i] (List.getElem_mem hi)
  simp [isS,Stm.h] at this
 ·rw [h1,Nat.zero_add]
  constructor
  ·intro hji
   have hji:j=i:=by omega
   subst hji
   intro hm
   rw [← List.map_take] at hm
   obtain ⟨s,hs,e⟩:=List.mem_map.1 hm
   have:=h2 s hs
   simp [isS,e] at this
  ·intro hn
   by_cases hji:j=i
   ·rw [hji]
   ·exfalso
    rcases Nat.lt_or_gt_of_ne hji with q | q
    ·apply hn
     rw [← List.map_take]
     refine List.mem_map.2 ⟨l[j],?_,by simpa [isS] using h3⟩
     rw [List.mem_take_iff_getElem]
     exact ⟨j,by omega,rfl⟩
    ·have:=h2 l[i] (by
      rw [List.mem_take_iff_getElem]
      exact ⟨i,by omega,rfl⟩)
     simp [isS,Stm.h] at this
theorem zvi (L:Nat) (hL:2000≤L) (r:Rl) (hr:r.Ok) (kr:Bool→Option β) (kx:List V→Option β):∀ (n i:Nat),i≤r.fl.length→r.fl.length - i < n →
  zcX xc zb L kr kx n (i:Int) r.v=ifb (za7 ((zdB r).take i) ((zdB r).drop i)) (kx r.v) (kr false)
 | 0,i,h1,h2=>by omega
 | n+1,i,h1,h2=>by
  have h3:=hr.nf
  simp only [zcX,zgh,yH,znp,List.length_map]
  by_cases hi:i < r.fl.length
  ·have hi':i < (zdB r).length:=by simpa [zdB] using hi
   have e:(zdB r)[i]=r.fl[i].l:=by simp [zdB]
   rw [xI (by omega),yt ⟨by omega,by omega⟩,zaI (ziX hi),List.drop_zero,Nat.sub_zero,Int.toNat_natCast,← List.map_take,zbf,zvx (by rw [List.length_take]; omega) hL,z8 (by omega),zvi L hL r hr kr kx n (i+1) (by omega) (by omega),zo1 _ hi',zwv,← e]
   rw [show (r.fl.take i).map (·.l)=(zdB r).take i by rw [zdB,List.map_take]]
   cases decide ((zdB r)[i] ∈ (zdB r).take i) <;> rfl
  ·have e2:(zdB r).drop i=[]:=List.drop_of_length_le (by simp [zdB]; omega)
   rw [zE (by omega),e2]; rfl
theorem zvR (L:Nat) (hL:2000≤L) (r:Rl) (hr:r.Ok) (kr:Bool→Option β) (kx:Option β):∀ (n i:Nat),i≤r.st.length→r.st.length - i < n →
  zco xc zb L kr kx n (i:Int) r.v=ifb (za7 ((zcN r).take i) ((zcN r).drop i) && ((zcN r).drop i).all (fun x=>!(decide (x ∈ zdB r)))) kx (kr false)
 | 0,i,h1,h2=>by omega
 | n+1,i,h1,h2=>by
  have h3:=hr.nf
  have h4:=hr.ns
  simp only [zco,zfH,yH,zi7,znp,List.length_map]
  by_cases hi:i < r.st.length
  ·have hi':i < (zcN r).length:=by simpa [zcN] using hi
   have e:(zcN r)[i]=r.st[i].h.l:=by simp [zcN,Stm.h]
   have ef:=zyq r.st hi
   rw [xI (by omega),zaI (zhG hi),ztO,zwn (by omega) hL,zaI (zhG hi),ztO,zvx (by omega) hL,z8 (by omega),zvR L hL r hr kr kx n (i+1) (by omega) (by omega),zo1 _ hi',zwv,← e,zbR]
   have es:decide (zgV (isS r.st[i].h) r.st 0=(i:Int))=!(decide ((zcN r)[i] ∈ (zcN r).take i)):=ef
   have ed:((zcN r).drop i).all (fun x=>!(decide (x ∈ zdB r)))=(!(decide ((zcN r)[i] ∈ zdB r)) && ((zcN r).drop (i+1)).all (fun x=>!(decide (x ∈ zdB r)))):=by
    rw [List.drop_eq_getElem_cons hi']; rfl
   rw [ed,show r.fl.map (·.l)=zdB r from rfl]
   by_cases hf:zgV (isS r.st[i].h) r.st 0=(i:Int)
   ·rw [if_pos hf]
    rw [decide_eq_true hf] at es
    rw [← es,Bool.true_and]
    cases decide ((zcN r)[i] ∈ zdB r) with
    | true=>rw [xV,Bool.not_true,Bool.false_and,Bool.and_false,xH]
    | false=>rw [xH,Bool.not_false,Bool.true_and]
   ·rw [if_neg hf]
    rw [decide_eq_false hf] at es
    rw [← es,Bool.false_and,Bool.false_and,xH]
  ·have e2:(zcN r).drop i=[]:=List.drop_of_length_le (by simp [zcN]; omega)
   rw [zE (by omega),e2]; rfl
theorem zxv (r:Rl):(za7 [] (zdB r) && (za7 [] (zcN r) && (zcN r).all (fun x=>!(decide (x ∈ zdB r)))))=(za7 [] (zcN r) && za7 (zcN r) (zdB r)):=by
 rw [Bool.eq_iff_iff]
 simp only [Bool.and_eq_true,zsk,List.all_eq_true,Bool.not_eq_true',decide_eq_false_iff_not,List.not_mem_nil,not_false_eq_true,implies_true,and_true]
 constructor
 ·rintro ⟨h1,h2,h3⟩; exact ⟨h2,h1,fun x hx hs=>h3 x hs hx⟩
 ·rintro ⟨h2,h1,h3⟩; exact ⟨h1,h2,fun x hx hf=>h3 x hf hx⟩
theorem zxV {L:Nat} {r:Rl} (hr:r.Ok) (hL:2000≤L) (k:Bool→Option β):yq β L r.v k=k (zkL r):=by
 have h1:=hr.nr; have h2:=hr.ns; have h3:=hr.nf
 obtain ⟨L',rfl⟩:=Nat.exists_eq_add_of_le hL
 unfold yq zit zlJ
 rw [← zzi (zkL r) k,zkL,zeu,zeu,zeu,zeu]
 simp only [zdt,zi7,znp,yR,List.length_map]
 by_cases q1:r.rt.length≤2
 ·rw [zE (by omega),decide_eq_true q1,xV]
  by_cases q2:r.st.length≤64
  ·rw [zE (by omega),decide_eq_true q2,xV,zE (by omega),decide_eq_true (by omega:r.fl.length≤2048),xV]
   have key:yA xc zb (2000+L') r.v k=ifb (za7 [] (zcN r) && za7 (zcN r) (zdB r)) (k true) (k false):=by
    unfold yA zfT
    refine (zvi (2000+L') hL r hr _ _ (2000+L') 0 (by omega) (by omega)).trans ?_
    simp only [List.take_zero,List.drop_zero]
    rw [← zxv r,zeu]
    cases za7 [] (zdB r) with
    | false=>rfl
    | true =>
     rw [xV,xV]
     unfold zc5 zfa
     refine (zvR (2000+L') hL r hr _ _ (2000+L') 0 (by omega) (by omega)).trans ?_
     simp only [List.take_zero,List.drop_zero]
     rfl
   rw [show 2000+L'=(1997+L')+1+1+1 by omega] at key ⊢
   generalize hM:1997+L'=M at key ⊢
   rcases zmL q1 with e | ⟨a,e⟩ | ⟨a,b,e⟩
   ·refine (show _=xK xc zb (M+1+1+1) ((0:Nat):Int) r.v (fun p2=>xF xc zb (M+1+1+1) p2 k) (fun p3 b1=>zau xc zb (M+1+1+1) (fun p2=>xF xc zb (M+1+1+1) p2 k) (fun b1=>yA xc zb (M+1+1+1) b1 k) (M+1+1) p3 b1) (fun b1=>yA xc zb (M+1+1+1) b1 k) from rfl).trans ?_
    unfold xK
    rw [zdt,yR,zE (by rw [e]; decide)]
    refine key.trans ?_
    rw [rtB,e]; rfl
   ·have e0:(zaz .i64 r.rt)[0]?=some [V.sc (.int .i64 a)]:=by rw [e]; rfl
    refine (show _=xK xc zb (M+1+1+1) ((0:Nat):Int) r.v (fun p2=>xF xc zb (M+1+1+1) p2 k) (fun p3 b1=>zau xc zb (M+1+1+1) (fun p2=>xF xc zb (M+1+1+1) p2 k) (fun b1=>yA xc zb (M+1+1+1) b1 k) (M+1+1) p3 b1) (fun b1=>yA xc zb (M+1+1+1) b1 k) from rfl).trans ?_
    unfold xK
    rw [zdt,yR,xI (by rw [e]; simp),zdt,zaI e0,zdl rfl,zE (by decide:¬ ((0:Nat):Int) > 0),yH,z8 (by omega)]
    rw [show rtB r.rt=decide (0≤a) by rw [rtB,e]; simp]
    by_cases ha:0≤a
    ·rw [zE (by omega),decide_eq_true ha,xV]
     refine (show _=xK xc zb (M+1+1+1) ((1:Nat):Int) r.v (fun p2=>xF xc zb (M+1+1+1) p2 k) (fun p3 b1=>zau xc zb (M+1+1+1) (fun p2=>xF xc zb (M+1+1+1) p2 k) (fun b1=>yA xc zb (M+1+1+1) b1 k) (M+1) p3 b1) (fun b1=>yA xc zb (M+1+1+1) b1 k) from rfl).trans ?_
     unfold xK
     rw [zdt,yR,zE (by rw [e]; simp)]
     exact key
    ·rw [xI (by omega),decide_eq_false ha]; rfl
   ·have e0:(zaz .i64 r.rt)[0]?=some [V.sc (.int .i64 a)]:=by rw [e]; rfl
    have e1:(zaz .i64 r.rt)[1]?=some [V.sc (.int .i64 b)]:=by rw [e]; rfl
    refine (show _=xK xc zb (M+1+1+1) ((0:Nat):Int) r.v (fun p2=>xF xc zb (M+1+1+1) p2 k) (fun p3 b1=>zau xc zb (M+1+1+1) (fun p2=>xF xc zb (M+1+1+1) p2 k) (fun b1=>yA xc zb (M+1+1+1) b1 k) (M+1+1) p3 b1) (fun b1=>yA xc zb (M+1+1+1) b1 k) from rfl).trans ?_
    unfold xK
    rw [zdt,yR,xI (by rw [e]; simp),zdt,zaI e0,zdl rfl,zE (by decide:¬ ((0:Nat):Int) > 0),yH,z8 (by omega)]
    rw [show rtB r.rt=(decide (0≤a) && (decide (0≤b) && !(decide (a=b)))) by rw [rtB,e]; simp [Bool.and_assoc]]
    by_cases ha:0≤a
    ·rw [zE (by omega),decide_eq_true ha,Bool.true_and,zeu]
     refine (show _=xK xc zb (M+1+1+1) ((1:Nat):Int) r.v (fun p2=>xF xc zb (M+1+1+1) p2 k) (fun p3 b1=>zau xc zb (M+1+1+1) (fun p2=>xF xc zb (M+1+1+1) p2 k) (fun b1=>yA xc zb (M+1+1+1) b1 k) (M+1) p3 b1) (fun b1=>yA xc zb (M+1+1+1) b1 k) from rfl).trans ?_
     unfold xK
     rw [zdt,yR,xI (by rw [e]; simp),zdt,zaI e1,zdl rfl,xI (by decide:((1:Nat):Int) > 0),zdt,ziz (by decide) e0,zdl rfl,zdt,ziz (by decide) e1,zdl rfl,yH,z8 (by omega)]
     by_cases hb:0≤b
     ·rw [zE (by omega),decide_eq_true hb,xV]
      by_cases hab:a=b
      ·rw [zav hab,decide_eq_true hab]; rfl
      ·rw [yF hab,decide_eq_false hab,Bool.not_false,xV]
       refine (show _=xK xc zb (M+1+1+1) ((2:Nat):Int) r.v (fun p2=>xF xc zb (M+1+1+1) p2 k) (fun p3 b1=>zau xc zb (M+1+1+1) (fun p2=>xF xc zb (M+1+1+1) p2 k) (fun b1=>yA xc zb (M+1+1+1) b1 k) M p3 b1) (fun b1=>yA xc zb (M+1+1+1) b1 k) from rfl).trans ?_
       unfold xK
       rw [zdt,yR,zE (by rw [e]; simp)]
       exact key
     ·rw [xI (by omega),decide_eq_false hb]; rfl
    ·rw [xI (by omega),decide_eq_false ha]; rfl
  ·rw [xI (by omega),decide_eq_false q2]; rfl
 ·rw [xI (by omega),decide_eq_false q1]; rfl
end
section
set_option linter.unusedVariables false
set_option linter.unusedSimpArgs false
variable {β:Type}
def sfl (l:List Stm):List V:=(l.map Stm.v).flatten
def hfl (l:List Hs):List V:=(l.map Hs.v).flatten
def ifl (l:List Int):List V:=(zaz .i64 l).flatten
theorem zp4 (l:List Int):∀ e ∈ zaz .i64 l,e.length=1:=by
 intro e he
 obtain ⟨n,_,rfl⟩:=List.mem_map.1 he; rfl
theorem zmx (l:List Stm):∀ e ∈ l.map Stm.v,e.length=35:=by
 intro e he
 obtain ⟨s,_,rfl⟩:=List.mem_map.1 he; exact zjz s
theorem zoP (l:List Hs):∀ e ∈ l.map Hs.v,e.length=32:=by
 intro e he
 obtain ⟨s,_,rfl⟩:=List.mem_map.1 he; exact zcu s
theorem chI (l:List Int):zc 1 l.length (ifl l)=zaz .i64 l:=by
 have:=zeS (zp4 l); rwa [yR] at this
theorem chS (l:List Stm):zc 35 l.length (sfl l)=l.map Stm.v:=by
 have:=zeS (zmx l); rwa [List.length_map] at this
theorem chH (l:List Hs):zc 32 l.length (hfl l)=l.map Hs.v:=by
 have:=zeS (zoP l); rwa [List.length_map] at this
theorem ztW (l:List Stm):(sfl l).length=l.length * 35:=by
 have:=zrs (zmx l); rwa [List.length_map] at this
theorem zwl (l:List Hs):(hfl l).length=l.length * 32:=by
 have:=zrs (zoP l); rwa [List.length_map] at this
theorem zz1 (l:List Int):(ifl l).length=l.length * 1:=by
 have:=zrs (zp4 l); rwa [yR] at this
theorem zvN (a:Option β) (b:List V→List (List V)→Option β):lc [] a b=a:=Eq.trans rfl rfl
theorem ztZ (x:List V) (l:List (List V)) (a:Option β) (b:List V→List (List V)→Option β):lc (x::l) a b=b x l:=Eq.trans rfl rfl
theorem zAq (L:Nat) (l:List Int) (hl:l.length≤1000) (k:List (List V)→Option β):yw β L (zaz .i64 l) k=k (zaz .i64 l):=by
 unfold yw zeo
 cases h:zaz .i64 l with
 | nil=>rw [zvN]
 | cons x m =>
  have hlen:(x::m).length≤1000:=by rw [← h,yR]; exact hl
  rw [ztZ,yt (by simp only [xh]; omega),yt (.inl (by simp)),zeS (by rw [← h]; exact zp4 l)]
theorem zAg (L:Nat) (l:List Stm) (hl:l.length≤1000) (k:List (List V)→Option β):zm β L (l.map Stm.v) k=k (l.map Stm.v):=by
 unfold zm zbU
 cases h:l.map Stm.v with
 | nil=>rw [zvN]
 | cons x m =>
  have hlen:(x::m).length≤1000:=by rw [← h,List.length_map]; exact hl
  rw [ztZ,yt (by simp only [xh]; omega),yt (.inl (by simp)),zeS (by rw [← h]; exact zmx l)]
theorem zAp (L:Nat) (l:List Hs) (hl:l.length≤1000) (k:List (List V)→Option β):ym β L (l.map Hs.v) k=k (l.map Hs.v):=by
 unfold ym zb1
 cases h:l.map Hs.v with
 | nil=>rw [zvN]
 | cons x m =>
  have hlen:(x::m).length≤1000:=by rw [← h,List.length_map]; exact hl
  rw [ztZ,yt (by simp only [xh]; omega),yt (.inl (by simp)),zeS (by rw [← h]; exact zoP l)]
theorem znq {L:Nat} {r:Rl} (hr:r.Ok) (k:Int→Bool→Nat→Nat→Nat→List V→List V→List V→Option β):zu β L r.v k=k r.ep r.df r.rt.length r.st.length r.fl.length (ifl r.rt) (sfl r.st) (hfl r.fl):=by
 have h1:=hr.nr; have h2:=hr.ns; have h3:=hr.nf
 unfold zu zky
 rw [zgT,zhz,zgB,zjT,zjn,zjc,zAq L _ (by omega),zAg L _ (by omega),zAp L _ (by omega),yR,List.length_map,List.length_map]
 exact Eq.trans rfl rfl
theorem zdS {L:Nat} {r:Rl} (hr:r.Ok) (k:Int→Bool→Nat→Nat→Nat→List V→List V→List V→Option β):yj β L r.v k=k r.ep r.df r.rt.length r.st.length r.fl.length (ifl r.rt) (sfl r.st) (hfl r.fl):=by
 have h1:=hr.nr; have h2:=hr.ns; have h3:=hr.nf
 unfold yj zkp
 rw [zgT,zhz,zgB,zjT,zjn,zjc,yR,List.length_map,List.length_map,yt (by simp only [xh]; omega),yt (by simp only [xh]; omega),yt (by simp only [xh]; omega)]
 exact Eq.trans rfl rfl
def zai (rt:List Int) (p:Int):Int:=match rt with
 | []=>-1
 | [a]=>if a=p then -1 else a
 | a::b::_=>if p≠-1∧Int.tmod p 2≠0 then (if b=p then a else b) else (if a=p then b else a)
theorem zxe (a:Int) (l:List Int) (k:List V→Option β):idx (zaz .i64 (a::l)) (0:Int) k=k [V.sc (.int .i64 a)]:=ziz (by decide) rfl k
theorem zAC (a b:Int) (l:List Int) (k:List V→Option β):idx (zaz .i64 (a::b::l)) (1:Int) k=k [V.sc (.int .i64 b)]:=ziz (by decide) rfl k
theorem cI1 (a:Int) (k:Int→Option β):cI .i64 [V.sc (.int .i64 a)] 0 k=k a:=zdl rfl k
theorem w10:IntKind.wrap .i64 ((1:Int) - (0:Int))=1:=by decide
theorem w11:IntKind.wrap .i64 ((1:Int) - (1:Int))=0:=by decide
theorem zyB (L:Nat) (r:Rl) (h:r.rt.length≤2) (p:Int) (k:Int→Option β):xP β L r.v p k=k (zai r.rt p):=by
 obtain ⟨ep,df,rt,st,fl⟩:=r
 unfold xP zln
 simp only [zdt,yH]
 rcases zmL h with e | ⟨a,e⟩ | ⟨a,b,e⟩ <;> simp only at e <;> subst e
 ·simp only [yR,List.length_nil]
  rw [zav (by decide)]; rfl
 ·simp only [yR,List.length_cons,List.length_nil,zxe,cI1]
  rw [yF (by decide),zE (by decide),zE (by decide),zbR]
  by_cases q:a=p <;> simp [zai,q]
 ·simp only [yR,List.length_cons,List.length_nil,zxe,zAC,cI1,w10,w11]
  rw [yF (by decide),xI (by decide),xI (by decide)]
  simp only [zbR]
  unfold zai
  by_cases q1:p=-1
  ·subst q1; simp; split <;> rfl
  ·by_cases q2:Int.tmod p 2=0
   ·simp [q1,q2]; split <;> rfl
   ·simp [q1,q2]; split <;> rfl
theorem zx8 (L:Nat) (r:Rl) (h:r.rt.length≤2) (p:Int) (k:Int→Option β):zQ β L r.v p k=k (zai r.rt p):=by
 obtain ⟨ep,df,rt,st,fl⟩:=r
 unfold zQ zlt
 simp only [zdt,yH]
 rcases zmL h with e | ⟨a,e⟩ | ⟨a,b,e⟩ <;> simp only at e <;> subst e
 ·simp only [yR,List.length_nil]
  rw [zav (by decide)]; rfl
 ·simp only [yR,List.length_cons,List.length_nil,zxe,cI1]
  rw [yF (by decide),zE (by decide),zbR,zav (by decide)]
  by_cases q:a=p <;> simp [zai,q]
 ·simp only [yR,List.length_cons,List.length_nil,zxe,zAC,cI1,w10,w11]
  rw [yF (by decide),xI (by decide)]
  simp only [zbR]
  have n1:∀ x y:Option β,ifb ((((0+1+1:Nat):Int)) == 1) x y=y:=fun x y=>yF (by decide) x y
  simp only [n1]
  unfold zai
  by_cases q1:p=-1
  ·subst q1; simp; split <;> rfl
  ·by_cases q2:Int.tmod p 2=0
   ·simp [q1,q2]; split <;> rfl
   ·simp [q1,q2]; split <;> rfl
theorem zro {rt:List Int} (h:rt.length≤2) (hb:rtB rt=true) (p:Int):zai rt p=-1∨0≤zai rt p:=by
 unfold rtB at hb
 simp only [Bool.and_eq_true,List.all_eq_true,decide_eq_true_eq] at hb
 rcases zmL h with e | ⟨a,e⟩ | ⟨a,b,e⟩ <;> subst e
 ·exact .inl rfl
 ·have:=hb.1 a (by simp)
  show (if a=p then -1 else a)=-1∨0≤(if a=p then -1 else a)
  by_cases q:a=p
  ·exact .inl (if_pos q)
  ·exact .inr (by rw [if_neg q]; exact this)
 ·have h1:=hb.1 a (by simp)
  have h2:=hb.1 b (by simp)
  right
  show 0≤(if p≠-1∧Int.tmod p 2≠0 then (if b=p then a else b) else (if a=p then b else a))
  split <;> split <;> assumption
theorem zyW {a:Int} (h0:0≤a) (h1:a≤4294967295):zxa .u32 a=4294967295 - a:=by
 obtain ⟨x,rfl⟩:=Int.eq_ofNat_of_zero_le h0
 have e1:BitVec.ofInt 32 (IntKind.max .u32)=BitVec.allOnes 32:=by decide
 have key:zxa .u32 (x:Int)=IntKind.wrap .u32 (((BitVec.allOnes 32 ^^^ BitVec.ofInt 32 (x:Int)).toNat:Nat):Int):=by
  rw [← e1]; rfl
 have e2:(BitVec.ofInt 32 (x:Int)).toNat=x:=by
  rw [BitVec.toNat_ofInt]
  show ((x:Int) % ((2 ^ 32:Nat):Int)).toNat=_
  rw [← Int.natCast_emod,Int.toNat_natCast,Nat.mod_eq_of_lt (by omega)]
 rw [key,BitVec.allOnes_xor,BitVec.toNat_not,e2,zrT (by omega) (by omega)]
 omega
def zfY (a b:Int):Int:=if b > 4294967295 - a then 4294967295 else a+b
theorem zyy (L:Nat) {a b:Int} (ha:0≤a∧a≤4294967295) (hb:0≤b∧b≤4294967295) (k:Int→Option β):zK β L a b k=k (zfY a b):=by
 unfold zK zlu zfY
 have e:zxa .u32 a=4294967295 - a:=zyW ha.1 ha.2
 simp only [yH,e,zn4]
 split
 ·rfl
 ·rw [zrT (by omega) (by omega)]
theorem zxD (L:Nat) {a b:Int} (ha:0≤a∧a≤4294967295) (hb:0≤b∧b≤4294967295) (k:Int→Option β):zN β L a b k=k (zfY a b):=by
 unfold zN zlA zfY
 simp only [yH]
 rw [zrB ha.1 (by omega),zrB hb.1 (by omega),zrB (by omega) (by omega)]
 unfold zAi
 split <;> split <;> rw [zrT (by omega) (by omega)] <;> congr 1 <;> omega
theorem zn1 {p q:List V} {n j:Nat} {x:V} (h:p.length=n) (hj:j < q.length):za (p++q) (n+j) [x]=p++q.set j x:=by
 rw [zyf (by rw [List.length_append]; omega),List.set_append,if_neg (by omega),h,Nat.add_sub_cancel_left]
theorem zvv (h:Hs) (fr to due:Int):za (za (za (za (List.replicate 32 (V.sc (.int .u8 (0:Int)))++[(V.sc (.int .i64 (0:Int))),(V.sc (.int .i64 (0:Int))),(V.sc (.int .u32 (0:Int)))]) 0 h.v) 32 [(V.sc (.int .i64 fr))]) 33 [(V.sc (.int .i64 to))]) 34 [(V.sc (.int .u32 due))]=(Stm.mk h.l fr to due h.hl).v:=by
 have e0:za (List.replicate 32 (V.sc (.int .u8 (0:Int)))++[(V.sc (.int .i64 (0:Int))),(V.sc (.int .i64 (0:Int))),(V.sc (.int .u32 (0:Int)))]) 0 h.v=h.v++[(V.sc (.int .i64 (0:Int))),(V.sc (.int .i64 (0:Int))),(V.sc (.int .u32 (0:Int)))]:=by
  have:=zcu h
  unfold za
  rw [List.take_zero,List.nil_append,Nat.zero_add,this]
  congr 1
 rw [e0,zn1 (n:=32) (j:=0) (zcu h) (by decide),zn1 (n:=32) (j:=1) (zcu h) (by simp),zn1 (n:=32) (j:=2) (zcu h) (by simp)]
 exact Eq.trans rfl rfl
theorem zrK (s:Stm):zc 35 1 (za (List.replicate 32 (V.sc (.int .u8 (0:Int)))++[(V.sc (.int .i64 (0:Int))),(V.sc (.int .i64 (0:Int))),(V.sc (.int .u32 (0:Int)))]) 0 s.v)=[s.v]:=by
 rw [zxT,zc,zon]; exact Eq.trans rfl rfl
theorem zwA (l:List Stm) (s:Stm):List.take (l.length * 35) (sfl l)++List.flatten [s.v]=sfl (l++[s]):=by
 rw [List.take_of_length_le (by rw [ztW]; omega),sfl,sfl,List.map_append,List.flatten_append]; exact Eq.trans rfl rfl
theorem zBa (l:List Stm) (s:Stm):zc 35 (l.length+List.length [s.v]) (sfl (l++[s]))=(l++[s]).map Stm.v:=by
 have:=chS (l++[s]); rwa [List.length_append] at this
theorem z0 (h:Hs):(List.length (za (List.replicate 32 (V.sc (.int .u8 (0:Int)))++[(V.sc (.int .i64 (0:Int))),(V.sc (.int .i64 (0:Int))),(V.sc (.int .u32 (0:Int)))]) 0 h.v))=35:=by
 rw [znf (by rw [zcu]; decide)]; rfl
theorem z1 (h:Hs) (a:V):(List.length (za (za (List.replicate 32 (V.sc (.int .u8 (0:Int)))++[(V.sc (.int .i64 (0:Int))),(V.sc (.int .i64 (0:Int))),(V.sc (.int .u32 (0:Int)))]) 0 h.v) 32 [a]))=35:=by
 rw [znf (by rw [z0,List.length_singleton]; omega),z0]
theorem z2 (h:Hs) (a b:V):(List.length (za (za (za (List.replicate 32 (V.sc (.int .u8 (0:Int)))++[(V.sc (.int .i64 (0:Int))),(V.sc (.int .i64 (0:Int))),(V.sc (.int .u32 (0:Int)))]) 0 h.v) 32 [a]) 33 [b]))=35:=by
 rw [znf (by rw [z1,List.length_singleton]; omega),z1]
end
section
set_option linter.unusedVariables false
set_option linter.unusedSimpArgs false
variable {β:Type}
def zkT:List V:=[(V.sc (.int .u32 (0:Int))),(V.sc (.bool false)),(V.sl 1 ([]:List (List V))),(V.sl 35 ([]:List (List V))),(V.sl 32 ([]:List (List V)))]
def Rl.more (r:Rl) (s:Stm):Rl:={ r with st:=r.st++[s] }
theorem zht (r:Rl):[(V.sc (.int .u32 r.ep)),(V.sc (.bool r.df)),(V.sl 1 (zaz .i64 r.rt)),(V.sl 35 (r.st.map Stm.v)),(V.sl 32 (r.fl.map Hs.v))]=r.v:=Eq.trans rfl rfl
theorem zkr (r:Rl):[(V.sc (.int .u32 r.ep)),(V.sc (.bool r.df)),(V.sl 1 (zc 1 r.rt.length (ifl r.rt))),(V.sl 35 (zc 35 r.st.length (sfl r.st))),(V.sl 32 (zc 32 r.fl.length (hfl r.fl)))]=r.v:=by
 rw [chI,chS,chH]; exact Eq.trans rfl rfl
theorem zwm (r:Rl) (s:Stm):[(V.sc (.int .u32 r.ep)),(V.sc (.bool r.df)),(V.sl 1 (zc 1 r.rt.length (ifl r.rt))),(V.sl 35 (zc 35 (r.st.length+List.length [s.v]) (sfl (r.st++[s])))),(V.sl 32 (zc 32 r.fl.length (hfl r.fl)))]=(r.more s).v:=by
 rw [chI,zBa,chH]; exact Eq.trans rfl rfl
def zif (r:Rl) (p:Int) (h:Hs) (now wait:Int) (k:List V→Int→Int→Option β):Option β :=
 ifb (!zkL r) (k zkT 0 6) (ifb (decide (p < -1)) (k zkT 0 6) (ifb (r.st.any (isS h)) (k zkT 0 150) (ifb (r.fl.any (isH h)) (k zkT 0 150)
  (if r.df=true∧p≠-1 then k r.v (-1) 0 else if zai r.rt p=-1 then k r.v (-1) 0 else if 64≤r.st.length then k zkT 0 380 else k (r.more ⟨h.l,p,zai r.rt p,zfY now wait,h.hl⟩).v (zai r.rt p) 0))))
theorem zwL {r:Rl} (h:zkL r=true):r.rt.length≤2∧rtB r.rt=true:=by
 unfold zkL at h
 simp only [Bool.and_eq_true,decide_eq_true_eq] at h
 exact ⟨h.1,h.2.2.2.1⟩
theorem zAe {r:Rl} (hr:r.Ok) (p:Int) (h:Hs) (to due:Int) (k:List V→Int→Int→Option β) :
  chk ((List.length h.v)=32∧0+32≤35) (
  chk (1=1∧32+1≤(List.length (za (List.replicate 32 (V.sc (.int .u8 (0:Int)))++[(V.sc (.int .i64 (0:Int))),(V.sc (.int .i64 (0:Int))),(V.sc (.int .u32 (0:Int)))]) 0 h.v))) (
  chk (1=1∧33+1≤(List.length (za (za (List.replicate 32 (V.sc (.int .u8 (0:Int)))++[(V.sc (.int .i64 (0:Int))),(V.sc (.int .i64 (0:Int))),(V.sc (.int .u32 (0:Int)))]) 0 h.v) 32 [(V.sc (.int .i64 p))]))) (
  chk (1=1∧34+1≤(List.length (za (za (za (List.replicate 32 (V.sc (.int .u8 (0:Int)))++[(V.sc (.int .i64 (0:Int))),(V.sc (.int .i64 (0:Int))),(V.sc (.int .u32 (0:Int)))]) 0 h.v) 32 [(V.sc (.int .i64 p))]) 33 [(V.sc (.int .i64 to))]))) (
  chk ((List.length (za (za (za (za (List.replicate 32 (V.sc (.int .u8 (0:Int)))++[(V.sc (.int .i64 (0:Int))),(V.sc (.int .i64 (0:Int))),(V.sc (.int .u32 (0:Int)))]) 0 h.v) 32 [(V.sc (.int .i64 p))]) 33 [(V.sc (.int .i64 to))]) 34 [(V.sc (.int .u32 due))]))=35∧0+35≤35) (
  chk ((r.st.length+List.length (zc 35 1 (za (List.replicate 32 (V.sc (.int .u8 (0:Int)))++[(V.sc (.int .i64 (0:Int))),(V.sc (.int .i64 (0:Int))),(V.sc (.int .u32 (0:Int)))]) 0 (za (za (za (za (List.replicate 32 (V.sc (.int .u8 (0:Int)))++[(V.sc (.int .i64 (0:Int))),(V.sc (.int .i64 (0:Int))),(V.sc (.int .u32 (0:Int)))]) 0 h.v) 32 [(V.sc (.int .i64 p))]) 33 [(V.sc (.int .i64 to))]) 34 [(V.sc (.int .u32 due))])))) * 56≤xh∧(r.st.length+List.length (zc 35 1 (za (List.replicate 32 (V.sc (.int .u8 (0:Int)))++[(V.sc (.int .i64 (0:Int))),(V.sc (.int .i64 (0:Int))),(V.sc (.int .u32 (0:Int)))]) 0 (za (za (za (za (List.replicate 32 (V.sc (.int .u8 (0:Int)))++[(V.sc (.int .i64 (0:Int))),(V.sc (.int .i64 (0:Int))),(V.sc (.int .u32 (0:Int)))]) 0 h.v) 32 [(V.sc (.int .i64 p))]) 33 [(V.sc (.int .i64 to))]) 34 [(V.sc (.int .u32 due))]))))≤xh∧((r.st.length+List.length (zc 35 1 (za (List.replicate 32 (V.sc (.int .u8 (0:Int)))++[(V.sc (.int .i64 (0:Int))),(V.sc (.int .i64 (0:Int))),(V.sc (.int .u32 (0:Int)))]) 0 (za (za (za (za (List.replicate 32 (V.sc (.int .u8 (0:Int)))++[(V.sc (.int .i64 (0:Int))),(V.sc (.int .i64 (0:Int))),(V.sc (.int .u32 (0:Int)))]) 0 h.v) 32 [(V.sc (.int .i64 p))]) 33 [(V.sc (.int .i64 to))]) 34 [(V.sc (.int .u32 due))]))))≠0∨(List.length (sfl r.st))=0)) (
  lt (List.take (r.st.length * 35) (sfl r.st)++List.flatten (zc 35 1 (za (List.replicate 32 (V.sc (.int .u8 (0:Int)))++[(V.sc (.int .i64 (0:Int))),(V.sc (.int .i64 (0:Int))),(V.sc (.int .u32 (0:Int)))]) 0 (za (za (za (za (List.replicate 32 (V.sc (.int .u8 (0:Int)))++[(V.sc (.int .i64 (0:Int))),(V.sc (.int .i64 (0:Int))),(V.sc (.int .u32 (0:Int)))]) 0 h.v) 32 [(V.sc (.int .i64 p))]) 33 [(V.sc (.int .i64 to))]) 34 [(V.sc (.int .u32 due))])))) fun r26 =>
  k [(V.sc (.int .u32 r.ep)),(V.sc (.bool r.df)),(V.sl 1 (zc 1 r.rt.length (ifl r.rt))),(V.sl 35 (zc 35 (r.st.length+List.length (zc 35 1 (za (List.replicate 32 (V.sc (.int .u8 (0:Int)))++[(V.sc (.int .i64 (0:Int))),(V.sc (.int .i64 (0:Int))),(V.sc (.int .u32 (0:Int)))]) 0 (za (za (za (za (List.replicate 32 (V.sc (.int .u8 (0:Int)))++[(V.sc (.int .i64 (0:Int))),(V.sc (.int .i64 (0:Int))),(V.sc (.int .u32 (0:Int)))]) 0 h.v) 32 [(V.sc (.int .i64 p))]) 33 [(V.sc (.int .i64 to))]) 34 [(V.sc (.int .u32 due))])))) r26)),(V.sl 32 (zc 32 r.fl.length (hfl r.fl)))] to 0))))))
  = k (r.more ⟨h.l,p,to,due,h.hl⟩).v to 0:=by
 have h2:=hr.ns
 rw [yt ⟨zcu h,by decide⟩,yt ⟨rfl,by rw [z0]; omega⟩,yt ⟨rfl,by rw [z1]; omega⟩,yt ⟨rfl,by rw [z2]; omega⟩]
 rw [zvv,zrK,yt ⟨zjz _,by decide⟩,yt (by simp only [List.length_singleton,xh]; omega),yH,zwA,zwm]
theorem zzV {L:Nat} {r:Rl} (hr:r.Ok) (hL:2000≤L) (p:Int) (h:Hs) {now wait:Int} (hn:0≤now∧now≤4294967295) (hw:0≤wait∧wait≤4294967295) (k:List V→Int→Int→Option β):zd β L r.v p h.v now wait k=zif r p h now wait k:=by
 have h1:=hr.nr; have h2:=hr.ns; have h3:=hr.nf
 unfold zd zmy
 rw [zgT,zhz,zgB,zjT,zjn,zjc,zht r,zy7 hr hL]
 unfold zif
 cases hs:zkL r with
 | false=>rfl
 | true =>
  obtain ⟨q1,q2⟩:=zwL hs
  rw [Bool.not_true,xH,xH,zbQ,zbf,zzo (by omega) hL,zt1,zbQ,zv5 (by omega) hL,zyB L r q1]
  congr 1
  congr 1
  congr 1
  rcases zro q1 q2 p with e | e
  ·rw [e]
   have n1:∀ x y:Option β,ifb ((-1:Int) != -1) x y=y:=fun x y=>by rw [zbR,if_pos rfl]
   rw [n1,znq hr,znq hr,n1,zkr]
   cases r.df with
   | false=>rw [xH,if_neg (by simp),if_pos rfl]
   | true =>
    rw [xV,zbR]
    by_cases hp:p=-1
    ·rw [if_pos hp,if_neg (by simp [hp]),if_pos rfl]
    ·rw [if_neg hp,if_pos ⟨rfl,hp⟩]
  ·have ne:zai r.rt p≠-1:=by omega
   have n1:∀ x y:Option β,ifb (zai r.rt p != -1) x y=x:=fun x y=>by rw [zbR,if_neg ne]
   rw [n1,znq hr,znq hr,n1,zbQ,zyy L hn hw,List.length_map]
   have main:ifb (decide (((r.st.length:Nat):Int) ≥ (64:Int))) (k zkT 0 380) (k (r.more ⟨h.l,p,zai r.rt p,zfY now wait,h.hl⟩).v (zai r.rt p) 0)=(if zai r.rt p=-1 then k r.v (-1) 0 else if 64≤r.st.length then k zkT 0 380 else k (r.more ⟨h.l,p,zai r.rt p,zfY now wait,h.hl⟩).v (zai r.rt p) 0):=by
    rw [if_neg ne,zn4]
    by_cases hq:64≤r.st.length
    ·rw [if_pos (by omega),if_pos hq]
    ·rw [if_neg (by omega),if_neg hq]
   have ad:=zAe hr p h (zai r.rt p) (zfY now wait) k
   rw [ad,zkr]
   cases r.df with
   | false=>rw [xH,if_neg (by simp)]; exact main
   | true =>
    rw [xV,zbR]
    by_cases hp:p=-1
    ·rw [if_pos hp,if_neg (by simp [hp])]; exact main
    ·rw [if_neg hp,if_pos ⟨rfl,hp⟩]
theorem zy0 {L:Nat} {r:Rl} (hr:r.Ok) (hL:2000≤L) (p:Int) (h:Hs) {now wait:Int} (hn:0≤now∧now≤4294967295) (hw:0≤wait∧wait≤4294967295) (k:List V→Int→Int→Option β):xe β L r.v p h.v now wait k=zif r p h now wait k:=by
 have h1:=hr.nr; have h2:=hr.ns; have h3:=hr.nf
 unfold xe zmU
 rw [zhk,zsX,zxV hr hL]
 unfold zif
 cases hs:zkL r with
 | false=>rfl
 | true =>
  obtain ⟨q1,q2⟩:=zwL hs
  rw [Bool.not_true,xH,xH,zi7,zbQ,zbf,zwn (by omega) hL,zt1,znp,zbQ,zvx (by omega) hL,zhk,zdS hr,zhk,zx8 L r q1,zgB]
  congr 1
  congr 1
  congr 1
  rw [zkr]
  rcases zro q1 q2 p with e | e
  ·rw [e]
   have n1:∀ x y:Option β,ifb (decide ((-1:Int) < 0)) x y=x:=fun x y=>xI (by decide) x y
   rw [n1]
   cases r.df with
   | false=>rw [xH,if_neg (by simp),if_pos rfl]
   | true =>
    rw [xV,zbR]
    by_cases hp:p=-1
    ·rw [if_pos hp,if_neg (by simp [hp]),if_pos rfl]
    ·rw [if_neg hp,if_pos ⟨rfl,hp⟩]
  ·have ne:zai r.rt p≠-1:=by omega
   have n1:∀ x y:Option β,ifb (decide (zai r.rt p < 0)) x y=y:=fun x y=>zE (by omega) x y
   rw [n1,zi7,List.length_map,zbQ,zxD L hn hw]
   have main:ifb (decide (((r.st.length:Nat):Int) ≥ (64:Int))) (k zkT 0 380) (k (r.more ⟨h.l,p,zai r.rt p,zfY now wait,h.hl⟩).v (zai r.rt p) 0)=(if zai r.rt p=-1 then k r.v (-1) 0 else if 64≤r.st.length then k zkT 0 380 else k (r.more ⟨h.l,p,zai r.rt p,zfY now wait,h.hl⟩).v (zai r.rt p) 0):=by
    rw [if_neg ne,zn4]
    by_cases hq:64≤r.st.length
    ·rw [if_pos (by omega),if_pos hq]
    ·rw [if_neg (by omega),if_neg hq]
   have ad:=zAe hr p h (zai r.rt p) (zfY now wait) k
   rw [ad]
   cases r.df with
   | false=>rw [xH,if_neg (by simp)]; exact main
   | true =>
    rw [xV,zbR]
    by_cases hp:p=-1
    ·rw [if_pos hp,if_neg (by simp [hp])]; exact main
    ·rw [if_neg hp,if_pos ⟨rfl,hp⟩]
end
section
set_option linter.unusedVariables false
set_option linter.unusedSimpArgs false
theorem zli (L:Nat) (v n:Int) (hn:1≤n) (hn2:n≤1000000000000):∃ r,0≤r∧r < n∧∀ (β:Type) (k:Int→Option β),xd β L v n k=k r:=by
 by_cases h:Int.tmod v n < 0
 ·have h1:=Int.lt_tmod_of_pos v (show 0 < n by omega)
  refine ⟨Int.tmod v n+n,by omega,by omega,fun β k=>?_⟩
  simp only [xd,zl3,yH]
  rw [yt (by omega),xI h,zmj (by omega) (by omega)]
 ·have h1:=Int.tmod_lt_of_pos v (show 0 < n by omega)
  refine ⟨Int.tmod v n,by omega,h1,fun β k=>?_⟩
  simp only [xd,zl3,yH]
  rw [yt (by omega),zE h]
structure Dk where
 l:List Int
 a:Int
 h0:0≤a
 h1:a≤l.length
 hl:l.length≤9223372036854775807
def Dk.es (d:Dk):List (List V):=zaz .i64 d.l
theorem ziP (L:Nat) (d:Dk) (n:Int) (hn:1≤n) (hn2:n≤1000000000000):∃ (r:Int) (d':Dk),d'.l=d.l∧0≤r∧r < n∧∀ (β:Type) (k:Int→List (List V)→Int→Option β),yb β L n d.es d.a k=k r d'.es d'.a:=by
 obtain ⟨l,a,h0,h1,hl⟩:=d
 simp only [Dk.es]
 by_cases h:a < l.length
 ·obtain ⟨i,rfl⟩:∃ i:Nat,a=i:=⟨a.toNat,by omega⟩
  have hi:i < l.length:=by omega
  obtain ⟨r,q1,q2,q3⟩:=zli L l[i] n hn hn2
  refine ⟨r,⟨l,i+1,by omega,by omega,hl⟩,rfl,q1,q2,fun β k=>?_⟩
  simp only [yb,zfu,yg,zfJ,yH,yR]
  have w1:IntKind.wrap .i64 ((i:Int)+1)=(i:Int)+1:=zmj (by omega) (by omega)
  have w2:IntKind.wrap .i64 ((i:Int)+1 - 1)=(i:Int):=by rw [zmj (by omega) (by omega)]; omega
  rw [zu8,if_pos (by omega),w1,w2,zaI (zmV _ hi),zdl (by rfl),q3]
 ·refine ⟨0,⟨l,a,h0,h1,hl⟩,rfl,by omega,by omega,fun β k=>?_⟩
  simp only [yb,zfu,yg,zfJ,yH,yR]
  rw [zu8,if_neg (by omega)]
theorem zwq (x:Int):zc 1 1 [V.sc (.int .i64 x)]=zaz .i64 [x]:=rfl
theorem zyp (L:Nat):∀ (n m:Nat) (d:Dk) (rt:List Int),m < n→rt.length+m≤100→∃ (rt':List Int) (d':Dk),rt'.length≤rt.length+m∧∀ (β:Type) (kx:zkJ β) (a0:Int) (a1:Bool) (a2 a3 a4:List (List V)) (c0:Int) (c1:Bool) (c3 c4:List (List V)),
  zcC yb L kx n (m:Int) d.es d.a a0 a1 a2 a3 a4 c0 c1 (zaz .i64 rt) c3 c4=kx d'.es d'.a a0 a1 a2 a3 a4 c0 c1 (zaz .i64 rt') c3 c4
 | 0,m,d,rt,h,_=>by omega
 | n+1,0,d,rt,h,hm=>by
  refine ⟨rt,d,by omega,fun β kx a0 a1 a2 a3 a4 c0 c1 c3 c4=>?_⟩
  unfold zcC zeX
  rw [zE (by omega)]
 | n+1,m+1,d,rt,h,hm=>by
  obtain ⟨r,d1,_,q1,q2,q3⟩:=ziP L d 3 (by decide) (by decide)
  obtain ⟨rt',d',e1,e2⟩:=zyp L n m d1 (rt++[IntKind.wrap .i64 (IntKind.wrap .i64 (3 * (rt.length:Int))+r)]) (by omega) (by simp; omega)
  refine ⟨rt',d',by simp at e1; omega,fun β kx a0 a1 a2 a3 a4 c0 c1 c3 c4=>?_⟩
  unfold zcC zeX
  rw [xI (by omega),yH,q3,yH,zwq,yR,yR,yt (by simp [xh]; omega),yH,zvt,yH,show IntKind.wrap .i64 (((m+1:Nat):Int) - 1)=(m:Int) by rw [zmj (by omega) (by omega)]; omega]
  exact e2 β kx a0 a1 a2 a3 a4 c0 c1 c3 c4
def kid (x:Int):Hs:=⟨x::List.replicate 31 0,by simp⟩
theorem zwZ (x:Int):[(V.sc (.int .u8 x))]++List.replicate 31 (V.sc (.int .u8 (0:Int)))=(kid x).v:=by simp [Hs.v,kid,row]
theorem zvJ (h:Hs):zc 32 1 (za (List.replicate 32 (V.sc (.int .u8 (0:Int)))) 0 h.v)=[h.v]:=by
 rw [zvL,zc,zbf]; exact Eq.trans rfl rfl
theorem zyx {l:List Stm} (s:Stm):l.map Stm.v++[s.v]=(l++[s]).map Stm.v:=by simp
theorem zyR {l:List Hs} (s:Hs):l.map Hs.v++[s.v]=(l++[s]).map Hs.v:=by simp
theorem zBg (l:List Stm) (hl:l.length≤100) (h:Hs) (fr to due:Int) {β:Type} (k:List (List V)→Option β) :
  chk ((List.length h.v)=32∧0+32≤35) (
  chk (1=1∧32+1≤(List.length (za (List.replicate 32 (V.sc (.int .u8 (0:Int)))++[(V.sc (.int .i64 (0:Int))),(V.sc (.int .i64 (0:Int))),(V.sc (.int .u32 (0:Int)))]) 0 h.v))) (
  chk (1=1∧33+1≤(List.length (za (za (List.replicate 32 (V.sc (.int .u8 (0:Int)))++[(V.sc (.int .i64 (0:Int))),(V.sc (.int .i64 (0:Int))),(V.sc (.int .u32 (0:Int)))]) 0 h.v) 32 [(V.sc (.int .i64 fr))]))) (
  chk (1=1∧34+1≤(List.length (za (za (za (List.replicate 32 (V.sc (.int .u8 (0:Int)))++[(V.sc (.int .i64 (0:Int))),(V.sc (.int .i64 (0:Int))),(V.sc (.int .u32 (0:Int)))]) 0 h.v) 32 [(V.sc (.int .i64 fr))]) 33 [(V.sc (.int .i64 to))]))) (
  chk ((List.length (za (za (za (za (List.replicate 32 (V.sc (.int .u8 (0:Int)))++[(V.sc (.int .i64 (0:Int))),(V.sc (.int .i64 (0:Int))),(V.sc (.int .u32 (0:Int)))]) 0 h.v) 32 [(V.sc (.int .i64 fr))]) 33 [(V.sc (.int .i64 to))]) 34 [(V.sc (.int .u32 due))]))=35∧0+35≤35) (
  chk ((List.length (l.map Stm.v)+List.length (zc 35 1 (za (List.replicate 32 (V.sc (.int .u8 (0:Int)))++[(V.sc (.int .i64 (0:Int))),(V.sc (.int .i64 (0:Int))),(V.sc (.int .u32 (0:Int)))]) 0 (za (za (za (za (List.replicate 32 (V.sc (.int .u8 (0:Int)))++[(V.sc (.int .i64 (0:Int))),(V.sc (.int .i64 (0:Int))),(V.sc (.int .u32 (0:Int)))]) 0 h.v) 32 [(V.sc (.int .i64 fr))]) 33 [(V.sc (.int .i64 to))]) 34 [(V.sc (.int .u32 due))])))) * 56≤xh∧List.length (l.map Stm.v)+List.length (zc 35 1 (za (List.replicate 32 (V.sc (.int .u8 (0:Int)))++[(V.sc (.int .i64 (0:Int))),(V.sc (.int .i64 (0:Int))),(V.sc (.int .u32 (0:Int)))]) 0 (za (za (za (za (List.replicate 32 (V.sc (.int .u8 (0:Int)))++[(V.sc (.int .i64 (0:Int))),(V.sc (.int .i64 (0:Int))),(V.sc (.int .u32 (0:Int)))]) 0 h.v) 32 [(V.sc (.int .i64 fr))]) 33 [(V.sc (.int .i64 to))]) 34 [(V.sc (.int .u32 due))])))≤xh) (
  lt ((l.map Stm.v)++(zc 35 1 (za (List.replicate 32 (V.sc (.int .u8 (0:Int)))++[(V.sc (.int .i64 (0:Int))),(V.sc (.int .i64 (0:Int))),(V.sc (.int .u32 (0:Int)))]) 0 (za (za (za (za (List.replicate 32 (V.sc (.int .u8 (0:Int)))++[(V.sc (.int .i64 (0:Int))),(V.sc (.int .i64 (0:Int))),(V.sc (.int .u32 (0:Int)))]) 0 h.v) 32 [(V.sc (.int .i64 fr))]) 33 [(V.sc (.int .i64 to))]) 34 [(V.sc (.int .u32 due))])))) k))))))
  = k ((l++[(⟨h.l,fr,to,due,h.hl⟩:Stm)]).map Stm.v):=by
 rw [yt ⟨zcu h,by decide⟩,yt ⟨rfl,by rw [z0]; omega⟩,yt ⟨rfl,by rw [z1]; omega⟩,yt ⟨rfl,by rw [z2]; omega⟩]
 rw [zvv,zrK,yt ⟨zjz _,by decide⟩,yt (by simp only [List.length_singleton,List.length_map,xh]; omega),yH,zyx]
theorem zBi (l:List Hs) (hl:l.length≤100) (h:Hs) {β:Type} (k:List (List V)→Option β) :
  chk (0+32≤(List.length h.v)) (
  chk ((List.length h.v)=32∧0+32≤32) (
  chk ((List.length (l.map Hs.v)+List.length (zc 32 1 (za (List.replicate 32 (V.sc (.int .u8 (0:Int)))) 0 h.v))) * 32≤xh∧List.length (l.map Hs.v)+List.length (zc 32 1 (za (List.replicate 32 (V.sc (.int .u8 (0:Int)))) 0 h.v))≤xh) (
  lt ((l.map Hs.v)++(zc 32 1 (za (List.replicate 32 (V.sc (.int .u8 (0:Int)))) 0 h.v))) k)))=k ((l++[h]).map Hs.v):=by
 rw [zbQ,yt ⟨zcu h,by decide⟩,zvJ,yt (by simp only [List.length_singleton,List.length_map,xh]; omega),yH,zyR]
theorem zsA (L:Nat):∀ (n m i:Nat) (d:Dk) (st:List Stm) (fl:List Hs),i+m=8→m < n→st.length≤i→fl.length≤i→∃ (st':List Stm) (fl':List Hs) (d':Dk),st'.length≤8∧fl'.length≤8∧∀ (β:Type) (kx:zkl β) (a0:Int) (a1:Bool) (a2 a3 a4:List (List V)) (c0:Int) (c1:Bool) (c2:List (List V)),
  zaX yb L kx n (i:Int) d.es d.a a0 a1 a2 a3 a4 c0 c1 c2 (st.map Stm.v) (fl.map Hs.v)=kx d'.es d'.a a0 a1 a2 a3 a4 c0 c1 c2 (st'.map Stm.v) (fl'.map Hs.v)
 | 0,m,i,d,st,fl,_,h,_,_=>by omega
 | n+1,0,i,d,st,fl,h1,h2,h3,h4=>by
  refine ⟨st,fl,d,by omega,by omega,fun β kx a0 a1 a2 a3 a4 c0 c1 c2=>?_⟩
  unfold zaX zch
  rw [zE (by omega)]
 | n+1,m+1,i,d,st,fl,h1,h2,h3,h4=>by
  obtain ⟨r,d1,_,q1,q2,q3⟩:=ziP L d 3 (by decide) (by decide)
  by_cases r0:r=0
  ·obtain ⟨x1,d2,_,_,_,y1⟩:=ziP L d1 5 (by decide) (by decide)
   obtain ⟨x2,d3,_,_,_,y2⟩:=ziP L d2 5 (by decide) (by decide)
   obtain ⟨x3,d4,_,_,_,y3⟩:=ziP L d3 50 (by decide) (by decide)
   obtain ⟨st',fl',d',e1,e2,e3⟩:=zsA L n m (i+1) d4 (st++[⟨(kid (IntKind.wrap .u8 (i:Int))).l,IntKind.wrap .i64 (x1 - 1),x2,IntKind.wrap .u32 x3,(kid (IntKind.wrap .u8 (i:Int))).hl⟩]) fl (by omega) (by omega) (by simp; omega) (by omega)
   refine ⟨st',fl',d',e1,e2,fun β kx a0 a1 a2 a3 a4 c0 c1 c2=>?_⟩
   unfold zaX zch
   rw [xI (by omega),yH,yH,zwZ,q3,zav r0,zbQ,zbf,y1,yH,y2,y3,yH]
   refine (zBg st (by omega) (kid (IntKind.wrap .u8 (i:Int))) _ _ _ _).trans ?_
   rw [yH,z8 (by omega)]
   exact e3 β kx a0 a1 a2 a3 a4 c0 c1 c2
  ·by_cases r1:r=1
   ·obtain ⟨st',fl',d',e1,e2,e3⟩:=zsA L n m (i+1) d1 st (fl++[kid (IntKind.wrap .u8 (i:Int))]) (by omega) (by omega) (by omega) (by simp; omega)
    refine ⟨st',fl',d',e1,e2,fun β kx a0 a1 a2 a3 a4 c0 c1 c2=>?_⟩
    unfold zaX zch
    rw [xI (by omega),yH,yH,zwZ,q3,yF r0,zav r1,zbf]
    refine (zBi fl (by omega) (kid (IntKind.wrap .u8 (i:Int))) _).trans ?_
    rw [yH,z8 (by omega)]
    exact e3 β kx a0 a1 a2 a3 a4 c0 c1 c2
   ·obtain ⟨st',fl',d',e1,e2,e3⟩:=zsA L n m (i+1) d1 st fl (by omega) (by omega) (by omega) (by omega)
    refine ⟨st',fl',d',e1,e2,fun β kx a0 a1 a2 a3 a4 c0 c1 c2=>?_⟩
    unfold zaX zch
    rw [xI (by omega),yH,yH,q3,yF r0,yF r1,yH,z8 (by omega)]
    exact e3 β kx a0 a1 a2 a3 a4 c0 c1 c2
structure Rl.Few (r:Rl):Prop where
 nr:r.rt.length≤20
 ns:r.st.length≤20
 nf:r.fl.length≤20
theorem Rl.Few.ok {r:Rl} (h:r.Few):r.Ok:=⟨by have:=h.nr; omega,by have:=h.ns; omega,by have:=h.nf; omega⟩
theorem zy2 {L:Nat} (hL:2000≤L) (d:Dk):∃ (r:Rl) (d':Dk),r.rt.length≤10∧r.st.length≤10∧r.fl.length≤10∧∀ (β:Type) (k:List V→List (List V)→Int→Option β),yd β L d.es d.a k=k r.v d'.es d'.a:=by
 obtain ⟨x1,d1,_,_,_,y1⟩:=ziP L d 99 (by decide) (by decide)
 obtain ⟨x2,d2,_,_,_,y2⟩:=ziP L d1 3 (by decide) (by decide)
 obtain ⟨x3,d3,_,w1,w2,y3⟩:=ziP L d2 3 (by decide) (by decide)
 obtain ⟨m,rfl⟩:∃ m:Nat,x3=m:=⟨x3.toNat,by omega⟩
 obtain ⟨rt,d4,e1,e2⟩:=zyp L L m d3 [] (by omega) (by simp; omega)
 obtain ⟨st,fl,d5,e3,e4,e5⟩:=zsA L L 8 0 d4 [] [] rfl (by omega) (by simp) (by simp)
 refine ⟨⟨IntKind.wrap .u32 x1,x2 == 0,rt,st,fl⟩,d5,by simp at e1 ⊢; omega,by simp; omega,by simp; omega,fun β k=>?_⟩
 unfold yd zjd zml
 rw [y1,yH,y2,y3]
 refine (e2 β _ _ _ _ _ _ _ _ _ _).trans ?_
 unfold zdP zgf
 refine (e5 β _ _ _ _ _ _ _ _ _).trans ?_
 unfold zfN
 rw [yH,yt ⟨rfl,rfl,by decide⟩]
 exact Eq.trans rfl rfl
end
section
set_option linter.unusedVariables false
set_option linter.unusedSimpArgs false
theorem zAX {l:List Stm} {j:Nat} (h:j < l.length):List.take 35 (List.drop (0+j * 35) (sfl l))=l[j].v:=by
 rw [Nat.zero_add,sfl,zpI (zmx l) (by decide) (zhG h),zon]
theorem zAo {l:List Stm} {j:Nat} (h:j < l.length):List.take 32 (List.drop (0+j * 35+0) (sfl l))=l[j].h.v:=by
 rw [Nat.zero_add,Nat.add_zero,sfl,zpI (zmx l) (by decide) (zhG h),ztO]
theorem zAR {l:List Hs} {j:Nat} (h:j < l.length):List.take 32 (List.drop (0+j * 32) (hfl l))=l[j].v:=by
 rw [Nat.zero_add,hfl,zpI (zoP l) (by decide) (ziX h),zbf]
theorem zwM (l:List Hs) (s:Hs):List.take (l.length * 32) (hfl l)++List.flatten [s.v]=hfl (l++[s]):=by
 rw [List.take_of_length_le (by rw [zwl]; omega),hfl,hfl,List.map_append,List.flatten_append]; exact Eq.trans rfl rfl
theorem zzK (l:List Int) (x:Int):List.take (l.length * 1) (ifl l)++List.flatten (zaz .i64 [x])=ifl (l++[x]):=by
 rw [List.take_of_length_le (by rw [zz1]; omega),ifl,ifl,← zvt,List.flatten_append]
theorem zAB (l:List Hs) (s:Hs):zc 32 (l.length+List.length [s.v]) (hfl (l++[s]))=(l++[s]).map Hs.v:=by
 have:=chH (l++[s]); rwa [List.length_append] at this
theorem zBe (l:List Int) (x:Int):zc 1 (l.length+List.length (zaz .i64 [x])) (ifl (l++[x]))=zaz .i64 (l++[x]):=by
 have:=chI (l++[x]); rwa [List.length_append] at this
theorem zyI {L:Nat} {r:Rl} (h1:r.rt.length≤10) (h2:r.st.length≤10) (h3:r.fl.length≤10) (what at_:Int):∃ r':Rl,r'.Few∧∀ (β:Type) (k:List V→Option β),xa β L r.v what at_ k=k r'.v:=by
 have hok:r.Ok:=⟨by omega,by omega,by omega⟩
 have hfew:r.Few:=⟨by omega,by omega,by omega⟩
 obtain ⟨x,x0,x1,hx⟩:=zli L what 5 (by decide) (by decide)
 by_cases q0:x=0
 ·obtain ⟨y,y0,y1,hy⟩:=zli L at_ 5 (by decide) (by decide)
  refine ⟨{ r with rt:=r.rt++[IntKind.wrap .i64 (y - 1)] },⟨by simp; omega,by simp; omega,by simp; omega⟩,fun β k=>?_⟩
  unfold xa zbt
  rw [zgT,zhz,zgB,zjT,zjn,zjc,zht r,zdS hok,hx,zav q0,hy,yH,zwq,yt (by simp only [yR,List.length_singleton,xh]; omega),yH,zzK,zBe,chS,chH]
  exact Eq.trans rfl rfl
 by_cases q1:x=1
 ·by_cases hs:0 < r.st.length
  ·obtain ⟨y,y0,y1,hy⟩:=zli L at_ (r.st.length:Int) (by omega) (by omega)
   obtain ⟨j,rfl⟩:∃ j:Nat,y=j:=⟨y.toNat,by omega⟩
   have hj:j < r.st.length:=by omega
   refine ⟨{ r with fl:=r.fl++[r.st[j].h] },⟨by simp; omega,by simp; omega,by simp; omega⟩,fun β k=>?_⟩
   unfold xa zbt
   rw [zgT,zhz,zgB,zjT,zjn,zjc,zht r,zdS hok,hx,yF q0,zav q1,xI (by omega),hy,yt ⟨by omega,by omega⟩,Int.toNat_natCast,zAo hj,zvJ,zwM]
   rw [yt (by rw [ztW]; omega),yt ⟨zcu _,by decide⟩,yt (by simp only [List.length_singleton,xh]; omega),yH,zAB,chS,chI]
   exact Eq.trans rfl rfl
  ·refine ⟨r,hfew,fun β k=>?_⟩
   unfold xa zbt
   rw [zgT,zhz,zgB,zjT,zjn,zjc,zht r,zdS hok,hx,yF q0,zav q1,zE (by omega),zkr]
 by_cases q2:x=2
 ·by_cases hs:0 < r.st.length
  ·obtain ⟨y,y0,y1,hy⟩:=zli L at_ (r.st.length:Int) (by omega) (by omega)
   obtain ⟨j,rfl⟩:∃ j:Nat,y=j:=⟨y.toNat,by omega⟩
   have hj:j < r.st.length:=by omega
   refine ⟨r.more r.st[j],⟨by simp [Rl.more]; omega,by simp [Rl.more]; omega,by simp [Rl.more]; omega⟩,fun β k=>?_⟩
   unfold xa zbt
   rw [zgT,zhz,zgB,zjT,zjn,zjc,zht r,zdS hok,hx,yF q0,yF q1,zav q2,xI (by omega),hy,yt ⟨by omega,by omega⟩,Int.toNat_natCast,zAX hj,zrK]
   rw [yt (by rw [ztW]; omega),yt ⟨zjz _,by decide⟩,yt (by simp only [List.length_singleton,xh]; omega),yH,zwA,zwm]
  ·refine ⟨r,hfew,fun β k=>?_⟩
   unfold xa zbt
   rw [zgT,zhz,zgB,zjT,zjn,zjc,zht r,zdS hok,hx,yF q0,yF q1,zav q2,zE (by omega),zkr]
 by_cases q3:x=3
 ·by_cases hs:0 < r.fl.length
  ·obtain ⟨y,y0,y1,hy⟩:=zli L at_ (r.fl.length:Int) (by omega) (by omega)
   obtain ⟨j,rfl⟩:∃ j:Nat,y=j:=⟨y.toNat,by omega⟩
   have hj:j < r.fl.length:=by omega
   refine ⟨{ r with fl:=r.fl++[r.fl[j]] },⟨by simp; omega,by simp; omega,by simp; omega⟩,fun β k=>?_⟩
   unfold xa zbt
   rw [zgT,zhz,zgB,zjT,zjn,zjc,zht r,zdS hok,hx,yF q0,yF q1,yF q2,zav q3,xI (by omega),hy,yt ⟨by omega,by omega⟩,Int.toNat_natCast,zAR hj,zvJ,zwM]
   rw [yt (by rw [zwl]; omega),yt ⟨zcu _,by decide⟩,yt (by simp only [List.length_singleton,xh]; omega),yH,zAB,chS,chI]
   exact Eq.trans rfl rfl
  ·refine ⟨r,hfew,fun β k=>?_⟩
   unfold xa zbt
   rw [zgT,zhz,zgB,zjT,zjn,zjc,zht r,zdS hok,hx,yF q0,yF q1,yF q2,zav q3,zE (by omega),zkr]
 ·refine ⟨r,hfew,fun β k=>?_⟩
  unfold xa zbt
  rw [zgT,zhz,zgB,zjT,zjn,zjc,zht r,zdS hok,hx,yF q0,yF q1,yF q2,yF q3,zkr]
end
section
set_option linter.unusedVariables false
set_option linter.unusedSimpArgs false
variable {β:Type}
theorem zAf (L:Nat) (k:Bool→Option β):ya β (L+100) k=k true:=by kernel_rfl
theorem zAu (a b:Hs):zc 32 2 (za (za (List.replicate 64 (V.sc (.int .u8 (0:Int)))) 0 a.v) 32 b.v)=[a.v,b.v]:=by
 have ha:=zcu a
 have hb:=zcu b
 have e0:za (List.replicate 64 (V.sc (.int .u8 (0:Int)))) 0 a.v=a.v++List.replicate 32 (V.sc (.int .u8 (0:Int))):=by
  unfold za
  rw [List.take_zero,List.nil_append,Nat.zero_add,ha]; congr 1
 have e1:za (a.v++List.replicate 32 (V.sc (.int .u8 (0:Int)))) 32 b.v=a.v++b.v:=by
  unfold za
  rw [List.take_append_of_le_length (by omega),List.take_of_length_le (by omega),List.drop_of_length_le (by rw [List.length_append,ha,hb]; simp),List.append_nil]
 rw [e0,e1,zc,zc,zc,List.take_append_of_le_length (by omega),List.take_of_length_le (by omega),List.drop_append_of_le_length (by omega),List.drop_of_length_le (by omega),List.nil_append,zbf]
theorem zAd (a b:Rl):zc 5 2 (za (za [(V.sc (.int .u32 (0:Int))),(V.sc (.bool false)),(V.sl 1 ([]:List (List V))),(V.sl 35 ([]:List (List V))),(V.sl 32 ([]:List (List V))),(V.sc (.int .u32 (0:Int))),(V.sc (.bool false)),(V.sl 1 ([]:List (List V))),(V.sl 35 ([]:List (List V))),(V.sl 32 ([]:List (List V)))] 0 a.v) 5 b.v)=[a.v,b.v]:=Eq.trans rfl rfl
def zeroR:Rl:=⟨0,false,[],[],[]⟩
theorem zqK:zeroR.v=zkT:=Eq.trans rfl rfl
theorem zoW:zeroR.Ok:=⟨by decide,by decide,by decide⟩
theorem zzO {L:Nat} {r:Rl} (hr:r.Few) (hL:2000≤L) (p:Int) (h:Hs) {now wait:Int} (hn:0≤now∧now≤4294967295) (hw:0≤wait∧wait≤4294967295):∃ (q:Rl) (to e:Int),q.Ok∧(∀ (β:Type) (k:List V→Int→Int→Option β),zd β L r.v p h.v now wait k=k q.v to e)∧(∀ (β:Type) (k:List V→Int→Int→Option β),xe β L r.v p h.v now wait k=k q.v to e):=by
 have h1:=hr.nr; have h2:=hr.ns; have h3:=hr.nf
 have key:∃ (q:Rl) (to e:Int),q.Ok∧∀ (β:Type) (k:List V→Int→Int→Option β),zif r p h now wait k=k q.v to e:=by
  by_cases q1:zkL r=true
  ·by_cases q2:p < -1
   ·exact ⟨zeroR,0,6,zoW,fun β k=>by unfold zif; rw [q1,Bool.not_true,xH,xI q2,zqK]⟩
   ·by_cases q3:r.st.any (isS h)=true
    ·exact ⟨zeroR,0,150,zoW,fun β k=>by unfold zif; rw [q1,Bool.not_true,xH,zE q2,q3,xV,zqK]⟩
    ·have q3':r.st.any (isS h)=false:=by simpa using q3
     by_cases q4:r.fl.any (isH h)=true
     ·exact ⟨zeroR,0,150,zoW,fun β k=>by unfold zif; rw [q1,Bool.not_true,xH,zE q2,q3',xH,q4,xV,zqK]⟩
     ·have q4':r.fl.any (isH h)=false:=by simpa using q4
      by_cases q5:r.df=true∧p≠-1
      ·exact ⟨r,-1,0,hr.ok,fun β k=>by unfold zif; rw [q1,Bool.not_true,xH,zE q2,q3',xH,q4',xH,if_pos q5]⟩
      ·by_cases q6:zai r.rt p=-1
       ·exact ⟨r,-1,0,hr.ok,fun β k=>by unfold zif; rw [q1,Bool.not_true,xH,zE q2,q3',xH,q4',xH,if_neg q5,if_pos q6]⟩
       ·exact ⟨r.more ⟨h.l,p,zai r.rt p,zfY now wait,h.hl⟩,zai r.rt p,0,⟨by simp [Rl.more]; omega,by simp [Rl.more]; omega,by simp [Rl.more]; omega⟩,fun β k=>by unfold zif; rw [q1,Bool.not_true,xH,zE q2,q3',xH,q4',xH,if_neg q5,if_neg q6,if_neg (by omega)]⟩
  ·have q1':zkL r=false:=by simpa using q1
   exact ⟨zeroR,0,6,zoW,fun β k=>by unfold zif; rw [q1',Bool.not_false,xV,zqK]⟩
 obtain ⟨q,to,e,hq,H⟩:=key
 exact ⟨q,to,e,hq,fun β k=>(zzV hr.ok hL p h hn hw k).trans (H β k),fun β k=>(zy0 hr.ok hL p h hn hw k).trans (H β k)⟩
theorem zzp (h:Hs) (k:Option β):chk ((List.length (List.take 32 h.v))=32∧0+32≤64) k=k:=yt ⟨by rw [zbf,zcu],by decide⟩ k
theorem hin {L:Nat} (hL:2000≤L) {r:Rl} (hr:r.Few) {now wait:Int} (hn:0≤now∧now≤4294967295) (hw:0≤wait∧wait≤4294967295) (ids:List Hs) (hi:ids.length≤100) (kr:Bool→List (List V)→Int→Option β) (kx:zfO β) (p1 p6 p19:Int) (p38:List (List V)) (p39 p40:Int) (p48:List (List V)) (p49 p50:Int) (b9:List V) (b0:List (List V)) (b1:Int):∀ (n i:Nat),i≤ids.length→ids.length - i < n →
  yO ya xb yd xa xd zd xe yc L kr kx n p1 now wait p6 p19 p38 p39 p40 p48 p49 p50 (ids.map Hs.v) (ids.length:Int) (i:Int) b9 r.v b0 b1=kx p1 now wait p6 p38 p39 p40 p48 p49 p50 b9 r.v b0 b1
 | 0,i,h1,h2=>by omega
 | n+1,i,h1,h2=>by
  unfold yO za0
  by_cases h:i < ids.length
  ·obtain ⟨q,to,e,hq,H1,H2⟩:=zzO hr hL p19 ids[i] hn hw
   rw [xI (by omega),zaI (ziX h),zx9,yH,zbf,zvL,zhk,zbQ,zsX,zbf,H1,zqE,yH,zsO,zhk,zbQ,H2,zqE,yH,zsO,zbR,if_pos rfl,zbR,if_pos rfl,zhk,zhk,zsX,zzw hq hL,Bool.not_true,xH,yH,z8 (by omega)]
   exact hin hL hr hn hw ids hi kr kx p1 p6 p19 p38 p39 p40 p48 p49 p50 b9 b0 b1 n (i+1) (by omega) (by omega)
  ·rw [zE (by omega)]
theorem zAs {L:Nat} (hL:2000≤L) {r:Rl} (hr:r.Few) {now wait:Int} (hn:0≤now∧now≤4294967295) (hw:0≤wait∧wait≤4294967295) (fs:List Int) (hf:fs.length≤100) (kr:Bool→List (List V)→Int→Option β) (kx:zdT β) (p1 p6:Int) (p38:List (List V)) (p39 p40:Int) (b9:Hs) (b0:List (List V)) (b1:Int):∀ (n i:Nat),i≤fs.length→fs.length - i < n →
  zab ya xb yd xa xd zd xe yc L kx kr n p1 now wait p6 p38 p39 p40 (zaz .i64 fs) (fs.length:Int) (i:Int) b9.v r.v b0 b1=kx p1 now wait p6 p38 p39 p40 b9.v b0 b1
 | 0,i,h1,h2=>by omega
 | n+1,i,h1,h2=>by
  unfold zab zaN zcb
  by_cases h:i < fs.length
  ·obtain ⟨x,x0,x1,hx⟩:=zli L p6 10 (by decide) (by decide)
   rw [xI (by omega),zaI (zmV _ h),zdl rfl,zbQ,hx,yH,zzp b9,zbf,zwZ,zAu]
   rw [yt ⟨rfl,by rw [znf (by rw [zcu]; decide)]; decide⟩]
   refine (hin hL hr hn hw [b9,kid (IntKind.wrap .u8 x)] (by simp) _ _ p1 p6 fs[i] p38 p39 p40 (zaz .i64 fs) _ _ b9.v b0 b1 L 0 (by simp) (by simp; omega)).trans ?_
   unfold zaH
   rw [yH,z8 (by omega)]
   exact zAs hL hr hn hw fs hf kr kx p1 p6 p38 p39 p40 b9 b0 b1 n (i+1) (by omega) (by omega)
  ·rw [zE (by omega)]
theorem hout {L:Nat} (hL:2000≤L) (rs:List Rl) (hrs:∀ r ∈ rs,r.Few) (hl:rs.length≤100) {now wait:Int} (hn:0≤now∧now≤4294967295) (hw:0≤wait∧wait≤4294967295) (kr:Bool→List (List V)→Int→Option β) (kx:List (List V)→Int→Option β) (p1 p6:Int) (b9:Hs) (b0:List (List V)) (b1:Int):∀ (n i:Nat),i≤rs.length→rs.length - i < n →
  zbr ya xb yd xa xd zd xe yc L kx kr n p1 now wait p6 (rs.map Rl.v) (rs.length:Int) (i:Int) b9.v b0 b1=kx b0 b1
 | 0,i,h1,h2=>by omega
 | n+1,i,h1,h2=>by
  unfold zbr zcj zd4
  by_cases h:i < rs.length
  ·obtain ⟨x,x0,x1,hx⟩:=zli L p1 8 (by decide) (by decide)
   have hg:(rs.map Rl.v)[i]?=some rs[i].v:=by simp [h]
   rw [xI (by omega),zaI hg,zwD,zqE,yH,zsO,hx,yH]
   have e2:zc 1 2 [(V.sc (.int .i64 p1)),(V.sc (.int .i64 (IntKind.wrap .i64 (x - 2))))]=zaz .i64 [p1,IntKind.wrap .i64 (x - 2)]:=rfl
   rw [e2,yR]
   refine (zAs hL (hrs _ (List.getElem_mem h)) hn hw [p1,IntKind.wrap .i64 (x - 2)] (by simp) _ _ p1 p6 (rs.map Rl.v) _ _ b9 b0 b1 L 0 (by simp) (by simp; omega)).trans ?_
   unfold zbL
   rw [yH,z8 (by omega)]
   exact hout hL rs hrs hl hn hw kr kx p1 p6 b9 b0 b1 n (i+1) (by omega) (by omega)
  ·rw [zE (by omega)]
theorem zz6 (L:Nat) (es:List (List V)) (k:List (List V)→Int→Option β):xb β L es k=k es 0:=by
 unfold xb zoQ; exact Eq.trans rfl rfl
end
section
set_option linter.unusedVariables false
set_option linter.unusedSimpArgs false
theorem zAv {L:Nat} {l:List Int} (hl:l.length≤maxLen):∃ d:Dk,d.es=zaz .i64 l∧d.a=0:=⟨⟨l,0,by omega,by omega,by unfold maxLen at hl; omega⟩,rfl,rfl⟩
theorem zAY {a:List V} (h:HasRow (List.replicate 32 (.int .u8)) a):∃ s:Hs,a=s.v:=by
 obtain ⟨l,rfl,hl,_⟩:=zyl h
 exact ⟨⟨l,hl⟩,rfl⟩
theorem zrG (a0:List (List V)) (a1:Int) (a2:List V) (a3 a4 a5 a6:Int) (hl0:a0.length≤maxLen) (wf0:∀ e ∈ a0,HasRow [.int .i64] e) (wf1:(Lit.int .i64 a1).wf=true) (wf2:HasRow (List.replicate 32 (.int .u8)) a2) (wf3:(Lit.int .u32 a3).wf=true) (wf4:(Lit.int .u32 a4).wf=true) (wf5:(Lit.int .i64 a5).wf=true) (wf6:(Lit.int .i64 a6).wf=true) :
  ∃ L,∀ k:Bool→Option Bool,zcd Bool L a0 a1 a2 a3 a4 a5 a6 k=k true:=by
 obtain ⟨l,rfl,_⟩:=zwH wf0
 rw [yR] at hl0
 obtain ⟨h,rfl⟩:=zAY wf2
 obtain ⟨L,hL⟩:∃ L:Nat,5000≤L:=⟨5000,Nat.le_refl _⟩
 refine ⟨L+100,fun k=>?_⟩
 obtain ⟨d,e1,e2⟩:=zAv (L:=L) hl0
 obtain ⟨r,d1,h1,h2,h3,q1⟩:=zy2 (L:=L+100) (by omega) d
 obtain ⟨r',hr',q2⟩:=zyI (L:=L+100) h1 h2 h3 a5 a6
 have hr:r.Few:=⟨by omega,by omega,by omega⟩
 have h1:=q1 Bool
 rw [e1,e2] at h1
 unfold zcd zeG zg4
 rw [zAf,Bool.not_true,xH,zz6,h1,zqE,yH,zsO,zhk,zhk,zsX,zwD,q2,yt ⟨rfl,by decide⟩,yt ⟨rfl,Nat.le_refl 10⟩,zAd]
 refine (hout (L:=L+100) (by omega) [r,r'] (by intro x hx; simp only [List.mem_cons,List.not_mem_nil,or_false] at hx; rcases hx with rfl | rfl <;> assumption) (by simp) (zym wf3) (zym wf4) _ _ a1 a6 h d1.es d1.a (L+100) 0 (by simp) (by simp)).trans ?_
 rfl
end
section
namespace relayHearsL
open Go.ChangeShapes Go.WideShapes Go.ChangeAt Go.RowKit
set_option linter.unusedVariables false
theorem own:ownKnob Try.prog.godebug=none:=by kernel_rfl
theorem zkC:laidOutB Try.prog=true:=by kernel_rfl
set_option maxRecDepth 100000 in
theorem zAl (os:Os) (started:os.Started) (H:Type) (enc:TypeId × Value→H) :
  ReturnsInHanded {} Try.checked os 7 .any (Rows.relayHearsSpec.pre6 enc Try.prog Try.f7 Rows.relayHearsRow.domain false) (Rows.relayHearsSpec.post enc Try.prog Try.f7 false true false false):=by
 refine returnsInHanded_of_change (C:=Try.checked) own started (by kernel_rfl) Try.func7
  (ChangeSpec.witness6 (enc:=enc) (C:=Try.checked) false ⟨#[],#[.slice none 0 0,.int .i64 0,.agg (Array.replicate 32 (Value.int .u8 0)),.int .u32 0,.int .u32 0,.int .i64 0,.int .i64 0],[]⟩ 8 (by kernel_rfl) (by kernel_rfl) (by kernel_rfl) (by kernel_rfl)) ?_
 intro W base args ds gs before hval0 hW hcnd _
 have hval:∀ (j:Nat) t v,Try.f7.params[j]?=some t→args[j]?=some v→Value.okWide Try.prog W .any base t v:=hval0
 have hW':=hW
 obtain ⟨p,q,hA0,hV,rfl,hfz,hnd⟩:=hW
 have hA:DataW.TrodAll enc Try.prog W 0 (fun _=>true) true Try.f7.params.toList args.toList ds p:=hA0
 rw [Try.params7] at hA hval
 obtain ⟨v0,vs0,d0,ds0,p0,q0,hargs,rfl,rfl,h0,r0⟩:=trodAll_cons hA
 obtain ⟨v1,vs1,d1,ds1,p1,q1,rfl,rfl,rfl,h1,r1⟩:=trodAll_cons r0
 obtain ⟨v2,vs2,d2,ds2,p2,q2,rfl,rfl,rfl,h2,r2⟩:=trodAll_cons r1
 obtain ⟨v3,vs3,d3,ds3,p3,q3,rfl,rfl,rfl,h3,r3⟩:=trodAll_cons r2
 obtain ⟨v4,vs4,d4,ds4,p4,q4,rfl,rfl,rfl,h4,r4⟩:=trodAll_cons r3
 obtain ⟨v5,vs5,d5,ds5,p5,q5,rfl,rfl,rfl,h5,r5⟩:=trodAll_cons r4
 obtain ⟨v6,vs6,d6,ds6,p6,q6,rfl,rfl,rfl,h6,r6⟩:=trodAll_cons r5
 obtain ⟨rfl,rfl,rfl⟩:=trodAll_nil r6
 obtain rfl:args=#[v0,v1,v2,v3,v4,v5,v6]:=by cases args; simp_all
 obtain ⟨rfl,rfl⟩:=trodVars_none hV
 have k0:=h0
 have lt0:∀ x ∈ p0,x.block < W.heap.size:=by obtain ⟨m,hm⟩:=k0; exact DataW.trod_lt m _ _ _ hm
 have k1:=h1
 have lt1:∀ x ∈ p1,x.block < W.heap.size:=by obtain ⟨m,hm⟩:=k1; exact DataW.trod_lt m _ _ _ hm
 have k2:=h2
 have lt2:∀ x ∈ p2,x.block < W.heap.size:=by obtain ⟨m,hm⟩:=k2; exact DataW.trod_lt m _ _ _ hm
 have k3:=h3
 have lt3:∀ x ∈ p3,x.block < W.heap.size:=by obtain ⟨m,hm⟩:=k3; exact DataW.trod_lt m _ _ _ hm
 have k4:=h4
 have lt4:∀ x ∈ p4,x.block < W.heap.size:=by obtain ⟨m,hm⟩:=k4; exact DataW.trod_lt m _ _ _ hm
 have k5:=h5
 have lt5:∀ x ∈ p5,x.block < W.heap.size:=by obtain ⟨m,hm⟩:=k5; exact DataW.trod_lt m _ _ _ hm
 have k6:=h6
 have lt6:∀ x ∈ p6,x.block < W.heap.size:=by obtain ⟨m,hm⟩:=k6; exact DataW.trod_lt m _ _ _ hm
 obtain ⟨A0,len0,cap0,rfl⟩:=okWide_slice Try.underlying22 (hval 0 22 v0 rfl rfl)
 obtain ⟨x0,hx0,rp0⟩:=zzT (r:=.any) (b0:=base) (ren:=yS fg gls) (d:=20) (ct:=.sl ([.int .i64])) rfl h0 (by kernel_rfl)
 obtain ⟨a0,rfl,hl0,wf0⟩:=hx0.sl_inv
 obtain ⟨a1,rfl,rfl,rfl,wf1⟩:=open_int Try.underlying3 (hval 1 3 v1 rfl rfl) h1
 obtain ⟨a2,wf2,rp2⟩:=zzt (ren:=yS fg gls) (d:=20) (cts:=List.replicate 32 (.int .u8)) (by kernel_rfl) (hval 2 55 v2 rfl rfl) h2 (by kernel_rfl)
 obtain ⟨a3,rfl,rfl,rfl,wf3⟩:=open_int Try.underlying35 (hval 3 35 v3 rfl rfl) h3
 obtain ⟨a4,rfl,rfl,rfl,wf4⟩:=open_int Try.underlying35 (hval 4 35 v4 rfl rfl) h4
 obtain ⟨a5,rfl,rfl,rfl,wf5⟩:=open_int Try.underlying3 (hval 5 3 v5 rfl rfl) h5
 obtain ⟨a6,rfl,rfl,rfl,wf6⟩:=open_int Try.underlying3 (hval 6 3 v6 rfl rfl) h6
 clear hA0 hval0
 obtain ⟨L,hL⟩:=zrG a0 a1 a2 a3 a4 a5 a6 hl0 wf0 wf1 wf2 wf3 wf4 wf5 wf6
 obtain ⟨v,b,hev,hk⟩:=zoT L 100 (by decide) Bool [(V.sl 1 a0),(V.sc (.int .i64 a1)),(V.agg a2),(V.sc (.int .u32 a3)),(V.sc (.int .u32 a4)),(V.sc (.int .i64 a5)),(V.sc (.int .i64 a6))] [] zu2 true (hL (fun p=>zu2 (V.sc (.bool p)) []))
 have hv:=zxQ hk
 subst hv
 refine (zxj (us:=[.slice A0 len0 cap0,.int .i64 a1,v2,.int .u32 a3,.int .u32 a4,.int .i64 a5,.int .i64 a6]) (w:=W) (fun _ _ h=>by cases h) (zAO L 100) (f:=7) (by kernel_rfl) rfl (fun i x u hx hu=>?_) hev).mono fun e W' ⟨he,bel0⟩=>?_
 ·match i,hx,hu with
  | 0,hx,hu=>cases hx; cases hu; exact rp0
  | 1,hx,hu=>cases hx; cases hu; exact .sc _ rfl
  | 2,hx,hu=>cases hx; cases hu; exact rp2
  | 3,hx,hu=>cases hx; cases hu; exact .sc _ rfl
  | 4,hx,hu=>cases hx; cases hu; exact .sc _ rfl
  | 5,hx,hu=>cases hx; cases hu; exact .sc _ rfl
  | 6,hx,hu=>cases hx; cases hu; exact .sc _ rfl
  | n+7,hx,hu=>simp at hx
 ·have bel:=Kept.below bel0
  subst he
  exact ⟨_,rfl,_,_,_,[],_,[],hW',trodAll_mk1 (shut_bool Try.underlying4 _),(trodAll_cons_mk (Below.trod zkC (by kernel_rfl) (of_decide_eq_true (by kernel_rfl)) k0 bel lt0) (trodAll_cons_mk (Below.trod zkC (by kernel_rfl) (of_decide_eq_true (by kernel_rfl)) k1 bel lt1) (trodAll_cons_mk (Below.trod zkC (by kernel_rfl) (of_decide_eq_true (by kernel_rfl)) k2 bel lt2) (trodAll_cons_mk (Below.trod zkC (by kernel_rfl) (of_decide_eq_true (by kernel_rfl)) k3 bel lt3) (trodAll_cons_mk (Below.trod zkC (by kernel_rfl) (of_decide_eq_true (by kernel_rfl)) k4 bel lt4) (trodAll_cons_mk (Below.trod zkC (by kernel_rfl) (of_decide_eq_true (by kernel_rfl)) k5 bel lt5) (trodAll_cons_mk (Below.trod zkC (by kernel_rfl) (of_decide_eq_true (by kernel_rfl)) k6 bel lt6) trodAll_mk0))))))),rfl,bel.frame _,fun h=>by cases h⟩
theorem over:Rows.relayHearsRow.holds Try.pinned (OpenSpec.ofChange Rows.relayHearsSpec) :=
 OpenClaim.holds_of_wide 7 Try.f7 rfl rfl rfl rfl rfl rfl rfl ⟨rfl,rfl,rfl,rfl,rfl⟩ rfl rfl rfl rfl rfl (by kernel_rfl) Try.func7 (by kernel_rfl)
  (of_decide_eq_true (by kernel_rfl)) (by unfold Func.isWrapper; first | (rw [if_pos (by decide +kernel)]; kernel_rfl) | (rw [if_neg (by decide +kernel)]; exact ⟨rfl,rfl⟩))
  (fun os started H enc _=>zAl os started H enc)
end relayHearsL
theorem relayHears_holds:Rows.RelayHearsSaid:=relayHearsL.over
end
end Go.Proofs.Ytpbbfpfmdckclaa
