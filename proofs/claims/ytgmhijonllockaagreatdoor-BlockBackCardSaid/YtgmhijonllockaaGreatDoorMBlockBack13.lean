/- Part 13 of the proof of BlockBack: an abstract machine over plain values, its soundness, and the functions of the program on plain values. -/
import Derived.Test.YtgmhijonllockaaGreatDoorMBlockBack12
namespace Go.Proofs.YtgmhijonllockaaGreatDoor
set_option maxRecDepth 100000
set_option linter.unusedVariables false
set_option linter.unusedSimpArgs false
open IntKind renaming wrap->QG,bits->XH
open List renaming append_assoc->Wu,length_append->Wm,replicate->We,length->XK,drop_of_length_le->WK,getD_eq_getElem?_getD->Ws,drop_zero->X2,flatMap_cons->Q5,nil_append->XY,take->XM,length_map->QB,getElem?_append_right->Wt,take_of_length_le->XE,length_cons->XS,length_drop->XU,drop_eq_getElem_cons->WQ,drop_drop->WO,getElem_mem->W2,length_nil->XT,take_left'->X4,drop_left'->X5,mem_cons->Q9,getElem?_eq_getElem->Wc,all_eq_true->QO,take_append_drop->X6,append_nil->XZ,map_cons->QW,length_take->Ww,cons_append->X7,map_congr_left->X8,take_left->X9,drop_left->Ya,set_set->Ye,map_append->Yf,drop_eq_nil_of_le->Yh,mem_of_mem_take->WV,drop_succ_cons->Yi,drop->XN
open Int renaming eq_ofNat_of_zero_le->X3,toNat_natCast->XV
open Bool renaming and_eq_true->Wh,not_true->Xh,false_eq_true->WP,true_and->Yc
open Nat renaming mul_le_mul_right->WI,zero_add->WB,mul_one->Yb,mod_eq_of_lt->Yd,min_eq_left->Yg,le_refl->Wq
open Option renaming getD_some->Xl
section
set_option linter.unusedSectionVars false
variable {β:Type}
structure HdT where
 ver:Int
 prev:List Int
 root:List Int
 tm:Int
 bits:Int
 nonce:Int
def hrow(h:HdT):List V:=V.sc (.int .u32 h.ver)::(row .u8 h.prev++(row .u8 h.root++[V.sc (.int .u32 h.tm),V.sc (.int .u32 h.bits),V.sc (.int .u32 h.nonce)]))
structure HdOk (h:HdT):Prop where
 pl:h.prev.length=32
 rl:h.root.length=32
 pb:zt6 h.prev
 rb:zt6 h.root
 ver:0≤h.ver∧h.ver≤4294967295
 tm:0≤h.tm∧h.tm≤4294967295
 bits:0≤h.bits∧h.bits≤4294967295
 nonce:0≤h.nonce∧h.nonce≤4294967295
structure BkT where
 hd:HdT
 txs:List TxT
def za9(b:BkT):List V:=hrow b.hd++[V.sl 4 (b.txs.map yV)]
theorem zqY{h:HdT}(ho:HdOk h):(hrow h).length=68:=by
 simp only [hrow,XS,Wm,xk,ho.pl,ho.rl,XT]
theorem zUJ{b:BkT}(ho:HdOk b.hd):(za9 b).length=69:=by
 simp only [za9,Wm,zqY ho,XS,XT]
theorem zTy{b:BkT}(ho:HdOk b.hd):(za9 b)[68]?=some (V.sl 4 (b.txs.map yV)):=by
 unfold za9
 rw [Wt (by rw [zqY ho]; omega),zqY ho]; rfl
theorem zS4{b:BkT}(ho:HdOk b.hd)(k:Ls→Option β):cLd 4 (za9 b) 68 k=k (b.txs.map yV):=zhm (zTy ho) k
theorem zSD{b:BkT}(ho:HdOk b.hd):XM 68 (za9 b)=hrow b.hd:=by
 unfold za9
 rw [← zqY ho,X9]
theorem zWw(k:IntKind)(l:List Int):(row k l).map V.dem=row k l:=by
 simp only [row,List.map_map]; rfl
theorem zTK(h:HdT):(hrow h).map V.dem=hrow h:=by
 simp only [hrow,QW,Yf,zWw]; rfl
theorem zWC{b:BkT}(ho:HdOk b.hd)(k:Option β):chk (0+68≤(XK (za9 b))) k=k:=zb (by rw [zUJ ho]; omega) k
theorem zRR{h:HdT}(ho:HdOk h):XM 32 (XN 1 (hrow h))=row .u8 h.prev:=by
 simp only [hrow,Yi,X2]
 exact X4 (by rw [xk,ho.pl])
theorem zR0{h:HdT}(ho:HdOk h):XM 32 (XN 33 (hrow h))=row .u8 h.root:=by
 simp only [hrow,Yi]
 rw [X5 (by rw [xk,ho.pl])]
 exact X4 (by rw [xk,ho.rl])
theorem zZd(h:HdT)(k:Int→Option β):cI .u32 (hrow h) 0 k=k h.ver:=zie rfl k
theorem zFP{h:HdT}(ho:HdOk h)(j:Nat):(hrow h)[65+j]?=[V.sc (.int .u32 h.tm),V.sc (.int .u32 h.bits),V.sc (.int .u32 h.nonce)][j]?:=by
 unfold hrow
 rw [show 65+j=(64+j)+1 by omega,List.getElem?_cons_succ,Wt (by rw [xk,ho.pl]; omega),xk,ho.pl,
  Wt (by rw [xk,ho.rl]; omega),xk,ho.rl]
 congr 1; omega
theorem zYq{h:HdT}(ho:HdOk h)(k:Int→Option β):cI .u32 (hrow h) 65 k=k h.tm:=zie (zFP ho 0) k
theorem zX6{h:HdT}(ho:HdOk h)(k:Int→Option β):cI .u32 (hrow h) 66 k=k h.bits:=zie (zFP ho 1) k
theorem zXu{h:HdT}(ho:HdOk h)(k:Int→Option β):cI .u32 (hrow h) 67 k=k h.nonce:=zie (zFP ho 2) k
theorem zVl:∀ {es:Ls},(∀ e∈es,HasRow ([.int .u32]++[.sl (We 32 (.int .u8)++We 2 (.int .u32)++[.sl ([.sl ([.int .u8])])])]++[.sl ([.int .i64]++[.sl ([.int .u8])])]++[.int .u32]) e)→∃ w:List TxT,es=w.map yV∧∀ t∈w,TxOk t
 | [],_=>⟨[],rfl,by simp⟩
 | e::es,h=>by
  obtain ⟨t,rfl,ht⟩:=zZG (h e (by simp))
  obtain ⟨w,rfl,hw⟩:=zVl (es:=es) (fun x hx=>h x (by simp [hx]))
  refine ⟨t::w,rfl,fun b hb=>?_⟩
  rcases Q9.1 hb with rfl | hb
  ·exact ht
  ·exact hw b hb
theorem zY4{a:List V}(h:HasRow ([.int .u32]++We 64 (.int .u8)++We 3 (.int .u32)) a):∃ d,a=hrow d∧HdOk d:=by
 rw [Wu] at h
 obtain ⟨v1,r1,rfl,g1,hh⟩:=h.tail
 obtain ⟨n,rfl,hn⟩:=g1.int_inv
 have hh:HasRow (We 64 (.int .u8)++We 3 (.int .u32)) r1:=hh
 obtain ⟨r,s,rfl,h1,h2⟩:=zwb hh
 rw [show We 64 (CT.int .u8)=We 32 (CT.int .u8)++We 32 (CT.int .u8) from rfl] at h1
 obtain ⟨p,q,rfl,hp,hq⟩:=zwb h1
 obtain ⟨lp,rfl,lpl,lpw⟩:=zIl hp
 obtain ⟨lq,rfl,lql,lqw⟩:=zIl hq
 obtain ⟨v2,r2,rfl,g2,h2⟩:=h2.tail
 obtain ⟨v3,r3,rfl,g3,h2⟩:=h2.tail
 obtain ⟨v4,r4,rfl,g4,h2⟩:=h2.tail
 obtain rfl:=h2.nil
 obtain ⟨x,rfl,hx⟩:=g2.int_inv
 obtain ⟨y,rfl,hy⟩:=g3.int_inv
 obtain ⟨z,rfl,hz⟩:=g4.int_inv
 exact ⟨⟨n,lp,lq,x,y,z⟩,by simp only [hrow,Wu],⟨lpl,lql,fun i hi=>zD4 (lpw i hi),fun i hi=>zD4 (lqw i hi),zsj hn,zsj hx,zsj hy,zsj hz⟩⟩
structure BkW (b:BkT):Prop where
 hd:HdOk b.hd
 tx:∀ t∈b.txs,TxOk t
theorem zYP{a:List V}(h:HasRow ([.int .u32]++We 64 (.int .u8)++We 3 (.int .u32)++[.sl ([.int .u32]++[.sl (We 32 (.int .u8)++We 2 (.int .u32)++[.sl ([.sl ([.int .u8])])])]++[.sl ([.int .i64]++[.sl ([.int .u8])])]++[.int .u32])]) a):∃ b,a=za9 b∧BkW b:=by
 obtain ⟨r,s,rfl,h1,h2⟩:=zwb h
 obtain ⟨d,rfl,hd⟩:=zY4 h1
 obtain ⟨v,r1,rfl,g,h2⟩:=h2.tail
 obtain rfl:=h2.nil
 obtain ⟨xs,rfl,hl,hx⟩:=g.sl_inv
 obtain ⟨w,rfl,hw⟩:=zVl hx
 exact ⟨⟨d,w⟩,rfl,hd,hw⟩
theorem zLj(A B C D:List V)(h:B.length=C.length):yd (A++(B++D)) A.length C=A++(C++D):=by
 unfold yd
 rw [X9,Wu,← h,← WO,Ya,Ya]
def zHd:HdT:=⟨0,We 32 0,We 32 0,0,0,0⟩
theorem zQx(v:Int):[(Qc v)]++We 64 (Qa (0:Int))++[(Qc (0:Int)),(Qc (0:Int)),(Qc (0:Int))]=hrow { zHd with ver:=v }:=by rfl
structure HL (h:HdT):Prop where
 p:h.prev.length=32
 r:h.root.length=32
theorem HL.len{h:HdT}(hl:HL h):(hrow h).length=68:=by
 simp only [hrow,XS,Wm,xk,hl.p,hl.r,XT]
theorem zYt{h:HdT}(hl:HL h){r:List Int}(hr:r.length=32):yd (hrow h) 1 (row .u8 r)=hrow { h with prev:=r }:=
 zLj [V.sc (.int .u32 h.ver)] (row .u8 h.prev) (row .u8 r) _ (by rw [xk,xk,hl.p,hr])
theorem zYv{h:HdT}(hl:HL h){r:List Int}(hr:r.length=32):yd (hrow h) 33 (row .u8 r)=hrow { h with root:=r }:=by
 have e:∀ (c:HdT),hrow c=(V.sc (.int .u32 c.ver)::row .u8 c.prev)++(row .u8 c.root++[V.sc (.int .u32 c.tm),V.sc (.int .u32 c.bits),V.sc (.int .u32 c.nonce)]):=fun c=>by simp [hrow]
 rw [e,e]
 have l:(V.sc (.int .u32 h.ver)::row .u8 h.prev).length=33:=by simp [xk,hl.p]
 rw [← l]
 exact zLj _ _ _ _ (by rw [xk,xk,hr,hl.r])
theorem zqF(c:HdT):hrow c=(V.sc (.int .u32 c.ver)::(row .u8 c.prev++row .u8 c.root))++[V.sc (.int .u32 c.tm),V.sc (.int .u32 c.bits),V.sc (.int .u32 c.nonce)]:=by simp [hrow]
theorem zGx{h:HdT}(hl:HL h):(V.sc (.int .u32 h.ver)::(row .u8 h.prev++row .u8 h.root)).length=65:=by simp [xk,hl.p,hl.r]
theorem zzT(A B x:List V)(j:Nat):yd (A++B) (A.length+j) x=A++yd B j x:=by
 unfold yd
 rw [List.take_append,XE (by omega),show A.length+j-A.length=j by omega,List.drop_append,WK (by omega),show A.length+j+x.length-A.length=j+x.length by omega]
 simp [Wu]
theorem zYY{h:HdT}(hl:HL h)(x:Int):yd (hrow h) 65 [V.sc (.int .u32 x)]=hrow { h with tm:=x }:=by
 rw [zqF,zqF,show 65=(V.sc (.int .u32 h.ver)::(row .u8 h.prev++row .u8 h.root)).length+0 by rw [zGx hl],zzT]; rfl
theorem zYQ{h:HdT}(hl:HL h)(x:Int):yd (hrow h) 66 [V.sc (.int .u32 x)]=hrow { h with bits:=x }:=by
 rw [zqF,zqF,show 66=(V.sc (.int .u32 h.ver)::(row .u8 h.prev++row .u8 h.root)).length+1 by rw [zGx hl],zzT]; rfl
theorem zXc{h:HdT}(hl:HL h)(x:Int):yd (hrow h) 67 [V.sc (.int .u32 x)]=hrow { h with nonce:=x }:=by
 rw [zqF,zqF,show 67=(V.sc (.int .u32 h.ver)::(row .u8 h.prev++row .u8 h.root)).length+2 by rw [zGx hl],zzT]; rfl
theorem zPg{h:HdT}(hl:HL h)(g:HdT)(hg:HL g):yd (hrow g) 0 (hrow h)=hrow h:=zaj (by rw [hl.len,hg.len])
theorem zHL(v:Int):HL { zHd with ver:=v }:=⟨rfl,rfl⟩
def zhT(j:List Int)(a:Nat):List Int:=(j.drop a).take 32
def zj6(j:List Int):HdT:=⟨(le j 0 4:Nat),zhT j 4,zhT j 36,(le j 68 4:Nat),(le j 72 4:Nat),(le j 76 4:Nat)⟩
theorem zf5{j:List Int}{a:Nat}(h:a+32≤j.length):(zhT j a).length=32:=by unfold zhT; rw [Ww,XU]; omega
theorem zKX{j:List Int}{a:Nat}(h:a+32≤j.length):zkk j a=.ok (zhT j a,a+32):=by unfold zkk zhT; rw [if_pos h]
theorem zZO(k:List V→Int→Option β):(lt ([(Qc (0:Int))]++We 64 (Qa (0:Int))++[(Qc (0:Int)),(Qc (0:Int)),(Qc (0:Int))]) fun r0=>chk (0=0∧(XK r0)=68∧68≠0) (k r0 8))=k (hrow zHd) 8:=by
 rw [zg,zQx,zb (by rw [(zHL 0).len]; simp)]; rfl
theorem r68{h:HdT}(hl:HL h):XM 68 (hrow h)=hrow h:=XE (by rw [hl.len]; omega)
theorem zZM{h:HdT}(hl:HL h)(k:List V→Option β):chk (0+68≤(XK (hrow h))) (chk ((XK (XM 68 (hrow h)))=68∧0+68≤68) (lt (yd ([(Qc (0:Int))]++We 64 (Qa (0:Int))++[(Qc (0:Int)),(Qc (0:Int)),(Qc (0:Int))]) 0 (XM 68 (hrow h))) fun r25=>chk (0=0∧(XK r25)=68∧68≠0) (k r25)))=k (hrow h):=by
 rw [zb (by rw [hl.len]; omega),r68 hl,zb ⟨hl.len,by omega⟩,zg,zQx,zPg hl _ (zHL 0),zb (by rw [hl.len]; simp)]
theorem zX4{L:Nat}(hL:20≤L){j:List Int}(hb:Byt j)(hj:j.length≤100000000)(k:List V→Int→Option β):zn β L (yf .u8 j) k=if j.length=80 then k (hrow (zj6 j)) 0 else k (hrow zHd) 8:=by
 unfold zn ziL
 by_cases h:j.length=80
 ·have hl1:HL (zj6 j):=⟨zf5 (by omega),zf5 (by omega)⟩
  rw [xr,if_pos h,h,show ((((80:Nat)):Int) != (80:Int))=false from rfl,zc7]
  refine (zyY (a:=0) hL hb hj (by omega) _).trans ?_
  rw [if_pos (by omega),zg]
  refine (zJu (a:=4) hL hj (by omega) _).trans ?_
  rw [zKX (by omega),zbf,zQx,zb ⟨by rw [xk,zf5 (by omega)],by rw [(zHL _).len]; omega⟩,zg,zYt (zHL _) (zf5 (by omega))]
  refine (zJu (a:=36) hL hj (by omega) _).trans ?_
  have h2:∀ v,HL { zHd with ver:=v,prev:=zhT j 4 }:=fun v=>⟨zf5 (by omega),rfl⟩
  rw [zKX (by omega),zbf,zb ⟨by rw [xk,zf5 (by omega)],by rw [(h2 _).len]; omega⟩,zg,zYv (h2 _) (zf5 (by omega))]
  have h3:∀ v t b n,HL ⟨v,zhT j 4,zhT j 36,t,b,n⟩:=fun v t b n=>⟨zf5 (by omega),zf5 (by omega)⟩
  refine (zyY (a:=68) hL hb hj (by omega) _).trans ?_
  rw [if_pos (by omega),zb ⟨rfl,by rw [(h3 _ _ _ _).len]; omega⟩,zg,zYY (h3 _ _ _ _)]
  refine (zyY (a:=72) hL hb hj (by omega) _).trans ?_
  rw [if_pos (by omega),zb ⟨rfl,by rw [(h3 _ _ _ _).len]; omega⟩,zg,zYQ (h3 _ _ _ _)]
  refine (zyY (a:=76) hL hb hj (by omega) _).trans ?_
  rw [if_pos (by omega),zb ⟨rfl,by rw [(h3 _ _ _ _).len]; omega⟩,zg,zXc (h3 _ _ _ _)]
  exact zZM hl1 fun r=>k r 0
 ·rw [xr,if_neg h,xu,if_neg (by omega)]
  exact zZO k
theorem zMQ:∀ {l:List V},(∀ v∈l,∃ k n,v=V.sc (.int k n))→zdI l l=some true
 | [],_=>rfl
 | v::l,h=>by
  obtain ⟨k,n,rfl⟩:=h v (by simp)
  simp only [zdI,if_true,zMQ (l:=l) (fun x hx=>h x (by simp [hx])),Option.map_some,beq_self_eq_true,Bool.and_self]
theorem zTb{k:IntKind}{l:List Int}:∀ v∈row k l,∃ k n,v=V.sc (.int k n):=fun v hv=>by
 obtain ⟨n,_,rfl⟩:=List.mem_map.1 hv
 exact ⟨_,_,rfl⟩
theorem zJI(h:HdT):∀ v∈hrow h,∃ k n,v=V.sc (.int k n):=fun v hv=>by
 simp only [hrow,Q9,List.mem_append,List.not_mem_nil,or_false] at hv
 rcases hv with rfl | hv | hv | rfl | rfl | rfl
 ·exact ⟨_,_,rfl⟩
 ·exact zTb v hv
 ·exact zTb v hv
 ·exact ⟨_,_,rfl⟩
 ·exact ⟨_,_,rfl⟩
 ·exact ⟨_,_,rfl⟩
theorem zUA{h:HdT}(hl:HL h)(k:Bool→Option β):eqC 68 (hrow h) (hrow h) k=k true:=by
 simp only [eqC,hl.len,and_self,zvK,zMQ (zJI h)]
theorem c68{h:HdT}(hl:HL h)(k:Option β):chk (0+68≤(XK (hrow h))) k=k:=zb (by rw [hl.len]; omega) k
theorem zYC:[(Qc (0:Int))]++We 64 (Qa (0:Int))++[(Qc (0:Int)),(Qc (0:Int)),(Qc (0:Int))]=hrow zHd:=by rfl
theorem zUx{j:List Int}(hb:Byt j)(n:Nat):Byt (j.take n):=fun x hx=>hb x (WV hx)
theorem zRp{j:List Int}{n i:Nat}(h:i<n):ziD (j.take n) i=ziD j i:=by
 unfold ziD
 rw [Ws,Ws,List.getElem?_take,if_pos h]
theorem zx0{j:List Int}{n:Nat}:∀ (w a:Nat),a+w≤n→le (j.take n) a w=le j a w
 | 0,a,h=>rfl
 | w+1,a,h=>by rw [zyc,zyc,zRp (by omega),zx0 w (a+1) (by omega)]
theorem zNq{j:List Int}{n a:Nat}(h:a+32≤n):zhT (j.take n) a=zhT j a:=by
 unfold zhT
 rw [List.drop_take,List.take_take,Yg (by omega)]
theorem zLh(j:List Int):zj6 (j.take 80)=zj6 j:=by
 unfold zj6
 rw [zx0 4 0 (by omega),zx0 4 68 (by omega),zx0 4 72 (by omega),zx0 4 76 (by omega),zNq (by omega),zNq (by omega)]
theorem zG8{j:List Int}{a a':Nat}{t:TxT}(h:gTx j a=.ok (t,a')):a'≤j.length:=by
 unfold gTx at h
 split at h
 ·cases h
 ·rename_i ver a1 e1
  split at h
  ·cases h
  ·rename_i n a2 e2
   split at h
   ·cases h
   ·rename_i xs a3 e3
    split at h
    ·cases h
    ·rename_i m a4 e4
     split at h
     ·cases h
     ·rename_i os a5 e5
      split at h
      ·cases h
      ·rename_i lk a6 e6
       split at h
       ·cases h
       ·rename_i ys a7 e7
        split at h
        ·cases h
        ·cases h
         exact (zGz xs a6 (zny e6) (zxB n a2 (zcp e2).1 e3).2.2.1 e7).1
def zj4(j:List Int):Nat→Nat→Except Int (List TxT × Nat)
 | 0,a=>.ok ([],a)
 | n+1,a=>match gTx j a with
  | .error e=>.error e
  | .ok (t,a1)=>match zj4 j n a1 with
   | .error e=>.error e
   | .ok (ts,a2)=>.ok (t::ts,a2)
theorem zJK{j:List Int}:∀ (n a:Nat) {ts:List TxT} {a':Nat},a≤j.length→zj4 j n a=.ok (ts,a')→a'≤j.length∧ts.length=n∧∀ t∈ts,SmallT t
 | 0,a,ts,a',ha,h=>by simp only [zj4] at h; cases h; exact ⟨ha,rfl,by simp⟩
 | n+1,a,ts,a',ha,h=>by
  rw [zj4] at h
  split at h
  ·cases h
  ·rename_i t a1 e1
   split at h
   ·cases h
   ·rename_i us a2 e2
    cases h
    obtain ⟨r1,r2,r3⟩:=zJK n a1 (zG8 e1) e2
    refine ⟨r1,by simp [r2],fun x hx=>?_⟩
    rcases Q9.1 hx with rfl | hx
    ·exact zKH ha e1
    ·exact r3 x hx
theorem zPX{j:List Int}:∀ (n a:Nat) {e:Int},zj4 j n a=.error e→e≠0
 | 0,a,e,h=>by simp only [zj4] at h; cases h
 | n+1,a,e,h=>by
  rw [zj4] at h
  split at h
  ·rename_i z; cases h; exact zTi z
  ·split at h
   ·rename_i z; cases h; exact zPX n _ z
   ·cases h
def zzh(j:List Int):Except Int BkT:=if j.length>100000 then .error 4 else if j.length<80 then .error 1 else match zcv j 256 80 with
 | .error e=>.error e
 | .ok (n,a)=>match zj4 j n a with
  | .error e=>.error e
  | .ok (ts,a')=>if a'<j.length then .error 2 else .ok ⟨zj6 j,ts⟩
theorem zVG{j:List Int}{e:Int}(h:zzh j=.error e):e≠0:=by
 unfold zzh at h
 split at h
 ·cases h; decide
 ·split at h
  ·cases h; decide
  ·split at h
   ·rename_i z; cases h; exact zgl z
   ·split at h
    ·rename_i z; cases h; exact zPX _ _ z
    ·split at h
     ·cases h; decide
     ·cases h
def zB:BkT:=⟨zHd,[]⟩
def zQN(r:Except Int BkT)(k:BkT→Option β)(b:Int→Option β):Option β:=match r with
 | .ok v=>k v
 | .error e=>b e
theorem zPT(v:BkT)(k:BkT→Option β)(b:Int→Option β):zQN (.ok v) k b=k v:=rfl
theorem zPJ(e:Int)(k:BkT→Option β)(b:Int→Option β):zQN (.error e) k b=b e:=rfl
def zeN(d:HdT)(ts:List TxT):List V:=hrow d++[V.gs 4 (ts.map yV)]
theorem zhq{d:HdT}(hl:HL d)(ts:List TxT):(zeN d ts).length=69:=by simp [zeN,hl.len]
theorem zvM{b:BkT}(hl:HL b.hd):(za9 b).length=69:=by simp [za9,hl.len]
theorem zXP{d:HdT}(hl:HL d)(ts:List TxT)(k:Ls→Option β):cG 4 (zeN d ts) 68 k=k (ts.map yV):=by
 have e:(zeN d ts)[68]?=some (V.gs 4 (ts.map yV)):=by
  unfold zeN
  rw [Wt (by rw [hl.len]; omega),hl.len]; rfl
 simp only [cG,zdp,e,aGw]
 rfl
theorem zUr{d:HdT}(hl:HL d)(ts us:List TxT)(w:V):List.set (List.set (zeN d ts) 68 w) 68 (V.gs 4 (us.map yV))=zeN d us:=by
 rw [Ye]
 unfold zeN
 rw [List.set_append_right _ _ (by rw [hl.len]; omega),hl.len]; rfl
theorem zV3(kb:List Bool){l:List V}(h:∀ v∈l,∃ k n,v=V.sc (.int k n)):zX kb l=l:=by
 unfold zX
 rw [X8 (g:=id) (fun v hv=>by obtain ⟨k,n,rfl⟩:=h v hv; rfl)]
 simp
theorem zUQ(kb:List Bool)(a b:List V):zX kb (a++b)=zX kb a++zX kb b:=by simp [zX]
theorem zDH(kb:List Bool)(d:HdT)(ts:List TxT):zX kb (zeN d ts)=zeN d ts:=by
 unfold zeN
 rw [zUQ,zV3 kb (zJI d)]; rfl
theorem zOa:∀ {l:List V},(∀ v∈l,∃ k n,v=V.sc (.int k n))→∀ (r:List V),(l++r).mapM V.plain=(r.mapM V.plain).map (l++·)
 | [],_,r=>by simp
 | v::l,h,r=>by
  obtain ⟨k,n,rfl⟩:=h v (by simp)
  have ih:=zOa (l:=l) (fun x hx=>h x (by simp [hx])) r
  rw [X7,List.mapM_cons,ih]
  cases r.mapM V.plain <;> rfl
theorem zQt(d:HdT)(hl:HL d)(ts:List TxT)(k:List V→Option β):zcy (XM 69 (zeN d ts)) k=k (za9 ⟨d,ts⟩):=by
 rw [XE (by rw [zhq hl]; omega)]
 have e:(zeN d ts).mapM V.plain=some (za9 ⟨d,ts⟩):=by
  unfold zeN za9
  rw [zOa (zJI d)]; rfl
 simp only [zcy,e]
theorem zQR:[(Qc (0:Int))]++We 64 (Qa (0:Int))++[(Qc (0:Int)),(Qc (0:Int)),(Qc (0:Int)),(V.sl 4 ([]:Ls))]=za9 zB:=by rfl
theorem zVj:[(Qc (0:Int))]++We 64 (Qa (0:Int))++[(Qc (0:Int)),(Qc (0:Int)),(Qc (0:Int)),(V.gs 4 ([]:Ls))]=zeN zHd []:=by rfl
theorem zY7:(za9 zB).length=69:=by rfl
theorem zHG(k:Option β):chk (0=0∧(XK (za9 zB))=69∧69≠0) k=k:=zb (by rw [zY7]; simp) k
theorem zYG(k:Option β){b:BkT}(hl:HL b.hd):chk (0=0∧(XK (za9 b))=69∧69≠0) k=k:=zb (by rw [zvM hl]; simp) k
theorem zZt:HL zHd:=⟨rfl,rfl⟩
theorem zWc{d:HdT}(hl:HL d):yd (zeN zHd []) 0 (hrow d)=zeN d []:=by
 have z:(hrow zHd).length=(hrow d).length:=by rw [hl.len,HL.len zZt]
 unfold zeN yd
 rw [List.take_zero,XY,← z,WB,Ya]
theorem zUV{d e:HdT}(hl:HL d)(he:HL e)(ts us:List TxT):yd (zeN e us) 0 (zeN d ts)=zeN d ts:=zaj (by rw [zhq hl,zhq he])
theorem zHb{b:BkT}{d:HdT}(hl:HL b.hd)(hd:HL d)(ts:List TxT):yd (zeN d ts) 0 (za9 b)=za9 b:=zaj (by rw [zvM hl,zhq hd])
theorem zq8:HL zHd:=zHL 0
theorem ztY(x:TxT):XM 4 (yV x)=yV x:=by simp [yV]
theorem zW1(x:TxT):yd [(Qc (0:Int)),(V.sl 35 ([]:Ls)),(V.sl 2 ([]:Ls)),(Qc (0:Int))] 0 (yV x)=yV x:=zaj (by rw [zgf]; rfl)
theorem zRm(x:TxT):zf 4 1 (yV x)=[x].map yV:=by simp [zf,yV]
theorem c4l(x:TxT)(k:Option β):chk ((XK (yV x))=4∧0+4≤4) k=k:=zb ⟨zgf x,by omega⟩ k
theorem c4g(x:TxT)(k:Option β):chk (0+4≤(XK (yV x))) k=k:=zb (by rw [zgf]; omega) k
theorem upU{i:Nat}(h:i≤1000000000):QG .u64 ((i:Int)+1)=((i+1:Nat):Int):=by
 rw [xW (by omega) (by omega)]; rfl
section
variable {L:Nat} (hL:1000≤L) {j:List Int} (hb:Byt j) (hj:j.length≤100000)
include hL hb hj
theorem zTm{d:HdT}(hl:HL d)(kr:Int→List V→Option β)(kx:Ls→Int→List V→List V→Option β):∀ (m i n a:Nat) (ts:List TxT),n≤256→i+m=n→ts.length=i→a≤j.length→∀ N,m<N →
  zaS yO L kr kx N (yf .u8 j) (a:Int) (n:Int) (i:Int) (zeN zHd []) (zeN d ts)=zly (zj4 j m a) (fun us a'=>kx (yf .u8 j) (a':Int) (zeN zHd []) (zeN d (ts++us))) (fun e=>kr e (za9 zB)):=by
 intro m
 induction m with
 | zero=>
  intro i n a ts hn hi hts ha N hN
  obtain ⟨M,rfl⟩:∃ M,N=M+1:=⟨N-1,by omega⟩
  rw [zaS]
  unfold zdd
  rw [zp (by omega),zDH]
  simp only [zj4,zbf,XZ]
 | succ m ih=>
  intro i n a ts hn hi hts ha N hN
  obtain ⟨M,rfl⟩:∃ M,N=M+1:=⟨N-1,by omega⟩
  rw [zaS]
  unfold zdd
  rw [yv (by omega),zTD hL hb (by omega) ha,zj4]
  cases e1:gTx j a with
  | error e=>
   rw [zcm,← zYI,c4l,zzu,zg,xu,if_neg (zTi e1),zb ⟨rfl,by rw [zhq zq8]; omega⟩,zQR,zHb zq8 zq8,zg]
   rfl
  | ok p=>
   obtain ⟨t,a1⟩:=p
   have ha1:=zG8 e1
   have hset:=zUr hl ts (ts++[t]) (V.sl 4 (ts.map yV))
   rw [zbf,c4l,zzu,zg,xu,if_pos rfl,zXP hl,c4g,ztY,c4l,zW1,zRm,zb (by simp only [QB,XS,XT]; unfold xf; omega),← Yf,zg,zb ⟨rfl,by rw [List.length_set,zhq hl]; omega⟩,upU (by omega),zg,hset,zDH]
   refine (ih (i+1) n a1 (ts++[t]) hn (by omega) (by simp [hts]) ha1 M (by omega)).trans ?_
   simp only
   cases zj4 j m a1 with
   | error e=>rfl
   | ok q=>obtain ⟨us,a2⟩:=q; simp only [zbf,Wu,X7,XY]
theorem zKY(k:List V→Int→Option β):zD β L (yf .u8 j) k=zQN (zzh j) (fun b=>k (za9 b) 0) (fun e=>k (za9 zB) e):=by
 unfold zD zlU zrj zzh
 rw [xr,zp (by omega),if_neg (by omega)]
 by_cases h1:j.length<80
 ·rw [yv (by omega),if_pos h1,zQR,zg,zHG,zPJ]
 ·have hl:HL (zj6 j):=⟨zf5 (by omega),zf5 (by omega)⟩
  rw [zp (by omega),if_neg h1,zb ⟨by omega,by omega⟩,X2,zoi,zX4 (by omega) (zUx hb 80) (by rw [Ww]; omega),if_pos (by rw [Ww]; omega),zLh,zb ⟨hl.len,by omega⟩,zYC,zPg hl _ zq8,zg,xu,if_pos rfl]
  refine (zKz (by omega) hb (by omega) (a:=80) 256 (by omega) _).trans ?_
  cases e1:zcv j 256 80 with
  | error e=>rw [zcm,xu,if_neg (zgl e1),zQR,zg,zHG]; rfl
  | ok p=>
   obtain ⟨n,a⟩:=p
   obtain ⟨ha,hn⟩:=zcp e1
   rw [zbf,xu,if_pos rfl,c68 hl,r68 hl,zb ⟨hl.len,by omega⟩,zVj,zWc hl,zb ⟨zhq hl [],by omega⟩,zUV hl zq8,zDH]
   refine (zTm hL hb hj hl _ _ n 0 n a [] hn (by omega) rfl ha L (by omega)).trans ?_
   simp only
   cases e2:zj4 j n a with
   | error e=>
    rw [zcm]
    unfold zer
    rw [zHG]; rfl
   | ok q=>
    obtain ⟨ts,a'⟩:=q
    obtain ⟨ha',hts,_⟩:=zJK n a ha e2
    rw [zbf,XY]
    unfold zeK xG zrJ
    rw [zp (by omega),xr,zp (by omega)]
    show _=zQN (if a'<j.length then .error 2 else .ok ⟨zj6 j,ts⟩) _ _
    by_cases h2:a'<j.length
    ·rw [yv (by omega),if_pos h2]
     change ifb ((2:Int) != 0) _ _=_
     rw [xu,if_neg (by decide),zb ⟨rfl,by rw [zhq zq8]; omega⟩,zQR,zHb zq8 zq8,zg,zHG]; rfl
    ·rw [zp (by omega),if_neg h2]
     change ifb ((0:Int) != 0) _ _=_
     rw [xu,if_pos rfl,zb (by rw [zhq hl]; omega),zQt _ hl,zb ⟨zvM hl,by rw [zhq zq8]; omega⟩,zHb hl zq8,zg,zYG _ hl]; rfl
end
structure SmallB (b:BkT):Prop where
 hl:HL b.hd
 n:b.txs.length≤10000
 s:∀ t∈b.txs,SmallT t
theorem zyJ{b:BkT}(hl:HL b.hd)(k:Ls→Option β):cLd 4 (za9 b) 68 k=k (b.txs.map yV):=by
 have e:(za9 b)[68]?=some (V.sl 4 (b.txs.map yV)):=by
  unfold za9
  rw [Wt (by rw [hl.len]; omega),hl.len]; rfl
 exact zhm e k
theorem zTA{b:BkT}(hl:HL b.hd):XM 68 (za9 b)=hrow b.hd:=by
 unfold za9
 rw [← hl.len,X9]
theorem zTz{b:BkT}(hl:HL b.hd):List.map V.dem (XM 69 (za9 b))=za9 b:=by
 rw [XE (by rw [zvM hl]; omega)]
 simp only [za9,Yf,zTK]; rfl
theorem zMk{l:List TxT}{i:Nat}(h:i<l.length):(l.map yV)[i]?=some (yV l[i]):=by simp [h]
theorem zLk{L:Nat}(hL:1000≤L){b:BkT}(hs:SmallB b)(kr:Bool→Option β)(kx:Option β):∀ (m i:Nat),i≤b.txs.length→b.txs.length-i<m →
  zcL xv L kr kx m (b.txs.length:Int) (i:Int) (za9 b) (za9 b)=kx
 | 0,i,h1,h2=>by omega
 | m+1,i,h1,h2=>by
  have hn:=hs.n
  rw [zcL]
  unfold zht
  by_cases hi:i<b.txs.length
  ·rw [yv (by omega),zyJ hs.hl,zaG (zMk hi),zyJ hs.hl,zaG (zMk hi),zLi,zYN hL (hs.s _ (W2 hi))]
   simp only [Xh,zc7]
   rw [xM (by omega),zg]
   exact zLk hL hs kr kx m (i+1) (by omega) (by omega)
  ·rw [zp (by omega)]
theorem zWS{L:Nat}(hL:20000≤L){b:BkT}(hs:SmallB b)(k:Bool→Option β):xz β L (za9 b) (za9 b) k=k true:=by
 have hn:=hs.n
 unfold xz zhR zmn
 rw [zb (by rw [zvM hs.hl]; omega),zb (by rw [zvM hs.hl]; omega),zTA hs.hl,zUA hs.hl]
 simp only [Xh,zc7]
 rw [zyJ hs.hl,zyJ hs.hl,xu,if_pos rfl,zyJ hs.hl,QB]
 refine (zLk (by omega) hs _ _ L 0 (by omega) (by omega)).trans ?_
 rfl
theorem zRK{b:BkT}(hl:HL b.hd)(k:List V→Option β):chk ((XK (za9 b))=69∧0+69≤69) (lt (yd ([(Qc (0:Int))]++We 64 (Qa (0:Int))++[(Qc (0:Int)),(Qc (0:Int)),(Qc (0:Int)),(V.gs 4 ([]:Ls))]) 0 (za9 b)) k)=k (za9 b):=by
 rw [zb ⟨zvM hl,by omega⟩,zVj,zHb hl zq8,zg]
theorem c69{b:BkT}(hl:HL b.hd)(k:Option β):chk (0+69≤(XK (za9 b))) k=k:=zb (by rw [zvM hl]; omega) k
end
section
variable {β:Type}
theorem zy9(x:Inp):yd (We 32 (Qa (0:Int))++[(Qc (0:Int)),(Qc (0:Int)),(V.gs 1 ([]:Ls))]) 0 (zaZ x)=zaZ x:=zaj (by rw [zn3]; rfl)
theorem zGB(x:Outp):yd [(Qe (0:Int)),(V.gs 1 ([]:Ls))] 0 (zbS x)=zbS x:=zaj (by rw [zMv]; rfl)
theorem zv1(x:Inp)(k:Option β):chk ((XK (XM 35 (zaZ x)))=35∧0+35≤35) k=k:=zb ⟨by rw [zoq,zn3],by decide⟩ k
theorem zF5(x:Outp)(k:Option β):chk ((XK (XM 2 (zbS x)))=2∧0+2≤2) k=k:=zb ⟨by rw [zv4,zMv],by decide⟩ k
theorem zv9(x:Inp)(k:Ls→Option β):cLd 1 (zaZ x) 34 k=k (zaX x.wit):=zhm rfl k
theorem zGA(x:Outp)(k:Ls→Option β):cLd 1 (zbS x) 1 k=k (yf .u8 x.scr):=zhm rfl k
theorem znZ(x:TxT)(k:Ls→Option β):cLd 35 (yV x) 1 k=k (x.ins.map zaZ):=zhm rfl k
theorem zkD(x:TxT)(k:Ls→Option β):cLd 2 (yV x) 2 k=k (x.outs.map zbS):=zhm rfl k
theorem zGg(x:TxT):List.map V.dem (XM 4 (yV x))=yV x:=Eq.trans rfl rfl
theorem up{i:Nat}(h:i≤1000000000):QG .i64 ((i:Int)+1)=((i+1:Nat):Int):=by
 rw [xH (by omega) (by omega)]; omega
theorem zC9(w:List (List Int)):(zaX w).length=w.length:=by simp [zaX]
theorem zCY{w:List (List Int)}{i:Nat}(h:i<w.length):(zaX w)[i]?=some [V.sl 1 (yf .u8 w[i])]:=by simp [zaX,h]
theorem zkC{α:Type}{l:List α}{p:α→Bool}{i:Nat}(h:i<l.length):(l.drop i).all p=(p l[i]&&(l.drop (i+1)).all p):=by
 rw [WQ h]; rfl
theorem zye(L:Nat)(b:Int)(kr:Bool→Option β)(kx:Option β)(w:List (List Int))(hw:w.length≤1000000):∀ (n i:Nat),i≤w.length→w.length-i<n →
  zfn L kr kx n b (zaX w) (w.length:Int) (i:Int)=ifb ((w.drop i).all fun x=>decide ((x.length:Int)≤b)) kx (kr false)
 | 0,i,h1,h2=>by omega
 | n+1,i,h1,h2=>by
  simp only [zfn,zmk,zg]
  by_cases h:i<w.length
  ·rw [yv (by omega),zaG (zCY h),zqB rfl,up (by omega),zye L b kr kx w hw n (i+1) (by omega) (by omega),zkC h]
   simp only [xr]
   by_cases hb:((w[i].length:Nat):Int)≤b
   ·rw [zp (by omega)]; simp [hb]
   ·rw [yv (by omega)]; simp [hb,ifb]
  ·rw [zp (by omega),WK (by omega)]; rfl
theorem zSO{L:Nat}(hL:2000≤L){a b:Int}(ha:a≤1000)(w:List (List Int))(k:Bool→Option β):zu β L (zaX w) a b k=k (decide ((w.length:Int)≤a)&&w.all fun x=>decide ((x.length:Int)≤b)):=by
 simp only [zu,zpM,zuJ,zC9,zi0,zj2]
 by_cases h:(w.length:Int)≤a
 ·rw [zp (by omega),show ((0:Int))=((0:Nat):Int) from rfl,zye L b _ _ w (by omega) L 0 (by omega) (by omega)]
  simp only [X2,h,decide_true,Yc]
  cases w.all fun x=>decide ((x.length:Int)≤b) <;> rfl
 ·rw [yv (by omega)]; simp [h]
theorem zzl{l:List Inp}{i:Nat}(h:i<l.length):(l.map zaZ)[i]?=some (zaZ l[i]):=by simp [h]
theorem zDt{l:List Outp}{i:Nat}(h:i<l.length):(l.map zbS)[i]?=some (zbS l[i]):=by simp [h]
def zDZ(x:Inp):Bool:=decide ((x.wit.length:Int)≤40)&&x.wit.all fun y=>decide ((y.length:Int)≤600)
theorem zLx{L:Nat}(hL:2000≤L)(kr:Bool→Option β)(kx:List V→Option β)(l:List Inp)(hl:l.length≤1000000)(b1:List V):∀ (n i:Nat),i≤l.length→l.length-i<n →
  zis zu L kr kx n (l.map zaZ) (l.length:Int) (i:Int) b1=ifb ((l.drop i).all zDZ) (kx b1) (kr false)
 | 0,i,h1,h2=>by omega
 | n+1,i,h1,h2=>by
  simp only [zis,zrl,zg]
  by_cases h:i<l.length
  ·rw [yv (by omega),zaG (zzl h)]
   rw [zv1,zoq,zy9]
   simp only [zv9,zqX]
   rw [zSO hL (by omega),up (by omega),zLx hL kr kx l hl b1 n (i+1) (by omega) (by omega),zkC h]
   show ifb (!(zDZ l[i])) _ _=_
   cases zDZ l[i] <;> rfl
  ·rw [zp (by omega),WK (by omega)]; rfl
def zD8(x:Outp):Bool:=decide ((x.scr.length:Int)≤600)
theorem zIg{L:Nat}(kr:Bool→Option β)(kx:Option β)(l:List Outp)(hl:l.length≤1000000):∀ (n i:Nat),i≤l.length→l.length-i<n →
  zgX L kr kx n (l.map zbS) (l.length:Int) (i:Int)=ifb ((l.drop i).all zD8) kx (kr false)
 | 0,i,h1,h2=>by omega
 | n+1,i,h1,h2=>by
  simp only [zgX,zqg,zg]
  by_cases h:i<l.length
  ·rw [yv (by omega),zaG (zDt h)]
   rw [zF5,zv4,zGB]
   simp only [zGA,zxL,xr]
   rw [up (by omega),zIg kr kx l hl n (i+1) (by omega) (by omega),zkC h]
   by_cases hb:((l[i].scr.length:Nat):Int)≤600
   ·rw [zp (by omega)]; simp [zD8,hb]
   ·rw [yv (by omega)]; simp [zD8,hb,ifb]
  ·rw [zp (by omega),WK (by omega)]; rfl
def zwQ(t:TxT):Bool:=decide (t.ins.length≤70)&&decide (t.outs.length≤70)&&t.ins.all zDZ&&t.outs.all zD8
theorem zY8{L:Nat}(hL:2000≤L)(t:TxT)(k:Bool→Option β):zO β L (yV t) k=k (zwQ t):=by
 simp only [zO,zvQ,zDI,zgf,zvK]
 simp only [znZ,zkD,zx2,zrk,QB,zml,zhU,zn5,zk5,zmu]
 by_cases h1:t.ins.length≤70
 ·rw [zp (by omega)]
  by_cases h2:t.outs.length≤70
  ·rw [zp (by omega),show ((0:Int))=((0:Nat):Int) from rfl,zLx hL _ _ _ (by omega) _ L 0 (by omega) (by omega)]
   simp only [zkD,QB]
   rw [zIg _ _ _ (by omega) L 0 (by omega) (by omega)]
   simp only [X2,zwQ,h1,h2,decide_true,Yc]
   cases t.ins.all zDZ <;> cases t.outs.all zD8 <;> rfl
  ·rw [yv (by omega)]; simp [zwQ,h2]
 ·rw [yv (by omega)]; simp [zwQ,h1]
structure KeptP (t:TxT):Prop where
 ni:t.ins.length≤70
 no:t.outs.length≤70
 wl:∀ x∈t.ins,x.wit.length≤40
 wi:∀ x∈t.ins,∀ y∈x.wit,y.length≤600
 sl:∀ x∈t.outs,x.scr.length≤600
theorem zXJ{t:TxT}(h:zwQ t=true):KeptP t:=by
 simp only [zwQ,zDZ,zD8,Wh,decide_eq_true_eq,QO] at h
 exact ⟨h.1.1.1,h.1.1.2,fun x hx=>by have:=(h.1.2 x hx).1; omega,fun x hx y hy=>by have:=(h.1.2 x hx).2 y hy; omega,fun x hx=>by have:=h.2 x hx; omega⟩
end
section
variable {β:Type}
theorem znm{a b:Nat}(h:a+b≤1000000000000):(a+b)*1≤xf∧a+b≤xf:=by
 unfold xf; omega
def zmx(n:Int)(w:Nat):List Int:=(List.range w).map fun (i:Nat)=>QG .u8 (zb1 .u64 n (8*(i:Int)))
theorem zqK(n:Int)(w:Nat):(zmx n w).length=w:=by simp [zmx]
def zqa(n:Int):List Int:=zmx (QG .u64 n) 4
def zNd(n:Int):List Int:=zmx n 8
theorem zcU(n:Int):(zqa n).length=4:=zqK _ _
theorem zuw(n:Int):(zNd n).length=8:=zqK _ _
def szB(n:Int):List Int:=if n<253 then [QG .u8 n] else if n<65536 then 253::zmx n 2 else if n<4294967296 then 254::zmx n 4 else 255::zmx n 8
theorem zlV(n:Int):(szB n).length≤9:=by
 unfold szB; repeat' split
 all_goals simp [zqK]
def bsB(s:List Int):List Int:=szB (s.length:Int)++s
def zud(x:Inp):List V:=[V.sc (.int .u8 (x.pv.getD 0 0)),V.sc (.int .u8 (x.pv.getD 1 0)),V.sc (.int .u8 (x.pv.getD 2 0)),V.sc (.int .u8 (x.pv.getD 3 0)),V.sc (.int .u8 (x.pv.getD 4 0)),V.sc (.int .u8 (x.pv.getD 5 0)),V.sc (.int .u8 (x.pv.getD 6 0)),V.sc (.int .u8 (x.pv.getD 7 0)),V.sc (.int .u8 (x.pv.getD 8 0)),V.sc (.int .u8 (x.pv.getD 9 0)),V.sc (.int .u8 (x.pv.getD 10 0)),V.sc (.int .u8 (x.pv.getD 11 0)),V.sc (.int .u8 (x.pv.getD 12 0)),V.sc (.int .u8 (x.pv.getD 13 0)),V.sc (.int .u8 (x.pv.getD 14 0)),V.sc (.int .u8 (x.pv.getD 15 0)),V.sc (.int .u8 (x.pv.getD 16 0)),V.sc (.int .u8 (x.pv.getD 17 0)),V.sc (.int .u8 (x.pv.getD 18 0)),V.sc (.int .u8 (x.pv.getD 19 0)),V.sc (.int .u8 (x.pv.getD 20 0)),V.sc (.int .u8 (x.pv.getD 21 0)),V.sc (.int .u8 (x.pv.getD 22 0)),V.sc (.int .u8 (x.pv.getD 23 0)),V.sc (.int .u8 (x.pv.getD 24 0)),V.sc (.int .u8 (x.pv.getD 25 0)),V.sc (.int .u8 (x.pv.getD 26 0)),V.sc (.int .u8 (x.pv.getD 27 0)),V.sc (.int .u8 (x.pv.getD 28 0)),V.sc (.int .u8 (x.pv.getD 29 0)),V.sc (.int .u8 (x.pv.getD 30 0)),V.sc (.int .u8 (x.pv.getD 31 0)),V.sc (.int .u32 (x.pv.getD 32 0))]
def ztP(x:Inp):List Int:=[x.pv.getD 0 0,x.pv.getD 1 0,x.pv.getD 2 0,x.pv.getD 3 0,x.pv.getD 4 0,x.pv.getD 5 0,x.pv.getD 6 0,x.pv.getD 7 0,x.pv.getD 8 0,x.pv.getD 9 0,x.pv.getD 10 0,x.pv.getD 11 0,x.pv.getD 12 0,x.pv.getD 13 0,x.pv.getD 14 0,x.pv.getD 15 0,x.pv.getD 16 0,x.pv.getD 17 0,x.pv.getD 18 0,x.pv.getD 19 0,x.pv.getD 20 0,x.pv.getD 21 0,x.pv.getD 22 0,x.pv.getD 23 0,x.pv.getD 24 0,x.pv.getD 25 0,x.pv.getD 26 0,x.pv.getD 27 0,x.pv.getD 28 0,x.pv.getD 29 0,x.pv.getD 30 0,x.pv.getD 31 0]
def ptB(x:Inp):List Int:=ztP x++zqa (x.pv.getD 32 0)
theorem zUT(x:Inp):(zud x).length=33:=by simp [zud]
theorem zSy(x:Inp):(XM 32 (zud x)).length=32:=by simp [zud]
theorem zO9(x:Inp):zf 1 32 (XM 32 (zud x))=yf .u8 (ztP x):=by rfl
theorem zYB(x:Inp)(k:Int→Option β):cI .u32 (zud x) 32 k=k (x.pv.getD 32 0):=zie rfl k
theorem zr7(x:Inp):(ztP x).length=32:=by simp [ztP]
theorem zD7(x:Inp):(ptB x).length=36:=by simp [ptB,zr7,zcU]
theorem zi5(k:IntKind):([]:Ls)=yf k []:=rfl
theorem zYh(x:Inp):XM 33 (zaZ x)=zud x:=by rfl
theorem zVV(x:Inp)(k:Option β):chk (0+33≤(XK (zaZ x))) k=k:=zb (by rw [zn3]; omega) k
theorem zGH(x:TxT)(k:Option β):chk (0+4≤(XK (yV x))) k=k:=zb (by rw [zgf]; omega) k
theorem zmV{L:Nat}{b s:List Int}(h:b.length+s.length≤1000000000000)(k:Ls→Option β):yb β L (yf .u8 b) (yf .u8 s) k=k (yf .u8 (b++s)):=by
 simp only [yb,zlC,zg,xr,List.replicate_zero,XT,XY]
 rw [xH (by omega) (by omega),zb (by unfold xf; omega),zb (by unfold xf; omega),zb (znm h),zb0]
theorem z0p(L:Nat)(n:Int)(k:Ls→Option β):yl β (L+20) n 2 k=k (yf .u8 (zmx n 2)):=by kernel_rfl
theorem z0c(L:Nat)(n:Int)(k:Ls→Option β):yl β (L+20) n 4 k=k (yf .u8 (zmx n 4)):=by kernel_rfl
theorem z0q(L:Nat)(n:Int)(k:Ls→Option β):yl β (L+20) n 8 k=k (yf .u8 (zmx n 8)):=by kernel_rfl
theorem zNa{L:Nat}(hL:20≤L)(n:Int)(k:Ls→Option β):yl β L n 2 k=k (yf .u8 (zmx n 2))∧yl β L n 4 k=k (yf .u8 (zmx n 4))∧yl β L n 8 k=k (yf .u8 (zmx n 8)):=by
 obtain ⟨m,rfl⟩:∃ m,L=m+20:=⟨L-20,by omega⟩
 exact ⟨z0p m n k,z0c m n k,z0q m n k⟩
theorem zZH{L:Nat}(hL:20≤L){b:List Int}(h:b.length≤900000000000)(n:Int)(k:Ls→Option β):zL β L (yf .u8 b) n k=k (yf .u8 (b++zmx (QG .u64 n) 2)):=by
 simp only [zL,zmL,zg]
 rw [(zNa hL _ _).1,zmV (by rw [zqK]; omega)]
theorem ztR{L:Nat}(hL:20≤L){b:List Int}(h:b.length≤900000000000)(n:Int)(k:Ls→Option β):ya β L (yf .u8 b) n k=k (yf .u8 (b++zqa n)):=by
 simp only [ya,zmM,zg]
 rw [(zNa hL _ _).2.1,zmV (by rw [zqK]; omega)]; rfl
theorem zVg{L:Nat}(hL:20≤L){b:List Int}(h:b.length≤900000000000)(n:Int)(k:Ls→Option β):ye β L (yf .u8 b) n k=k (yf .u8 (b++zNd n)):=by
 simp only [ye,zmb,zg]
 rw [(zNa hL _ _).2.2,zmV (by rw [zqK]; omega)]; rfl
theorem zWT(n:Int):zf 1 1 [V.sc (.int .u8 n)]=yf .u8 [n]:=rfl
theorem zyl{L:Nat}(hL:20≤L){b:List Int}(h:b.length≤800000000000){n:Int}(h0:0≤n)(k:Ls→Option β):za β L (yf .u8 b) n k=k (yf .u8 (b++szB n)):=by
 simp only [za,zlg,zg,zWT,zef]
 unfold szB
 split
 ·rw [zmV (by simp; omega)]
 ·split
  ·rw [zmV (by simp; omega),zZH hL (by simp; omega),zN5 (by omega) (by omega),xW (by omega) (by omega)]
   simp
  ·split
   ·rw [zmV (by simp; omega),ztR hL (by simp; omega),zqa,zla (by omega) (by omega),xW (by omega) (by omega)]
    simp
   ·rw [zmV (by simp; omega),zVg hL (by simp; omega),zNd]
    simp
theorem zNA{L:Nat}(hL:20≤L){b s:List Int}(h:b.length≤700000000000)(hs:s.length≤10000000)(k:Ls→Option β):yc β L (yf .u8 b) (yf .u8 s) k=k (yf .u8 (b++bsB s)):=by
 simp only [yc,zjL,zg,xr]
 have:=zlV (s.length:Int)
 rw [xW (by omega) (by omega),zyl hL (by omega) (by omega),zmV (by simp; omega)]
 simp [bsB]
theorem zWI{L:Nat}(hL:20≤L)(x:Inp)(k:Ls→Option β):zr β L (zud x) k=k (yf .u8 (ptB x)):=by
 simp only [zr,zAk,yo,zhj]
 rw [zb (by rw [zUT]; omega),zb (by rw [zSy]; omega),zO9,zi5 .u8,zmV (by simp [zr7]),zYB,ztR hL (by simp [zr7])]
 rfl
end
section
variable {β:Type}
def inB(x:Inp):List Int:=ptB x++zqa x.seq
def zkW(o:Outp):List Int:=zNd (QG .u64 o.val)++bsB o.scr
def zob(x:Inp):List Int:=szB (x.wit.length:Int)++x.wit.flatMap bsB
def zdS(t:TxT)(w:Bool):List Int:=zqa t.ver++szB (t.ins.length:Int)++t.ins.flatMap inB++szB (t.outs.length:Int)++t.outs.flatMap zkW++zqa t.lock++(if w then t.ins.flatMap zob else [])
theorem zlH{α:Type}{l:List α}{f:α→List Int}{i:Nat}(h:i<l.length):(l.drop i).flatMap f=f l[i]++(l.drop (i+1)).flatMap f:=by
 rw [WQ h,Q5]
theorem zCq{α:Type}{f:α→List Int}{c:Nat}:∀ {l:List α},(∀ x∈l,(f x).length≤c)→(l.flatMap f).length≤l.length*c
 | [],_=>by simp
 | x::l,h=>by
  have h1:=h x (by simp)
  have h2:=zCq (l:=l) (fun y hy=>h y (by simp [hy]))
  rw [Q5,Wm,XS,Nat.add_mul]; omega
theorem zPB(x:Inp):(inB x).length=40:=by simp [inB,zD7,zcU]
theorem zP6(s:List Int):(bsB s).length≤9+s.length:=by have:=zlV (s.length:Int); simp [bsB]; omega
theorem zUu(o:Outp):(zkW o).length≤17+o.scr.length:=by have:=zP6 o.scr; simp [zkW,zuw]; omega
theorem zT4{x:Inp}(h1:x.wit.length≤40)(h2:∀ y∈x.wit,y.length≤600):(zob x).length≤30000:=by
 have h3:=zCq (f:=bsB) (c:=609) (l:=x.wit) (fun y hy=>by have:=zP6 y; have:=h2 y hy; omega)
 have h4:=zlV (x.wit.length:Int)
 have h5:x.wit.length*609≤40*609:=WI _ h1
 simp only [zob,Wm]; omega
theorem zUE(x:Outp):[V.sc (.int .i64 x.val),V.sl 1 (yf .u8 x.scr)]=zbS x:=Eq.trans rfl rfl
theorem zQa{L:Nat}(hL:20≤L)(kx:Bool→Ls→List V→Option β)(l:List Inp)(hl:l.length≤1000000)(w:Bool)(b1:List V):∀ (n i:Nat) (acc:List Int),i≤l.length→l.length-i<n→acc.length+((l.drop i).flatMap inB).length≤500000000000 →
  zfo ya zr L kx n w (yf .u8 acc) (l.map zaZ) (l.length:Int) (i:Int) b1=kx w (yf .u8 (acc++(l.drop i).flatMap inB)) b1
 | 0,i,acc,h1,h2,h3=>by omega
 | n+1,i,acc,h1,h2,h3=>by
  simp only [zfo,zmg,zg]
  by_cases h:i<l.length
  ·rw [zlH h] at h3
   simp only [Wm,zPB] at h3
   rw [yv (by omega),zaG (zzl h)]
   rw [zv1,zoq,zy9]
   simp only [zv9,zqX,zVV,zYh]
   rw [zWI hL,xr,xr,zb (znm (by rw [zD7]; omega)),zb0]
   rw [zi5 .u8,ztR hL (by simp),xr,xr,zb (znm (by simp [zD7,zcU]; omega)),zb0,XY]
   rw [up (by omega),zQa hL kx l hl w b1 n (i+1) _ (by omega) (by omega) (by simp only [Wm,zD7,zcU]; omega),zlH h]
   simp [inB]
  ·rw [zp (by omega),WK (by omega)]
   simp
theorem zNZ{L:Nat}(hL:20≤L)(kx:Bool→Ls→List V→Option β)(l:List Outp)(hl:l.length≤1000000)(hs:∀ x∈l,x.scr.length≤600)(w:Bool)(b1:List V):∀ (n i:Nat) (acc:List Int),i≤l.length→l.length-i<n→acc.length+((l.drop i).flatMap zkW).length≤500000000000 →
  zed ye yc L kx n w (yf .u8 acc) (l.map zbS) (l.length:Int) (i:Int) b1=kx w (yf .u8 (acc++(l.drop i).flatMap zkW)) b1
 | 0,i,acc,h1,h2,h3=>by omega
 | n+1,i,acc,h1,h2,h3=>by
  simp only [zed,zj1,zg]
  by_cases h:i<l.length
  ·have h4:=hs l[i] (W2 h)
   rw [zlH h] at h3
   simp only [Wm,zkW,zuw] at h3
   rw [yv (by omega),zaG (zDt h)]
   rw [zF5,zv4,zGB]
   simp only [zGA,zxL,zUE]
   rw [zi5 .u8,zVg hL (by simp),xr,xr,zb (znm (by simp [zuw]; omega)),zb0,XY,zNA hL (by simp) (by omega),xr,xr,zb (znm (by simp [zuw]; omega)),zb0,XY]
   rw [up (by omega),zNZ hL kx l hl hs w b1 n (i+1) _ (by omega) (by omega) (by simp only [Wm,zuw,zkW]; omega),zlH h]
   simp [zkW]
  ·rw [zp (by omega),WK (by omega)]
   simp
theorem zK4{L:Nat}(hL:20≤L)(kx:Ls→Ls→Int→Int→Option β)(wt:List (List Int))(hw:wt.length≤1000000)(hs:∀ y∈wt,y.length≤600)(p77:Ls)(p78 p79:Int):∀ (n i:Nat) (acc:List Int),i≤wt.length→wt.length-i<n→acc.length+((wt.drop i).flatMap bsB).length≤500000000000 →
  zaI yc L kx n (yf .u8 acc) p77 p78 p79 (zaX wt) (wt.length:Int) (i:Int)=kx (yf .u8 (acc++(wt.drop i).flatMap bsB)) p77 p78 p79
 | 0,i,acc,h1,h2,h3=>by omega
 | n+1,i,acc,h1,h2,h3=>by
  simp only [zaI,zdf,zg]
  by_cases h:i<wt.length
  ·have h4:=hs wt[i] (W2 h)
   rw [zlH h] at h3
   simp only [Wm] at h3
   rw [yv (by omega),zaG (zCY h),zqB rfl]
   rw [zi5 .u8,zNA hL (by simp) (by omega),XY,xr,xr,zb (znm (by omega)),zb0]
   rw [up (by omega),zK4 hL kx wt hw hs p77 p78 p79 n (i+1) _ (by omega) (by omega) (by simp only [Wm]; omega),zlH h]
   simp
  ·rw [zp (by omega),WK (by omega)]
   simp
end
section
variable {β:Type}
theorem zNv{L:Nat}(hL:2000≤L)(kx:Ls→Option β)(l:List Inp)(hl:l.length≤1000000)(hw:∀ x∈l,x.wit.length≤40)(hs:∀ x∈l,∀ y∈x.wit,y.length≤600):∀ (n i:Nat) (acc:List Int),i≤l.length→l.length-i<n→acc.length+((l.drop i).flatMap zob).length≤400000000000 →
  zcM za yc L kx n (yf .u8 acc) (l.map zaZ) (l.length:Int) (i:Int)=kx (yf .u8 (acc++(l.drop i).flatMap zob))
 | 0,i,acc,h1,h2,h3=>by omega
 | n+1,i,acc,h1,h2,h3=>by
  simp only [zcM,zd3,zhC,zg]
  by_cases h:i<l.length
  ·have h4:=hw l[i] (W2 h)
   have h5:=hs l[i] (W2 h)
   have h6:=zlV (l[i].wit.length:Int)
   rw [zlH h] at h3
   simp only [Wm,zob] at h3
   rw [yv (by omega),zaG (zzl h)]
   rw [zv1,zoq,zy9]
   simp only [zv9,zqX,zC9]
   rw [xW (by omega) (by omega),zi5 .u8,zyl (by omega) (by simp) (by omega),XY,xr,xr,zb (znm (by omega)),zb0]
   rw [show ((0:Int))=((0:Nat):Int) from rfl,zK4 (by omega) _ _ (by omega) h5 _ _ _ L 0 _ (by omega) (by omega) (by simp only [X2,Wm]; omega)]
   simp only [zcO,zg,X2]
   rw [up (by omega),zNv hL kx l hl hw hs n (i+1) _ (by omega) (by omega) (by simp only [Wm,zob]; omega),zlH h]
   simp [zob]
  ·rw [zp (by omega),WK (by omega)]
   simp
structure Lens (t:TxT):Prop where
 a:(t.ins.flatMap inB).length≤70*40
 b:(t.outs.flatMap zkW).length≤70*617
 c:(t.ins.flatMap zob).length≤70*30000
theorem KeptP.lens{t:TxT}(h:KeptP t):Lens t:=by
 have hi:=h.ni
 have ho:=h.no
 have h1:=zCq (f:=inB) (c:=40) (l:=t.ins) (fun x _=>by rw [zPB]; omega)
 have h2:=zCq (f:=zkW) (c:=617) (l:=t.outs) (fun x hx=>by have:=zUu x; have:=h.sl x hx; omega)
 have h3:=zCq (f:=zob) (c:=30000) (l:=t.ins) (fun x hx=>zT4 (h.wl x hx) (h.wi x hx))
 have e1:t.ins.length*40≤70*40:=WI _ hi
 have e2:t.outs.length*617≤70*617:=WI _ ho
 have e3:t.ins.length*30000≤70*30000:=WI _ hi
 exact ⟨by omega,by omega,by omega⟩
theorem zKL{L:Nat}(hL:2000≤L){t:TxT}(h:KeptP t)(w:Bool)(k:Ls→Option β):xl β L (yV t) w k=k (yf .u8 (zdS t w)):=by
 obtain ⟨q1,q2,q3⟩:=h.lens
 have hi:=h.ni
 have ho:=h.no
 have s1:=zlV (t.ins.length:Int)
 have s2:=zlV (t.outs.length:Int)
 simp only [xl,zrq,zw7,zgf,zvK,zg]
 simp only [znZ,zkD,zx2,zrk,QB]
 rw [zi5 .u8,ztR (by omega) (by simp),xW (by omega) (by omega),zyl (by omega) (by simp) (by omega),xr,xr,XY,XY,zb (znm (by rw [zcU]; omega)),zb0]
 rw [show ((0:Int))=((0:Nat):Int) from rfl,zQa (by omega) _ _ (by omega) _ _ L 0 _ (by omega) (by omega) (by simp only [X2,Wm,zcU]; omega)]
 simp only [zfy,zjH,zg,znZ,zkD,zrk,QB,X2]
 rw [zi5 .u8,xW (by omega) (by omega),zyl (by omega) (by simp) (by omega),xr,xr,XY,zb (znm (by simp only [Wm,zcU]; omega)),zb0]
 rw [show ((0:Int))=((0:Nat):Int) from rfl,zNZ (by omega) _ _ (by omega) h.sl _ _ L 0 _ (by omega) (by omega) (by simp only [X2,Wm,zcU]; omega)]
 simp only [zeH,zib,zg,znZ,zkD,zrk,QB,X2]
 rw [zi5 .u8,ztR (by omega) (by simp),xr,xr,XY,zb (znm (by simp only [Wm,zcU]; omega)),zb0]
 cases w with
 | false=>
  simp only [Bool.not_false,zzp,zdS,WP,if_false,XZ]
 | true=>
  simp only [Xh,zc7]
  rw [show ((0:Int))=((0:Nat):Int) from rfl,zNv hL _ _ (by omega) h.wl h.wi L 0 _ (by omega) (by omega) (by simp only [X2,Wm,zcU]; omega)]
  simp only [zf9,X2,zdS,if_true]
end
section
variable {β:Type}
def okO(o:Outp):Bool:=decide (0≤o.val)&&decide (o.scr.length≤520)
def okI(x:Inp):Bool:=decide (x.wit.length≤32)&&x.wit.all fun y=>decide (y.length≤520)
def zda(t:TxT):Bool:=decide (t.ins.length≤64)&&decide (t.outs.length≤64)&&t.outs.all okO&&t.ins.all okI&&decide ((zdS t true).length≤20000)
theorem zPo{L:Nat}(kr:Bool→Option β)(kx:List V→Option β)(l:List Outp)(hl:l.length≤1000000)(b1:List V):∀ (n i:Nat),i≤l.length→l.length-i<n →
  zh4 L kr kx n (l.map zbS) (l.length:Int) (i:Int) b1=ifb ((l.drop i).all okO) (kx b1) (kr false)
 | 0,i,h1,h2=>by omega
 | n+1,i,h1,h2=>by
  simp only [zh4,zrc,zg]
  by_cases h:i<l.length
  ·rw [yv (by omega),zaG (zDt h)]
   rw [zF5,zv4,zGB]
   simp only [zGA,zxL,xr]
   rw [up (by omega),zPo kr kx l hl b1 n (i+1) (by omega) (by omega),zkC h]
   by_cases hv:0≤l[i].val
   ·rw [zp (by omega)]
    by_cases hb:l[i].scr.length≤520
    ·rw [zp (by omega)]; simp [okO,hb,hv]
    ·rw [yv (by omega)]
     have:okO l[i]=false:=by simp [okO,hb]
     rw [this]; rfl
   ·rw [yv (by omega)]
    have:okO l[i]=false:=by simp [okO,hv]
    rw [this]; rfl
  ·rw [zp (by omega),WK (by omega)]; rfl
theorem zN0{L:Nat}(kr:Bool→Option β)(kx:Ls→Int→Int→List V→Option β)(wt:List (List Int))(hw:wt.length≤1000000)(p37:Ls)(p38 p39:Int)(b1:List V):∀ (n i:Nat),i≤wt.length→wt.length-i<n →
  zb2 L kr kx n p37 p38 p39 (zaX wt) (wt.length:Int) (i:Int) b1=ifb ((wt.drop i).all fun y=>decide (y.length≤520)) (kx p37 p38 p39 b1) (kr false)
 | 0,i,h1,h2=>by omega
 | n+1,i,h1,h2=>by
  simp only [zb2,zgn,zg]
  by_cases h:i<wt.length
  ·rw [yv (by omega),zaG (zCY h),zqB rfl]
   rw [up (by omega),zN0 kr kx wt hw p37 p38 p39 b1 n (i+1) (by omega) (by omega),zkC h,xr]
   by_cases hb:wt[i].length≤520
   ·rw [zp (by omega)]; simp [hb]
   ·rw [yv (by omega)]; simp [hb,ifb]
  ·rw [zp (by omega),WK (by omega)]; rfl
theorem zX9{L:Nat}(hL:2000≤L)(kr:Bool→Option β)(kx:List V→Option β)(l:List Inp)(hl:l.length≤1000000)(b1:List V):∀ (n i:Nat),i≤l.length→l.length-i<n →
  zg1 L kr kx n (l.map zaZ) (l.length:Int) (i:Int) b1=ifb ((l.drop i).all okI) (kx b1) (kr false):=by
 intro n
 induction n with
 | zero=>intro i h1 h2; omega
 | succ n ih=>
  intro i h1 h2
  simp only [zg1,ziC,zqb,zg]
  by_cases h:i<l.length
  ·rw [yv (by omega),zaG (zzl h)]
   rw [zv1,zoq,zy9]
   simp only [zv9,zqX,zC9]
   rw [zkC h]
   by_cases hw:l[i].wit.length≤32
   ·rw [zp (by omega),show ((0:Int))=((0:Nat):Int) from rfl,zN0 _ _ _ (by omega) _ _ _ _ L 0 (by omega) (by omega)]
    simp only [zfc,zeQ,zg,X2]
    rw [up (by omega),ih (i+1) (by omega) (by omega)]
    have:okI l[i]=l[i].wit.all fun y=>decide (y.length≤520):=by simp [okI,hw]
    rw [this]
    cases l[i].wit.all fun y=>decide (y.length≤520) <;> rfl
   ·rw [yv (by omega)]
    have:okI l[i]=false:=by simp [okI,hw]
    rw [this]; rfl
  ·rw [zp (by omega),WK (by omega)]; rfl
theorem zTW{L:Nat}(hL:2000≤L){t:TxT}(h:KeptP t)(k:Bool→Option β):zbm β L (yV t) k=k (zda t):=by
 have hi:=h.ni
 have ho:=h.no
 simp only [zbm,zwd,zDn,zgf,zvK]
 simp only [znZ,zkD,zx2,zrk,QB]
 by_cases h1:t.ins.length≤64
 ·rw [zp (by omega)]
  by_cases h2:t.outs.length≤64
  ·rw [zp (by omega),show ((0:Int))=((0:Nat):Int) from rfl,zPo _ _ _ (by omega) _ L 0 (by omega) (by omega)]
   simp only [zhQ,zoa,zmm,znZ,zkD,QB,X2]
   cases e1:t.outs.all okO
   ·have e:zda t=false:=by simp [zda,e1]
    rw [e]; rfl
   ·rw [zzp,show ((0:Int))=((0:Nat):Int) from rfl,zX9 hL _ _ _ (by omega) _ L 0 (by omega) (by omega)]
    simp only [zmD,zkM,znZ,zkD,X2,zGH,zGg]
    cases e2:t.ins.all okI
    ·have e:zda t=false:=by simp [zda,e2]
     rw [e]; rfl
    ·rw [zzp,zKL hL h,xr]
     have e:decide (((zdS t true).length:Int)≤20000)=zda t:=by
      simp only [zda,h1,h2,e1,e2,decide_true,Yc]
      exact decide_eq_decide.2 (by omega)
     rw [e]
  ·have e:zda t=false:=by simp [zda,h2]
   rw [yv (by omega),e]
 ·have e:zda t=false:=by simp [zda,h1]
  rw [yv (by omega),e]
def zWN:List V:=We 32 (Qa (0:Int))++[(Qc (4294967295:Int))]
def eqP(x y:Inp):Bool:=(zdI (zud x) (zud y)).getD false
def eqN(x:Inp):Bool:=(zdI (zud x) zWN).getD false
end
section
set_option linter.unusedSectionVars false
variable {β:Type}
def leB(n:Nat):Nat→List Int
 | 0=>[]
 | w+1=>((n % 256:Nat):Int)::leB (n / 256) w
theorem zdK:∀ (w n:Nat),(leB n w).length=w
 | 0,n=>rfl
 | w+1,n=>by simp [leB,zdK w]
theorem zWP(n i:Nat)(hi:i≤7):QG .u8 (zb1 .u64 ((n:Nat):Int) (8*(i:Int)))=((n / 256 ^ i % 256:Nat):Int):=by
 have e1:(8*(i:Int)).toNat=8*i:=by omega
 have e2:min (8*i) (XH .u64)=8*i:=Yg (by show 8*i≤64; omega)
 unfold zb1
 rw [e1,e2]
 have e3:((2:Int) ^ (8*i))=((256 ^ i:Nat):Int):=by rw [zOk,Int.natCast_pow]; rfl
 rw [e3,Int.fdiv_eq_ediv_of_nonneg _ (Int.natCast_nonneg _),← Int.natCast_ediv]
 have:=zPU (n:=((n / 256 ^ i % 256:Nat):Int)) (by omega) (by omega)
 rw [← this]
 unfold QG
 simp only [IntKind.signed,XH]
 have h8:(2:Int) ^ 8=256:=by decide
 have hh:(((n / 256 ^ i:Nat):Int) % 256)=(((n / 256 ^ i % 256:Nat):Int) % 256):=by omega
 simp [h8,hh]
theorem zIk:∀ (w n:Nat),(List.range w).map (fun i=>((n / 256 ^ i % 256:Nat):Int))=leB n w
 | 0,n=>rfl
 | w+1,n=>by
  rw [List.range_succ_eq_map,QW,List.map_map,leB,← zIk w (n / 256)]
  simp only [Nat.pow_zero,Nat.div_one]
  congr 1
  apply X8
  intro i _
  simp only [Function.comp_apply,Nat.pow_succ,Nat.div_div_eq_div_mul,Nat.mul_comm]
theorem zDX(n w:Nat)(hw:w≤8):zmx ((n:Nat):Int) w=leB n w:=by
 rw [← zIk]
 unfold zmx
 apply X8
 intro i hi
 exact zWP n i (by have:=List.mem_range.1 hi; omega)
theorem zc3{n:Nat}(h:n<4294967296):zqa ((n:Nat):Int)=leB n 4:=by
 unfold zqa
 rw [xW (by omega) (by omega),zDX _ _ (by decide)]
theorem zKB(n:Nat):zNd ((n:Nat):Int)=leB n 8:=zDX _ _ (by decide)
theorem zQX{n:Nat}(h:n<253):szB ((n:Nat):Int)=leB n 1:=by
 unfold szB
 rw [if_pos (by omega),zPU (by omega) (by omega)]
 simp only [leB]
 rw [Yd (by omega)]
theorem zQO{n:Nat}(h:¬ n<253)(h2:n<65536):szB ((n:Nat):Int)=leB 253 1++leB n 2:=by
 unfold szB
 rw [if_neg (by omega),if_pos (by omega),zDX _ _ (by decide)]
 rfl
theorem zQ1{n:Nat}(h:¬ n<253)(h2:¬ n<65536)(h3:n<4294967296):szB ((n:Nat):Int)=leB 254 1++leB n 4:=by
 unfold szB
 rw [if_neg (by omega),if_neg (by omega),if_pos (by omega),zDX _ _ (by decide)]
 rfl
theorem zkY{j x r:List Int}{a:Nat}(h:j.drop a=x++r):j.drop (a+x.length)=r:=by
 rw [← WO,h,Ya]
theorem zk2{j x r:List Int}{a:Nat}(h:j.drop a=x++r)(ha:a≤j.length):a+x.length≤j.length:=by
 have:=congrArg XK h
 rw [XU,Wm] at this
 omega
theorem zoM:∀ (w n a:Nat) {j r:List Int},n<256 ^ w→j.drop a=leB n w++r→le j a w=n
 | 0,n,a,j,r,hn,h=>by simp [le] at hn ⊢; omega
 | w+1,n,a,j,r,hn,h=>by
  rw [leB,X7] at h
  have hlt:a<j.length:=by
   rcases Nat.lt_or_ge a j.length with h1 | h1
   ·exact h1
   ·rw [Yh h1] at h; cases h
  rw [WQ hlt] at h
  have h0:=(List.cons.inj h).1
  have h1:=(List.cons.inj h).2
  have hb:ziD j a=n % 256:=by
   unfold ziD
   rw [Ws,Wc hlt,Xl,h0]
   omega
  rw [zyc,zoM w (n / 256) (a+1) (by rw [Nat.pow_succ] at hn; exact Nat.div_lt_of_lt_mul (by omega)) h1,hb]
  omega
theorem ztB:∀ (w a:Nat) {j:List Int},Byt j→a+w≤j.length→j.drop a=leB (le j a w) w++j.drop (a+w)
 | 0,a,j,hb,h=>rfl
 | w+1,a,j,hb,h=>by
  have hlt:a<j.length:=by omega
  have hby:=zqL hb a
  have e:=ztB w (a+1) hb (by omega)
  have e1:(ziD j a+256*le j (a+1) w) % 256=ziD j a:=by omega
  have e2:(ziD j a+256*le j (a+1) w) / 256=le j (a+1) w:=by omega
  rw [zyc,leB,e1,e2,X7,WQ hlt,show a+(w+1)=a+1+w by omega,← e]
  congr 1
  have:=hby.2
  rw [Ws,Wc hlt,Xl] at this
  exact this
theorem wrN{j r:List Int}{w n a:Nat}(ha:a≤j.length)(hn:n<256 ^ w)(h:j.drop a=leB n w++r):gN j w a=.ok (n,a+w)∧j.drop (a+w)=r:=by
 have h1:=zk2 h ha
 rw [zdK] at h1
 have h2:=zkY h
 rw [zdK] at h2
 unfold gN
 rw [if_pos h1,zoM w n a hn h]
 exact ⟨rfl,h2⟩
theorem rdN{j:List Int}(hb:Byt j){w n a a':Nat}(h:gN j w a=.ok (n,a')):j.drop a=leB n w++j.drop a'∧n<256 ^ w:=by
 unfold gN at h
 split at h
 ·rename_i hl
  cases h
  exact ⟨ztB w a hb hl,zi7 hb a w⟩
 ·cases h
theorem wrS{j r:List Int}{n a most:Nat}(ha:a≤j.length)(hn:n≤most)(hm:most≤1000000)(h:j.drop a=szB ((n:Nat):Int)++r):∃ a',zcv j most a=.ok (n,a')∧a'≤j.length∧j.drop a'=r:=by
 by_cases h1:n<253
 ·rw [zQX h1] at h
  have hl:=zk2 h ha
  rw [zdK] at hl
  have hd:=zkY h
  rw [zdK] at hd
  have hv:=zoM 1 n a (by omega) h
  refine ⟨a+1,?_,hl,hd⟩
  unfold zcv
  rw [if_pos hl,hv,if_pos h1,if_neg (by omega)]
 ·by_cases h2:n<65536
  ·rw [zQO h1 h2,Wu] at h
   have hl:=zk2 h ha
   rw [zdK] at hl
   have hd:=zkY h
   rw [zdK] at hd
   have hv:=zoM 1 253 a (by decide) h
   have hl2:=zk2 hd hl
   rw [zdK] at hl2
   have hd2:=zkY hd
   rw [zdK] at hd2
   have hv2:=zoM 2 n (a+1) h2 hd
   refine ⟨a+1+2,?_,hl2,hd2⟩
   unfold zcv zp5
   rw [if_pos hl,hv,if_neg (by decide),if_pos rfl,if_pos hl2,hv2,if_neg h1,if_neg (by omega)]
  ·rw [zQ1 h1 h2 (by omega),Wu] at h
   have hl:=zk2 h ha
   rw [zdK] at hl
   have hd:=zkY h
   rw [zdK] at hd
   have hv:=zoM 1 254 a (by decide) h
   have hl2:=zk2 hd hl
   rw [zdK] at hl2
   have hd2:=zkY hd
   rw [zdK] at hd2
   have hv2:=zoM 4 n (a+1) (by omega) hd
   refine ⟨a+1+4,?_,hl2,hd2⟩
   unfold zcv zp5
   rw [if_pos hl,hv,if_neg (by decide),if_neg (by decide),if_pos rfl,if_pos hl2,hv2,if_neg h2,if_neg (by omega)]
theorem rdS{j:List Int}(hb:Byt j){n a a' most:Nat}(hm:most≤1000000)(h:zcv j most a=.ok (n,a')):j.drop a=szB ((n:Nat):Int)++j.drop a':=by
 unfold zcv at h
 split at h
 ·rename_i hl
  have h0:=ztB 1 a hb hl
  split at h
  ·rename_i h1
   split at h
   ·cases h
   ·cases h
    rw [zQX h1]
    exact h0
  ·rename_i h1
   split at h
   ·rename_i h2
    unfold zp5 at h
    split at h
    ·rename_i hl2
     split at h
     ·cases h
     ·rename_i h3
      split at h
      ·cases h
      ·cases h
       have hx:=lt2 hb (a+1)
       rw [zQO h3 hx,Wu,← ztB 2 (a+1) hb hl2,← h2]
       exact h0
    ·cases h
   ·rename_i h2
    split at h
    ·rename_i h4
     unfold zp5 at h
     split at h
     ·rename_i hl2
      split at h
      ·cases h
      ·rename_i h3
       split at h
       ·cases h
       ·cases h
        have hx:=lt4 hb (a+1)
        rw [zQ1 (by omega) h3 hx,Wu,← ztB 4 (a+1) hb hl2,← h4]
        exact h0
     ·cases h
    ·unfold zp5 at h
     split at h
     ·split at h
      ·cases h
      ·split at h
       ·cases h
       ·cases h; omega
     ·cases h
 ·cases h
theorem wrB{j r s:List Int}{a most:Nat}(ha:a≤j.length)(hn:s.length≤most)(hm:most≤1000000)(h:j.drop a=bsB s++r):∃ a',zeL j most a=.ok (s,a')∧a'≤j.length∧j.drop a'=r:=by
 unfold bsB at h
 rw [Wu] at h
 obtain ⟨a1,e1,h1,d1⟩:=wrS ha hn hm h
 have hl:=zk2 d1 h1
 refine ⟨a1+s.length,?_,hl,zkY d1⟩
 unfold zeL
 rw [e1]
 simp only [if_pos hl]
 rw [d1,X9]
theorem rdB{j s:List Int}(hb:Byt j){a a' most:Nat}(hm:most≤1000000)(h:zeL j most a=.ok (s,a')):j.drop a=bsB s++j.drop a':=by
 unfold zeL at h
 split at h
 ·cases h
 ·rename_i n a1 hz
  split at h
  ·rename_i hl
   cases h
   have hlen:((j.drop a1).take n).length=n:=by rw [Ww,XU]; omega
   unfold bsB
   rw [hlen,Wu,← WO,X6]
   exact rdS hb hm hz
  ·cases h
end
section
set_option linter.unusedSectionVars false
theorem zAl{x:Inp}(h:32≤x.pv.length):ztP x=XM 32 x.pv:=by rw [zFT h]; rfl
theorem zTL{x:Inp}(h:x.pv.length=33):ztP x++[x.pv.getD 32 0]=x.pv:=by
 rw [zAl (by omega)]
 have:XN 32 x.pv=[x.pv.getD 32 0]:=by
  rw [WQ (by omega),Yh (by omega),Ws,Wc (by omega)]
  rfl
 rw [← this,X6]
structure InOk (x:Inp):Prop where
 pv:x.pv.length=33
 ix:0≤x.pv.getD 32 0∧x.pv.getD 32 0≤4294967295
 sq:0≤x.seq∧x.seq≤4294967295
 wl:x.wit.length≤32
 wi:∀ y∈x.wit,y.length≤520
structure OutOk (o:Outp):Prop where
 val:0≤o.val∧o.val≤9223372036854775807
 scr:o.scr.length≤520
def zRs(x:Inp):Inp:=⟨x.pv,x.seq,[]⟩
theorem zT8{j r:List Int}{x:Inp}(hx:InOk x){a:Nat}(ha:a≤j.length)(h:j.drop a=inB x++r):∃ a',gIn j a=.ok (zRs x,a')∧a'≤j.length∧j.drop a'=r:=by
 obtain ⟨ix,hix⟩:∃ n:Nat,x.pv.getD 32 0=(n:Int):=⟨(x.pv.getD 32 0).toNat,by have:=hx.ix; omega⟩
 obtain ⟨sq,hsq⟩:∃ n:Nat,x.seq=(n:Int):=⟨x.seq.toNat,by have:=hx.sq; omega⟩
 have l1:=hx.ix
 have l2:=hx.sq
 unfold inB ptB at h
 rw [hix,hsq,zc3 (by omega),zc3 (by omega),Wu,Wu] at h
 have k1:=zk2 h ha
 have d1:=zkY h
 rw [zr7] at k1 d1
 obtain ⟨e2,d2⟩:=wrN (w:=4) (n:=ix) k1 (by omega) d1
 have k2:=zny e2
 obtain ⟨e3,d3⟩:=wrN (w:=4) (n:=sq) k2 (by omega) d2
 refine ⟨a+32+4+4,?_,zny e3,d3⟩
 unfold gIn zkk
 rw [if_pos k1]
 simp only [e2,e3]
 have ht:(j.drop a).take 32=ztP x:=by rw [h,X4 (zr7 x)]
 rw [ht,← hix,zTL hx.pv,← hsq]
 rfl
theorem z0i{j:List Int}(hb:Byt j){x:Inp}{a a':Nat}(h:gIn j a=.ok (x,a')):j.drop a=inB x++j.drop a':=by
 unfold gIn at h
 split at h
 ·cases h
 ·rename_i hh b1 z1
  split at h
  ·cases h
  ·rename_i ix b2 z2
   split at h
   ·cases h
   ·rename_i sq b3 z3
    cases h
    obtain ⟨d2,n2⟩:=rdN hb z2
    obtain ⟨d3,n3⟩:=rdN hb z3
    have hl:=(zzL z1).2
    have d1:j.drop a=hh++j.drop b1:=by
     unfold zkk at z1
     split at z1
     ·cases z1; rw [← WO,X6]
     ·cases z1
    have e1:ztP ⟨hh++[(ix:Int)],sq,[]⟩=hh:=by rw [zAl (by simp [hl]),X4 hl]
    have e2:(hh++[(ix:Int)]).getD 32 0=(ix:Int):=by simp [Ws,Wt,hl]
    unfold inB ptB
    simp only [e1,e2]
    rw [zc3 (by omega),zc3 (by omega),Wu,Wu,← d3,← d2]
    exact d1
theorem zZK{j r:List Int}{o:Outp}(ho:OutOk o){a:Nat}(ha:a≤j.length)(h:j.drop a=zkW o++r):∃ a',zpc j a=.ok (o,a')∧a'≤j.length∧j.drop a'=r:=by
 have hv:=ho.val
 obtain ⟨v,hv2⟩:∃ n:Nat,o.val=(n:Int):=⟨o.val.toNat,by omega⟩
 unfold zkW at h
 rw [hv2,xW (by omega) (by omega),zKB,Wu] at h
 obtain ⟨e1,d1⟩:=wrN (w:=8) (n:=v) ha (by omega) h
 obtain ⟨a2,e2,k2,d2⟩:=wrB (most:=520) (zny e1) ho.scr (by decide) d1
 refine ⟨a2,?_,k2,d2⟩
 unfold zpc
 simp only [e1,e2]
 rw [if_neg (by omega),← hv2]
theorem zZo{j:List Int}(hb:Byt j){o:Outp}{a a':Nat}(h:zpc j a=.ok (o,a')):j.drop a=zkW o++j.drop a'∧OutOk o:=by
 unfold zpc at h
 split at h
 ·cases h
 ·rename_i v a1 z1
  split at h
  ·cases h
  ·rename_i hv
   split at h
   ·cases h
   ·rename_i s a2 z2
    cases h
    obtain ⟨d1,n1⟩:=rdN hb z1
    refine ⟨?_,⟨by simp only; omega,(zoE z2).2⟩⟩
    unfold zkW
    simp only
    rw [xW (by omega) (by omega),zKB,Wu,← rdB hb (by decide) z2]
    exact d1
theorem zVu{j r:List Int}:∀ (xs:List Inp) (a:Nat),(∀ x∈xs,InOk x)→a≤j.length→j.drop a=xs.flatMap inB++r→∃ a',zhZ j xs.length a=.ok (xs.map zRs,a')∧a'≤j.length∧j.drop a'=r
 | [],a,hx,ha,h=>⟨a,rfl,ha,h⟩
 | x::xs,a,hx,ha,h=>by
  rw [Q5,Wu] at h
  obtain ⟨a1,e1,k1,d1⟩:=zT8 (hx x (by simp)) ha h
  obtain ⟨a2,e2,k2,d2⟩:=zVu xs a1 (fun y hy=>hx y (by simp [hy])) k1 d1
  exact ⟨a2,by simp only [XS,zhZ,e1,e2,QW],k2,d2⟩
theorem zVb{j:List Int}(hb:Byt j):∀ (n a:Nat) {xs:List Inp} {a':Nat},zhZ j n a=.ok (xs,a')→j.drop a=xs.flatMap inB++j.drop a'
 | 0,a,xs,a',h=>by simp only [zhZ] at h; cases h; rfl
 | n+1,a,xs,a',h=>by
  rw [zhZ] at h
  split at h
  ·cases h
  ·rename_i x a1 z1
   split at h
   ·cases h
   ·rename_i ys a2 z2
    cases h
    rw [Q5,Wu,← zVb hb n a1 z2]
    exact z0i hb z1
theorem zSE{j r:List Int}:∀ (xs:List Outp) (a:Nat),(∀ x∈xs,OutOk x)→a≤j.length→j.drop a=xs.flatMap zkW++r→∃ a',zdu j xs.length a=.ok (xs,a')∧a'≤j.length∧j.drop a'=r
 | [],a,hx,ha,h=>⟨a,rfl,ha,h⟩
 | x::xs,a,hx,ha,h=>by
  rw [Q5,Wu] at h
  obtain ⟨a1,e1,k1,d1⟩:=zZK (hx x (by simp)) ha h
  obtain ⟨a2,e2,k2,d2⟩:=zSE xs a1 (fun y hy=>hx y (by simp [hy])) k1 d1
  exact ⟨a2,by simp only [XS,zdu,e1,e2],k2,d2⟩
theorem zSm{j:List Int}(hb:Byt j):∀ (n a:Nat) {xs:List Outp} {a':Nat},zdu j n a=.ok (xs,a')→j.drop a=xs.flatMap zkW++j.drop a'∧∀ x∈xs,OutOk x
 | 0,a,xs,a',h=>by simp only [zdu] at h; cases h; exact ⟨rfl,by simp⟩
 | n+1,a,xs,a',h=>by
  rw [zdu] at h
  split at h
  ·cases h
  ·rename_i x a1 z1
   split at h
   ·cases h
   ·rename_i ys a2 z2
    cases h
    obtain ⟨r1,r2⟩:=zSm hb n a1 z2
    obtain ⟨q1,q2⟩:=zZo hb z1
    rw [Q5,Wu,← r1]
    refine ⟨q1,fun y hy=>?_⟩
    rcases Q9.1 hy with rfl | hy
    ·exact q2
    ·exact r2 y hy
theorem zVn{j r:List Int}:∀ (xs:List (List Int)) (a:Nat),(∀ x∈xs,x.length≤520)→a≤j.length→j.drop a=xs.flatMap bsB++r→∃ a',zhp j xs.length a=.ok (xs,a')∧a'≤j.length∧j.drop a'=r
 | [],a,hx,ha,h=>⟨a,rfl,ha,h⟩
 | x::xs,a,hx,ha,h=>by
  rw [Q5,Wu] at h
  obtain ⟨a1,e1,k1,d1⟩:=wrB (most:=520) ha (hx x (by simp)) (by decide) h
  obtain ⟨a2,e2,k2,d2⟩:=zVn xs a1 (fun y hy=>hx y (by simp [hy])) k1 d1
  exact ⟨a2,by simp only [XS,zhp,e1,e2],k2,d2⟩
theorem zVx{j:List Int}(hb:Byt j):∀ (n a:Nat) {xs:List (List Int)} {a':Nat},zhp j n a=.ok (xs,a')→j.drop a=xs.flatMap bsB++j.drop a'∧∀ x∈xs,x.length≤520
 | 0,a,xs,a',h=>by simp only [zhp] at h; cases h; exact ⟨rfl,by simp⟩
 | n+1,a,xs,a',h=>by
  rw [zhp] at h
  split at h
  ·cases h
  ·rename_i x a1 z1
   split at h
   ·cases h
   ·rename_i ys a2 z2
    cases h
    obtain ⟨r1,r2⟩:=zVx hb n a1 z2
    rw [Q5,Wu,← r1]
    refine ⟨rdB hb (by decide) z1,fun y hy=>?_⟩
    rcases Q9.1 hy with rfl | hy
    ·exact (zoE z1).2
    ·exact r2 y hy
theorem zRW{j r:List Int}:∀ (xs:List Inp) (a:Nat),(∀ x∈xs,InOk x)→a≤j.length→j.drop a=xs.flatMap zob++r→∃ a',zdZ j (xs.map zRs) a=.ok (xs,a')∧a'≤j.length∧j.drop a'=r
 | [],a,hx,ha,h=>⟨a,rfl,ha,h⟩
 | x::xs,a,hx,ha,h=>by
  rw [Q5,Wu] at h
  unfold zob at h
  rw [Wu] at h
  obtain ⟨a1,e1,k1,d1⟩:=wrS (most:=32) ha (hx x (by simp)).wl (by decide) h
  obtain ⟨a2,e2,k2,d2⟩:=zVn x.wit a1 (hx x (by simp)).wi k1 d1
  obtain ⟨a3,e3,k3,d3⟩:=zRW xs a2 (fun y hy=>hx y (by simp [hy])) k2 d2
  exact ⟨a3,by simp only [QW,zdZ,e1,e2,e3]; rfl,k3,d3⟩
theorem zSj{j:List Int}(hb:Byt j):∀ (xs:List Inp) (a:Nat) {ys:List Inp} {a':Nat},zdZ j xs a=.ok (ys,a')→j.drop a=ys.flatMap zob++j.drop a'∧ys.flatMap inB=xs.flatMap inB∧ys.length=xs.length∧∀ y∈ys,y.wit.length≤32∧∀ z∈y.wit,z.length≤520
 | [],a,ys,a',h=>by simp only [zdZ] at h; cases h; exact ⟨rfl,rfl,rfl,by simp⟩
 | x::xs,a,ys,a',h=>by
  rw [zdZ] at h
  split at h
  ·cases h
  ·rename_i n a1 z1
   split at h
   ·cases h
   ·rename_i w a2 z2
    split at h
    ·cases h
    ·rename_i zs a3 z3
     cases h
     obtain ⟨r1,r2,r3,r4⟩:=zSj hb xs a2 z3
     obtain ⟨q1,q2⟩:=zVx hb n a1 z2
     have hn:=zGt n a1 z2
     refine ⟨?_,?_,by simp [r3],fun y hy=>?_⟩
     ·rw [Q5,Wu,← r1]
      unfold zob
      simp only [hn]
      rw [Wu,← q1]
      exact rdS hb (by decide) z1
     ·rw [Q5,Q5,r2]
      rfl
     ·rcases Q9.1 hy with rfl | hy
      ·exact ⟨by have:=(zcp z1).2; simp only; omega,q2⟩
      ·exact r4 y hy
end
section
set_option linter.unusedSectionVars false
variable {β:Type}
section
variable {L:Nat} (hL:1000≤L) {j:List Int} (hb:Byt j) (hj:j.length≤100000000)
include hL hb hj
end
theorem zTG{L:Nat}(hL:2000≤L){t:TxT}(h:KeptP t)(w:Bool)(k:Ls→Int→Option β):zE β L (yV t) w k=if zda t=true then k (yf .u8 (zdS t w)) 0 else k (yf .u8 []) 4:=by
 unfold zE zxo
 have l4:=zgf t
 rw [zb (by omega),zLi,zTW hL h,zKL hL h]
 cases zda t <;> rfl
theorem zbV{a b:List Int}(h1:Byt a)(h2:Byt b):Byt (a++b):=fun x hx=>(List.mem_append.1 hx).elim (h1 x) (h2 x)
theorem zsl:∀ (w n:Nat),Byt (leB n w)
 | 0,n=>fun x hx=>by cases hx
 | w+1,n=>fun x hx=>by
  rcases Q9.1 hx with rfl | hx
  ·omega
  ·exact zsl w _ x hx
theorem zDJ{α:Type}{f:α→List Int}{l:List α}(h:∀ x∈l,Byt (f x)):Byt (l.flatMap f):=fun y hy=>by
 obtain ⟨x,hx,hy⟩:=List.mem_flatMap.1 hy
 exact h x hx y hy
theorem zCX{n:Nat}(h:n<4294967296):Byt (szB ((n:Nat):Int)):=by
 by_cases h1:n<253
 ·rw [zQX h1]; exact zsl _ _
 ·by_cases h2:n<65536
  ·rw [zQO h1 h2]; exact zbV (zsl _ _) (zsl _ _)
  ·rw [zQ1 h1 h2 h]; exact zbV (zsl _ _) (zsl _ _)
theorem zoz{n:Int}(h:0≤n∧n≤4294967295):Byt (zqa n):=by
 obtain ⟨m,rfl⟩:∃ m:Nat,n=(m:Int):=⟨n.toNat,by omega⟩
 rw [zc3 (by omega)]; exact zsl _ _
theorem zSZ{s:List Int}(h:Byt s)(hl:s.length≤1000000):Byt (bsB s):=zbV (zCX (by omega)) h
theorem zUZ{x:Inp}(h:InpOk x):Byt (ztP x):=by
 have hp:=h.pv
 rw [zAl (by omega),zFT (by omega)]
 intro y hy
 obtain ⟨i,hi,rfl⟩:=List.mem_map.1 hy
 exact h.by_ i (List.mem_range.1 hi)
theorem zUW{t:TxT}(h:TxOk t)(hi:∀ x∈t.ins,InOk x)(ho:∀ x∈t.outs,OutOk x)(li:t.ins.length≤64)(lo:t.outs.length≤64):Byt (zdS t true):=by
 unfold zdS
 simp only [if_true]
 refine zbV (zbV (zbV (zbV (zbV (zbV (zoz h.ver) (zCX (by omega))) (zDJ fun x hx=>?_)) (zCX (by omega))) (zDJ fun o hx=>?_)) (zoz h.lock)) (zDJ fun x hx=>?_)
 ·exact zbV (zbV (zUZ (h.ins x hx)) (zoz (hi x hx).ix)) (zoz (hi x hx).sq)
 ·have hv:=(ho o hx).val
  have hs:=(ho o hx).scr
  obtain ⟨v,hv2⟩:∃ n:Nat,o.val=(n:Int):=⟨o.val.toNat,by omega⟩
  unfold zkW
  rw [hv2,xW (by omega) (by omega),zKB]
  exact zbV (zsl _ _) (zSZ (h.outs o hx).scr (by omega))
 ·have h1:=(hi x hx).wl
  unfold zob
  refine zbV (zCX (by omega)) (zDJ fun y hy=>?_)
  have:=(hi x hx).wi y hy
  exact zSZ ((h.ins x hx).wit y hy).1 (by omega)
theorem zRF{t:TxT}(h:zda t=true):t.ins.length≤64∧t.outs.length≤64∧(∀ o∈t.outs,0≤o.val∧o.scr.length≤520)∧(∀ x∈t.ins,x.wit.length≤32∧∀ y∈x.wit,y.length≤520)∧(zdS t true).length≤20000:=by
 unfold zda at h
 simp only [Wh,decide_eq_true_eq,QO,okO,okI] at h
 obtain ⟨⟨⟨⟨h1,h2⟩,h3⟩,h4⟩,h5⟩:=h
 exact ⟨h1,h2,h3,h4,h5⟩
theorem zV6{t:TxT}(h1:t.ins.length≤64)(h2:t.outs.length≤64)(h3:∀ o∈t.outs,0≤o.val∧o.scr.length≤520)(h4:∀ x∈t.ins,x.wit.length≤32∧∀ y∈x.wit,y.length≤520)(h5:(zdS t true).length≤20000):zda t=true:=by
 unfold zda
 simp only [Wh,decide_eq_true_eq,QO,okO,okI]
 exact ⟨⟨⟨⟨h1,h2⟩,h3⟩,h4⟩,h5⟩
end
section
set_option linter.unusedSectionVars false
variable {β:Type}
theorem zUF{t:TxT}(h:KeptP t)(w:Bool):(zdS t w).length≤3000000:=by
 obtain ⟨q1,q2,q3⟩:=h.lens
 have s1:=zlV (t.ins.length:Int)
 have s2:=zlV (t.outs.length:Int)
 cases w <;> simp only [zdS,Wm,zcU,if_true,WP,if_false,XT] <;> omega
theorem zOv(x:TxT)(k:Option β):chk ((XK (XM 4 (yV x)))=4∧0+4≤4) k=k:=zb ⟨by rw [ztY,zgf],by decide⟩ k
theorem zFE(kd:IntKind):∀ (l:List Int) (n:Nat),l.length=n→zf 1 n (row kd l)=yf kd l
 | [],_,h=>by subst h; rfl
 | x::l,n,h=>by
  obtain ⟨m,rfl⟩:∃ m,n=m+1:=⟨n-1,by simp at h; omega⟩
  have:=zFE kd l m (by simpa using h)
  simp only [row,QW,zf,yf] at this ⊢
  simp [this]
theorem zYi{kd:IntKind}{l:List Int}(h:l≠[]):(row kd l).isEmpty=false:=by
 cases l with
 | nil=>exact absurd rfl h
 | cons x l=>rfl
def hdB(h:HdT):List Int:=zqa h.ver++h.prev++h.root++zqa h.tm++zqa h.bits++zqa h.nonce
theorem zKD{h:HdT}(ho:HdOk h):(hdB h).length=80:=by simp [hdB,zcU,ho.pl,ho.rl]
theorem zPc{L:Nat}{b h:List Int}(hh:h.length=32)(hb:b.length≤900000000000)(k:Ls→Option β):yo β L (yf .u8 b) (row .u8 h) k=k (yf .u8 (b++h)):=by
 simp only [yo,zhj]
 rw [zb (by rw [xk,hh]; omega),zYi (by intro e; rw [e] at hh; cases hh),zc7,zFE _ _ _ hh,zmV (by omega)]
theorem zS2{L:Nat}(hL:20≤L){h:HdT}(ho:HdOk h)(k:Ls→Option β):xm β L (hrow h) k=k (yf .u8 (hdB h)):=by
 have e1:=zcU h.ver
 have e2:=zcU h.tm
 have e3:=zcU h.bits
 simp only [xm,zje]
 rw [zZd,zi5 .u8,ztR hL (by simp),XY,zb (by rw [zqY ho]; omega),zRR ho,zPc ho.pl (by omega),zb (by rw [zqY ho]; omega),zR0 ho,zPc ho.rl (by rw [Wm,ho.pl]; omega),
  zYq ho,ztR hL (by simp only [Wm,ho.pl,ho.rl]; omega),zX6 ho,ztR hL (by simp only [Wm,ho.pl,ho.rl]; omega),zXu ho,ztR hL (by simp only [Wm,ho.pl,ho.rl]; omega)]
 rfl
structure BkOk (b:BkT):Prop where
 hd:HdOk b.hd
 n:b.txs.length≤10000
 tx:∀ t∈b.txs,KeptP t
def zjJ(b:BkT):List Int:=hdB b.hd++szB (b.txs.length:Int)++b.txs.flatMap fun t=>zdS t true
def okK(b:BkT):Bool:=decide (b.txs.length≤256)&&b.txs.all zda&&decide ((zjJ b).length≤100000)
theorem zQw{L:Nat}(hL:2000≤L)(kr:Ls→Int→Option β)(kx:Ls→Option β)(l:List TxT)(hl:l.length≤10000)(hk:∀ t∈l,KeptP t):∀ (n i:Nat) (acc:List Int),i≤l.length→l.length-i<n→acc.length≤100+i*3000000 →
  zdz zE L kr kx n (yf .u8 acc) (l.map yV) (l.length:Int) (i:Int)=ifb ((l.drop i).all zda) (kx (yf .u8 (acc++(l.drop i).flatMap fun t=>zdS t true))) (kr (yf .u8 []) 4):=by
 intro n
 induction n with
 | zero=>intro i acc h1 h2; omega
 | succ n ih=>
  intro i acc h1 h2 h3
  simp only [zdz,ziZ,zg]
  by_cases h:i<l.length
  ·have hki:=hk l[i] (W2 h)
   have hlen:=zUF hki true
   rw [yv (by omega),zaG (zMk h),zOv,ztY,zzu,zGH,zGg,zTG hL hki,zkC h]
   cases hf:zda l[i]
   ·rw [if_neg (by decide),xu,if_neg (by decide)]; rfl
   ·rw [if_pos rfl,xu,if_pos rfl,zb (by simp only [xr]; unfold xf; omega),zb0,up (by omega),ih (i+1) _ (by omega) (by omega) (by rw [Wm]; omega),zlH h,Wu]
    rfl
  ·rw [zp (by omega),WK (by omega)]
   simp [ifb]
theorem zNp{L:Nat}(hL:20000≤L){b:BkT}(ho:BkOk b)(k:Ls→Int→Option β):yN β L (za9 b) k=if okK b=true then k (yf .u8 (zjJ b)) 0 else k (yf .u8 []) 4:=by
 have hn:=ho.n
 have hk:∀ t∈b.txs,KeptP t:=fun t ht=>ho.tx t ht
 simp only [yN,zlG,zrg]
 simp only [zS4 ho.hd,QB]
 by_cases h1:b.txs.length≤256
 ·rw [zp (by omega),zWC ho.hd,zSD ho.hd,zS2 (by omega) ho.hd,zg,xW (by omega) (by omega),zyl (by omega) (by rw [zKD ho.hd]; omega) (by omega)]
  have hs:=zlV (b.txs.length:Int)
  rw [show ((0:Int))=((0:Nat):Int) from rfl,zQw (by omega) _ _ b.txs hn hk L 0 _ (by omega) (by omega) (by rw [Wm,zKD ho.hd]; omega),X2]
  simp only [zgR,zhE]
  rw [show hdB b.hd++szB (b.txs.length:Int)++(b.txs.flatMap fun t=>zdS t true)=zjJ b from rfl]
  simp only [xr]
  cases hf:b.txs.all zda
  ·rw [zc7,if_neg (by simp [okK,hf])]
  ·rw [zzp]
   by_cases h2:(zjJ b).length≤100000
   ·rw [zp (by omega),if_pos (by simp [okK,hf,h1,h2])]; rfl
   ·rw [yv (by omega),if_neg (by simp [okK,h2])]; rfl
 ·rw [yv (by omega),if_neg (by simp [okK,h1])]; rfl
theorem zOO{L:Nat}(hL:2000≤L)(kr:Bool→Option β)(kx:Option β)(l:List TxT)(hl:l.length≤12):∀ (n i:Nat),i≤l.length→l.length-i<n →
  zfp zO L kr kx n (l.map yV) (l.length:Int) (i:Int)=ifb ((l.drop i).all zwQ) kx (kr false):=by
 intro n
 induction n with
 | zero=>intro i h1 h2; omega
 | succ n ih=>
  intro i h1 h2
  simp only [zfp,zmd,zg]
  by_cases h:i<l.length
  ·rw [yv (by omega),zaG (zMk h),zOv,ztY,zzu,zGH,zGg,zY8 hL,zkC h,up (by omega),ih (i+1) (by omega) (by omega)]
   cases zwQ l[i] <;> rfl
  ·rw [zp (by omega),WK (by omega)]; rfl
def zD6(b:BkT):Bool:=decide (b.txs.length≤12)&&b.txs.all zwQ
theorem zXq{L:Nat}(hL:2000≤L){b:BkT}(hb:BkW b)(k:Bool→Option β):zaa β L (za9 b) k=k (zD6 b):=by
 simp only [zaa,zp2,zuA]
 simp only [zS4 hb.hd,QB]
 by_cases h:b.txs.length≤12
 ·rw [zp (by omega),show ((0:Int))=((0:Nat):Int) from rfl,zOO hL _ _ b.txs h L 0 (by omega) (by omega),X2]
  simp only [zD6,h,decide_true,Yc,ziG,zjG]
  cases b.txs.all zwQ <;> rfl
 ·rw [yv (by omega)]; simp [zD6,h]
theorem zWZ{h:HdT}(ho:HdOk h):zj6 (hdB h)=h:=by
 obtain ⟨v,hv⟩:=X3 ho.ver.1
 obtain ⟨t,ht⟩:=X3 ho.tm.1
 obtain ⟨b,hb⟩:=X3 ho.bits.1
 obtain ⟨n,hn⟩:=X3 ho.nonce.1
 have bv:=ho.ver.2
 have bt:=ho.tm.2
 have bb:=ho.bits.2
 have bn:=ho.nonce.2
 have e:hdB h=leB v 4++(h.prev++(h.root++(leB t 4++(leB b 4++leB n 4)))):=by
  simp only [hdB,hv,ht,hb,hn,Wu]
  rw [zc3 (n:=v) (by omega),zc3 (n:=t) (by omega),zc3 (n:=b) (by omega),zc3 (n:=n) (by omega)]
 have d0:(hdB h).drop 0=leB v 4++(h.prev++(h.root++(leB t 4++(leB b 4++leB n 4)))):=e
 have d1:(hdB h).drop 4=h.prev++(h.root++(leB t 4++(leB b 4++leB n 4))):=by rw [e]; exact X5 (zdK _ _)
 have d2:(hdB h).drop 36=h.root++(leB t 4++(leB b 4++leB n 4)):=by rw [show 36=4+32 from rfl,← WO,d1]; exact X5 ho.pl
 have d3:(hdB h).drop 68=leB t 4++(leB b 4++leB n 4):=by rw [show 68=36+32 from rfl,← WO,d2]; exact X5 ho.rl
 have d4:(hdB h).drop 72=leB b 4++leB n 4:=by rw [show 72=68+4 from rfl,← WO,d3]; exact X5 (zdK _ _)
 have d5:(hdB h).drop 76=leB n 4++[]:=by rw [show 76=72+4 from rfl,← WO,d4,XZ]; exact X5 (zdK _ _)
 have p4:(256:Nat) ^ 4=4294967296:=by decide
 obtain ⟨ver,prev,root,tm,bits,nonce⟩:=h
 simp only at hv ht hb hn bv bt bb bn d0 d1 d2 d3 d4 d5
 unfold zj6 zhT
 rw [zoM 4 v 0 (by omega) d0,zoM 4 t 68 (by omega) d3,zoM 4 b 72 (by omega) d4,zoM 4 n 76 (by omega) d5,d1,d2,X4 ho.pl,X4 ho.rl,← hv,← ht,← hb,← hn]
theorem zZl{j r:List Int}{t:TxT}(hv:0≤t.ver∧t.ver≤4294967295)(hk:0≤t.lock∧t.lock≤4294967295)(hi:∀ x∈t.ins,InOk x)(ho:∀ x∈t.outs,OutOk x)(li:t.ins.length≤64)(lo:t.outs.length≤64)(hl:(zdS t true).length≤20000){a:Nat}(ha:a≤j.length)(hj:j.drop a=zdS t true++r):∃ a',gTx j a=.ok (t,a')∧a'≤j.length∧j.drop a'=r:=by
 obtain ⟨v,hv2⟩:∃ n:Nat,t.ver=(n:Int):=⟨t.ver.toNat,by omega⟩
 obtain ⟨k,hk2⟩:∃ n:Nat,t.lock=(n:Int):=⟨t.lock.toNat,by omega⟩
 have h:=hj
 unfold zdS at h
 rw [hv2,hk2,zc3 (by omega),zc3 (by omega)] at h
 simp only [if_true,Wu] at h
 obtain ⟨e1,d1⟩:=wrN (w:=4) (n:=v) ha (by omega) h
 obtain ⟨a2,e2,k2,d2⟩:=wrS (most:=64) (zny e1) li (by decide) d1
 obtain ⟨a3,e3,k3,d3⟩:=zVu t.ins a2 hi k2 d2
 obtain ⟨a4,e4,k4,d4⟩:=wrS (most:=64) k3 lo (by decide) d3
 obtain ⟨a5,e5,k5,d5⟩:=zSE t.outs a4 ho k4 d4
 obtain ⟨e6,d6⟩:=wrN (w:=4) (n:=k) k5 (by omega) d5
 obtain ⟨a7,e7,k7,d7⟩:=zRW t.ins (a5+4) hi (zny e6) d6
 have l1:=congrArg XK hj
 have l2:=congrArg XK d7
 rw [XU,Wm] at l1
 rw [XU] at l2
 refine ⟨a7,?_,k7,d7⟩
 unfold gTx
 simp only [e1,e2,e3,e4,e5,e6,e7]
 rw [if_neg (by omega),← hv2,← hk2]
theorem zZn{j:List Int}(hb:Byt j){t:TxT}{a a':Nat}(ha:a≤j.length)(h:gTx j a=.ok (t,a')):j.drop a=zdS t true++j.drop a'∧(zdS t true).length≤20000∧(∀ x∈t.outs,OutOk x)∧∀ y∈t.ins,y.wit.length≤32∧∀ z∈y.wit,z.length≤520:=by
 have hat:=zG8 h
 unfold gTx at h
 split at h
 ·cases h
 ·rename_i ver a1 e1
  split at h
  ·cases h
  ·rename_i n a2 e2
   split at h
   ·cases h
   ·rename_i xs a3 e3
    split at h
    ·cases h
    ·rename_i m a4 e4
     split at h
     ·cases h
     ·rename_i os a5 e5
      split at h
      ·cases h
      ·rename_i lk a6 e6
       split at h
       ·cases h
       ·rename_i ys a7 e7
        split at h
        ·cases h
        ·rename_i hlen
         cases h
         obtain ⟨d1,n1⟩:=rdN hb e1
         have d2:=rdS hb (by decide) e2
         have d3:=zVb hb n a2 e3
         have d4:=rdS hb (by decide) e4
         obtain ⟨d5,o5⟩:=zSm hb m a4 e5
         obtain ⟨d6,n6⟩:=rdN hb e6
         obtain ⟨d7,i7,l7,w7⟩:=zSj hb xs a6 e7
         have hx:=(zxB n a2 (zcp e2).1 e3).2.1
         have ho:=zCJ m a4 e5
         have e:j.drop a=zdS ⟨((ver:Nat):Int),ys,os,((lk:Nat):Int)⟩ true++j.drop a':=by
          unfold zdS
          simp only [if_true,Wu]
          rw [zc3 (by omega),zc3 (by omega),i7,l7,hx,ho,← d7,← d6,← d5,← d4,← d3,← d2,← d1]
         have l1:=congrArg XK e
         rw [XU,Wm,XU] at l1
         exact ⟨e,by omega,o5,w7⟩
structure TxG (t:TxT):Prop where
 ver:0≤t.ver∧t.ver≤4294967295
 lock:0≤t.lock∧t.lock≤4294967295
 ins:∀ x∈t.ins,InOk x
 outs:∀ x∈t.outs,OutOk x
 li:t.ins.length≤64
 lo:t.outs.length≤64
 len:(zdS t true).length≤20000
theorem zU8{j r:List Int}:∀ (ts:List TxT) (a:Nat),(∀ t∈ts,TxG t)→a≤j.length→j.drop a=(ts.flatMap fun t=>zdS t true)++r→∃ a',zj4 j ts.length a=.ok (ts,a')∧a'≤j.length∧j.drop a'=r
 | [],a,_,ha,h=>⟨a,rfl,ha,h⟩
 | t::ts,a,ht,ha,h=>by
  have g:=ht t (by simp)
  rw [Q5,Wu] at h
  obtain ⟨a1,e1,k1,d1⟩:=zZl g.ver g.lock g.ins g.outs g.li g.lo g.len ha h
  obtain ⟨a2,e2,k2,d2⟩:=zU8 ts a1 (fun x hx=>ht x (by simp [hx])) k1 d1
  refine ⟨a2,?_,k2,d2⟩
  rw [XS,zj4,e1]
  simp only [e2]
theorem zVA{j:List Int}(hb:Byt j):∀ (n a:Nat) {ts:List TxT} {a':Nat},a≤j.length→zj4 j n a=.ok (ts,a')→j.drop a=(ts.flatMap fun t=>zdS t true)++j.drop a'∧∀ t∈ts,SmallT t∧(zdS t true).length≤20000∧(∀ x∈t.outs,OutOk x)∧∀ y∈t.ins,y.wit.length≤32∧∀ z∈y.wit,z.length≤520
 | 0,a,ts,a',ha,h=>by simp only [zj4] at h; cases h; exact ⟨rfl,by simp⟩
 | n+1,a,ts,a',ha,h=>by
  rw [zj4] at h
  split at h
  ·cases h
  ·rename_i t a1 e1
   split at h
   ·cases h
   ·rename_i us a2 e2
    cases h
    obtain ⟨d1,l1,o1,w1⟩:=zZn hb ha e1
    obtain ⟨d2,r2⟩:=zVA hb n a1 (zG8 e1) e2
    refine ⟨by rw [Q5,Wu,← d2,← d1],fun x hx=>?_⟩
    rcases Q9.1 hx with rfl | hx
    ·exact ⟨zKH ha e1,l1,o1,w1⟩
    ·exact r2 x hx
theorem zW0{j:List Int}(hb:Byt j)(h:80≤j.length):hdB (zj6 j)++j.drop 80=j:=by
 have c:∀ a,a+32≤j.length→j.drop a=zhT j a++j.drop (a+32):=fun a ha=>by
  unfold zhT
  rw [← WO,X6]
 have p4:(256:Nat) ^ 4=4294967296:=by decide
 have b0:=zi7 hb 0 4
 have b1:=zi7 hb 68 4
 have b2:=zi7 hb 72 4
 have b3:=zi7 hb 76 4
 unfold hdB zj6
 simp only [Wu]
 rw [zc3 (by omega),zc3 (by omega),zc3 (by omega),zc3 (by omega),← ztB 4 76 hb (by omega),← ztB 4 72 hb (by omega),← ztB 4 68 hb (by omega),← c 36 (by omega),← c 4 (by omega),← ztB 4 0 hb (by omega),X2]
theorem zWu{j:List Int}(hb:Byt j)(h:80≤j.length):HdOk (zj6 j):=by
 have p4:(256:Nat) ^ 4=4294967296:=by decide
 have b0:=zi7 hb 0 4
 have b1:=zi7 hb 68 4
 have b2:=zi7 hb 72 4
 have b3:=zi7 hb 76 4
 have c:∀ a,zt6 (zhT j a):=fun a x hx=>hb x (List.mem_of_mem_drop (WV hx))
 exact ⟨zf5 (by omega),zf5 (by omega),c 4,c 36,by unfold zj6; simp only; omega,by unfold zj6; simp only; omega,by unfold zj6; simp only; omega,by unfold zj6; simp only; omega⟩
theorem zYU{h:HdT}(ho:HdOk h):Byt (hdB h):=zbV (zbV (zbV (zbV (zbV (zoz ho.ver) ho.pb) ho.rb) (zoz ho.tm)) (zoz ho.bits)) (zoz ho.nonce)
theorem zLt{b:BkT}(h:okK b=true):b.txs.length≤256∧(∀ t∈b.txs,zda t=true)∧(zjJ b).length≤100000:=by
 simp only [okK,Wh,decide_eq_true_eq,QO] at h
 exact ⟨h.1.1,h.1.2,h.2⟩
theorem zSq{t:TxT}(ht:TxOk t)(hf:zda t=true):TxG t:=by
 obtain ⟨f1,f2,f3,f4,f5⟩:=zRF hf
 exact ⟨ht.ver,ht.lock,fun x hx=>⟨(ht.ins x hx).pv,(ht.ins x hx).ix,(ht.ins x hx).seq,(f4 x hx).1,(f4 x hx).2⟩,fun x hx=>⟨⟨(f3 x hx).1,(ht.outs x hx).val.2⟩,(f3 x hx).2⟩,f1,f2,f5⟩
theorem zZi{b:BkT}(ho:HdOk b.hd)(ht:∀ t∈b.txs,TxOk t)(h:okK b=true):zzh (zjJ b)=.ok b∧Byt (zjJ b):=by
 obtain ⟨h1,h2,h3⟩:=zLt h
 have hG:∀ t∈b.txs,TxG t:=fun t hm=>zSq (ht t hm) (h2 t hm)
 have hl:=zKD ho
 have d80:(zjJ b).drop 80=szB ((b.txs.length:Nat):Int)++((b.txs.flatMap fun t=>zdS t true)++[]):=by
  unfold zjJ
  rw [Wu,X5 hl,XZ]
 have t80:(zjJ b).take 80=hdB b.hd:=by
  unfold zjJ
  rw [Wu,X4 hl]
 have len:(zjJ b).length=80+(szB ((b.txs.length:Nat):Int)).length+(b.txs.flatMap fun t=>zdS t true).length:=by
  unfold zjJ
  rw [Wm,Wm,hl]
 obtain ⟨a,e1,k1,d1⟩:=wrS (most:=256) (a:=80) (by omega) h1 (by decide) d80
 obtain ⟨a',e2,k2,d2⟩:=zU8 b.txs a hG k1 d1
 have la:a'=(zjJ b).length:=by
  have:=congrArg XK d2
  rw [XU,XT] at this
  omega
 constructor
 ·unfold zzh
  rw [if_neg (by omega),if_neg (by omega),e1]
  simp only [e2]
  rw [if_neg (by omega),← zLh,t80,zWZ ho]
 ·unfold zjJ
  refine zbV (zbV (zYU ho) (zCX (by omega))) (zDJ fun t hm=>?_)
  have g:=hG t hm
  exact zUW (ht t hm) g.ins g.outs g.li g.lo
theorem zZE{j:List Int}(hb:Byt j){b:BkT}(h:zzh j=.ok b):BkOk b∧okK b=true∧zjJ b=j:=by
 unfold zzh at h
 split at h
 ·cases h
 ·split at h
  ·cases h
  ·split at h
   ·cases h
   ·rename_i g1 g2 n a e1
    split at h
    ·cases h
    ·rename_i ts a' e2
     split at h
     ·cases h
     ·rename_i g3
      cases h
      obtain ⟨ha,hn⟩:=zcp e1
      obtain ⟨ha',hts,_⟩:=zJK n a ha e2
      obtain ⟨d2,r2⟩:=zVA hb n a ha e2
      have d1:=rdS hb (by decide) e1
      have e0:a'=j.length:=by omega
      have he:zjJ ⟨zj6 j,ts⟩=j:=by
       unfold zjJ
       simp only
       rw [hts]
       have:=zW0 hb (by omega)
       rw [d1,d2,e0,WK (Wq _),XZ] at this
       rw [Wu]
       exact this
      have hf:∀ t∈ts,zda t=true:=fun t hm=>by
       obtain ⟨s,l,o,w⟩:=r2 t hm
       exact zV6 s.i s.o (fun x hx=>⟨(o x hx).val.1,(o x hx).scr⟩) w l
      have hk:∀ t∈ts,KeptP t:=fun t hm=>by
       obtain ⟨s,l,o,w⟩:=r2 t hm
       have s1:=s.i
       have s2:=s.o
       exact ⟨by omega,by omega,fun x hx=>by have:=(w x hx).1; omega,fun x hx y hy=>by have:=(w x hx).2 y hy; omega,fun x hx=>by have:=(o x hx).scr; omega⟩
      refine ⟨⟨zWu hb (by omega),by simp only; omega,hk⟩,?_,he⟩
      unfold okK
      rw [he]
      simp only [Wh,decide_eq_true_eq,QO]
      exact ⟨⟨by omega,hf⟩,by omega⟩
theorem zPe{L:Nat}(hL:100000≤L){j:List Int}(hb:Byt j)(hj:j.length≤4000)(k:Bool→Option Bool) :
 (zD Bool L (yf .u8 j) fun v14 v15=>
 chk ((XK v14)=69∧0+69≤69) (
 lt (yd ([(Qc (0:Int))]++We 64 (Qa (0:Int))++[(Qc (0:Int)),(Qc (0:Int)),(Qc (0:Int)),(V.gs 4 ([]:Ls))]) 0 v14) fun r16=>
 ifb ((v15:Int) != (0:Int)) (
 cLd 4 r16 68 fun v17=>
 k ((((XK v17:Nat):Int):Int)==(0:Int))) (
 chk (0+69≤(XK r16)) (
 yN Bool L (List.map V.dem (XM 69 r16)) (fun v18 v19=>
 ifb ((v19:Int)==(0:Int)) (
 yg Bool L v18 (yf .u8 j) (fun v20=>
 k v20)) (
 k false))))))=k true:=by
 rw [zKY (by omega) hb (by omega)]
 cases e:zzh j with
 | error v=>rw [zPJ,zRK zq8,xu,if_neg (zVG e),zyJ zq8]; rfl
 | ok b=>
  obtain ⟨h1,h2,h3⟩:=zZE hb e
  have hl:HL b.hd:=⟨h1.hd.pl,h1.hd.rl⟩
  rw [zPT,zRK hl,xu,if_pos rfl,c69 hl,zTz hl,zNp (by omega) h1,if_pos h2,zhH rfl,h3,zBD]
theorem zHk(a0:List V)(a1:Ls)(wf0:HasRow ([.int .u32]++We 64 (.int .u8)++We 3 (.int .u32)++[.sl ([.int .u32]++[.sl (We 32 (.int .u8)++We 2 (.int .u32)++[.sl ([.sl ([.int .u8])])])]++[.sl ([.int .i64]++[.sl ([.int .u8])])]++[.int .u32])]) a0)(hl1:a1.length≤maxLen)(wf1:∀ e∈a1,HasRow [.int .u8] e) :
  ∃ L,∀ k:Bool→Option Bool,zbC Bool L a0 a1 k=k true:=by
 obtain ⟨b,rfl,hw⟩:=zYP wf0
 obtain ⟨j,rfl,hj⟩:=zD3 wf1
 have hb:=zXf hj
 obtain ⟨L,hL⟩:∃ L,100000≤L:=⟨100000,Wq _⟩
 refine ⟨L,fun k=>?_⟩
 have hl:HL b.hd:=⟨hw.hd.pl,hw.hd.rl⟩
 unfold zbC zmQ yU
 rw [zb (by omega),c69 hl,zTz hl,zXq (by omega) hw]
 cases hk:zD6 b
 ·rfl
 ·have hn:b.txs.length≤12:=by simp only [zD6,Wh,decide_eq_true_eq] at hk; exact hk.1
  have hkp:∀ t∈b.txs,KeptP t:=fun t ht=>by
   simp only [zD6,Wh,QO] at hk
   exact zXJ (hk.2 t ht)
  rw [Xh,zc7,xr,zef]
  by_cases h4:(j.length:Int)>4000
  ·rw [if_pos h4]
  ·rw [if_neg h4,c69 hl,zNp (by omega) ⟨hw.hd,by omega,hkp⟩]
   by_cases hf:okK b=true
   ·obtain ⟨f1,f2,f3⟩:=zLt hf
    obtain ⟨w1,w2⟩:=zZi hw.hd hw.tx hf
    have hs:SmallB b:=⟨hl,by omega,fun t ht=>by
     have g:=zSq (hw.tx t ht) (f2 t ht)
     exact ⟨g.li,g.lo,fun x hx=>(g.ins x hx).wl⟩⟩
    rw [if_pos hf,zhH rfl,zKY (by omega) w2 f3,w1,zPT,zRK hl,xu,if_pos rfl,c69 hl,c69 hl,zTz hl,zWS (by omega) hs]
    simp only [Xh,zc7]
    exact zPe hL hb (by omega) k
   ·rw [if_neg hf,zfX (by decide)]
    exact zPe hL hb (by omega) k
end
section
theorem zv6(n:Int):0≤QG .u64 n:=by
 unfold QG
 simp only [IntKind.signed,Bool.false_and,WP,if_false]
 exact Int.emod_nonneg _ (by decide)
def zem(p n:Int):Int:=
 ior .u32 (zde .u32 p (zee .u64 (QG .u64 (QG .i64 (0-n))) 31)) (zb1 .u32 p (QG .u64 (32-(zee .u64 (QG .u64 (QG .i64 (0-n))) 31))))
theorem zPk{β:Type}(L:Nat)(p n:Int)(k:Int→Option β):yj β L p n k=k (ior .u32 (zde .u32 p (zee .u64 (QG .u64 n) 31)) (zb1 .u32 p (QG .u64 (32-(zee .u64 (QG .u64 n) 31))))):=by
 unfold yj zge
 simp only [zg]
 rw [zb (show 0≤zee .u64 (QG .u64 n) 31 from zv6 _),zb (zv6 _)]
theorem zP5{β:Type}(L:Nat)(p n:Int)(k:Int→Option β):xh β L p n k=k (zem p n):=by
 unfold xh zzA
 simp only [zg]
 rw [zPk]; exact Eq.trans rfl rfl
theorem zTE{β:Type}(L:Nat)(p n:Int)(k:Int→Option β):zh β L p n k=k (zem p n):=by
 unfold zh zuz
 simp only [zg]
 rw [zPk]; exact Eq.trans rfl rfl
theorem zN{β:Type}{k:IntKind}{l:List Int}{j:Nat}(h:j<l.length)(κ:Int→Option β):cI k (row k l) j κ=κ (l.getD j 0):=
 zie (by simp [row,h]) κ
theorem zgT{k:IntKind}{w:List Int}{j:Nat}(h:j<w.length)(x:Int):yd (row k w) j [V.sc (.int k x)]=row k (w.set j x):=by
 rw [zr8 (by rw [xk]; exact h)]
 simp [row]
theorem zRA{t c:Nat}(h:c≤t)(h2:t≤1000000):QG .i64 ((t:Int)-(c:Int))=((t-c:Nat):Int):=by
 rw [xH (by omega) (by omega)]; omega
def s2(w:List Int)(t:Nat):Int:=
 QG .u32 (QG .u32 (QG .u32 (w.getD (t-16) 0+zb3 .u32 (zb3 .u32 (zem (w.getD (t-15) 0) 7) (zem (w.getD (t-15) 0) 18)) (zb1 .u32 (w.getD (t-15) 0) 3))+w.getD (t-7) 0)+zb3 .u32 (zb3 .u32 (zem (w.getD (t-2) 0) 17) (zem (w.getD (t-2) 0) 19)) (zb1 .u32 (w.getD (t-2) 0) 10))
def zDr:Nat→Nat→List Int→List Int
 | 0,_,w=>w
 | m+1,t,w=>zDr m (t+1) (w.set t (s2 w t))
theorem zNw:∀ (m t:Nat) (w:List Int),(zDr m t w).length=w.length
 | 0,_,_=>rfl
 | m+1,t,w=>by rw [zDr,zNw m]; simp
theorem zK5{β:Type}(L:Nat){t:Nat}(h1:16≤t)(h2:t<64)(b2:List V){w:List Int}(hw:w.length=64)(kh:Int→List V→List V→Option β)(kx:List V→List V→Option β):zch xh L (t:Int) b2 (row .u32 w) kh kx=kh ((t+1:Nat):Int) b2 (row .u32 (w.set t (s2 w t))):=by
 unfold zch
 have e15:QG .i64 ((t:Int)-(15:Int))=((t-15:Nat):Int):=zRA (c:=15) (by omega) (by omega)
 have e2:QG .i64 ((t:Int)-(2:Int))=((t-2:Nat):Int):=zRA (c:=2) (by omega) (by omega)
 have e16:QG .i64 ((t:Int)-(16:Int))=((t-16:Nat):Int):=zRA (c:=16) (by omega) (by omega)
 have e7:QG .i64 ((t:Int)-(7:Int))=((t-7:Nat):Int):=zRA (c:=7) (by omega) (by omega)
 have c15:0≤((t-15:Nat):Int)∧((t-15:Nat):Int)<((64:Nat):Int):=by omega
 have c2:0≤((t-2:Nat):Int)∧((t-2:Nat):Int)<((64:Nat):Int):=by omega
 have c16:0≤((t-16:Nat):Int)∧((t-16:Nat):Int)<((64:Nat):Int):=by omega
 have c7:0≤((t-7:Nat):Int)∧((t-7:Nat):Int)<((64:Nat):Int):=by omega
 have c0:0≤(t:Int)∧(t:Int)<((64:Nat):Int):=by omega
 have cl:True∧t+1≤64:=⟨trivial,by omega⟩
 rw [yv (by omega:(t:Int)<64)]
 simp only [zg,e15,e2,e16,e7,zb c15,zb c2,zb c16,zb c7,zb c0,XV,Yb,WB,zP5,zN (show t-15<w.length by omega),zN (show t-2<w.length by omega),zN (show t-16<w.length by omega),zN (show t-7<w.length by omega),xk,hw,zgT (show t<w.length by omega),xM (show t≤1000000000 by omega)]
 rw [zb cl]
 exact Eq.trans rfl rfl
theorem zQ0{β:Type}(L:Nat){t:Nat}(h1:16≤t)(h2:t<64)(b2:List V){w:List Int}(hw:w.length=64)(kh:Int→List V→List V→Option β)(kx:List V→List V→Option β):zcN zh L (t:Int) b2 (row .u32 w) kh kx=kh ((t+1:Nat):Int) b2 (row .u32 (w.set t (s2 w t))):=
 (show zcN zh L (t:Int) b2 (row .u32 w) kh kx=zch xh L (t:Int) b2 (row .u32 w) kh kx from rfl).trans (zK5 L h1 h2 b2 hw kh kx)
theorem zK0{β:Type}(L:Nat)(b2:List V)(kx:List V→List V→Option β):∀ (n m t:Nat) (w:List Int),w.length=64→16≤t→t+m=64→m<n→zce xh L kx n (t:Int) b2 (row .u32 w)=kx b2 (row .u32 (zDr m t w))
 | 0,m,t,w,_,_,_,h=>by omega
 | n+1,0,t,w,hw,h1,h2,h=>by
  unfold zce zch
  rw [zp (by omega)]; exact Eq.trans rfl rfl
 | n+1,m+1,t,w,hw,h1,h2,h=>by
  unfold zce
  rw [zK5 L h1 (by omega) b2 hw]
  exact zK0 L b2 kx n m (t+1) _ (by simpa using hw) (by omega) (by omega) (by omega)
theorem zIy{β:Type}(L:Nat)(b2:List V)(kx:List V→List V→Option β):∀ (n m t:Nat) (w:List Int),w.length=64→16≤t→t+m=64→m<n→zbA zh L kx n (t:Int) b2 (row .u32 w)=kx b2 (row .u32 (zDr m t w))
 | 0,m,t,w,_,_,_,h=>by omega
 | n+1,0,t,w,hw,h1,h2,h=>by
  unfold zbA zcN
  rw [zp (by omega)]; exact Eq.trans rfl rfl
 | n+1,m+1,t,w,hw,h1,h2,h=>by
  unfold zbA
  rw [zQ0 L h1 (by omega) b2 hw]
  exact zIy L b2 kx n m (t+1) _ (by simpa using hw) (by omega) (by omega) (by omega)
theorem zFf{n:Int}(h1:0≤n)(h2:n<4294967296):QG .u32 n=n:=zla h1 (by omega)
theorem zDO{a b:Int}{n:Nat}(ha:0≤a)(hb:0≤b)(hb2:b<2 ^ n)(hs:a*2 ^ n+b<4294967296):ior .u32 (a*2 ^ n) b=a*2 ^ n+b:=by
 obtain ⟨x,rfl⟩:=X3 ha
 obtain ⟨y,rfl⟩:=X3 hb
 have hy:y<2 ^ n:=by exact_mod_cast hb2
 have e:((x:Int)*2 ^ n)=((x*2 ^ n:Nat):Int):=by rw [Int.natCast_mul,Int.natCast_pow]; rfl
 rw [e] at hs ⊢
 have hxy:x*2 ^ n+y<4294967296:=by omega
 unfold ior
 have q1:(BitVec.ofInt (XH .u32) ((x*2 ^ n:Nat):Int)).toNat=x*2 ^ n:=by
  rw [BitVec.toNat_ofInt]
  show (((x*2 ^ n:Nat):Int) % ((2 ^ 32:Nat):Int)).toNat=_
  rw [← Int.natCast_emod,XV,Yd (by omega)]
 have q2:(BitVec.ofInt (XH .u32) (y:Int)).toNat=y:=by
  rw [BitVec.toNat_ofInt]
  show ((y:Int) % ((2 ^ 32:Nat):Int)).toNat=_
  rw [← Int.natCast_emod,XV,Yd (by omega)]
 rw [BitVec.toNat_or,q1,q2,← Nat.shiftLeft_eq,← Nat.shiftLeft_add_eq_or_of_lt hy,Nat.shiftLeft_eq]
 rw [zFf (by omega) (by omega),Int.natCast_add]
theorem zz5{a:Int}(n:Nat)(hn:n≤32)(ha:0≤a)(hs:a*2 ^ n<4294967296):zde .u32 a (n:Int)=a*2 ^ n:=by
 unfold zde
 have:min (Int.toNat (n:Int)) (XH .u32)=n:=by
  rw [XV]; exact Yg hn
 rw [this]
 have h0:0≤a*2 ^ n:=Int.mul_nonneg ha (Int.le_of_lt (Int.pow_pos (by decide)))
 exact zFf h0 hs
theorem zg3{l:List Int}(h:∀ x∈l,0≤x∧x≤255)(i:Nat):0≤l.getD i 0∧l.getD i 0≤255:=by
 rw [Ws]
 by_cases hi:i<l.length
 ·rw [Wc hi]; exact h _ (W2 hi)
 ·rw [List.getElem?_eq_none (by omega)]; simp
theorem zfZ{w:List Int}{t:Nat}(h:t<w.length)(x:Int):(w.set t x).getD t 0=x:=by
 simp [Ws,h]
theorem getD_set_ne{w:List Int}{t i:Nat}(h:t≠i)(x:Int):(w.set t x).getD i 0=w.getD i 0:=by
 simp [Ws,List.getElem?_set_ne h]
def zAq(l:List Int)(t:Nat):Int:=
 ((l.getD (4*t) 0*256+l.getD (4*t+1) 0)*256+l.getD (4*t+2) 0)*256+l.getD (4*t+3) 0
theorem zVE{x y:Int}(h0:0≤x)(h1:x<16777216)(b0:0≤y)(b1:y≤255):ior .u32 (zde .u32 x (8:Int)) y=x*256+y:=by
 have e1:zde .u32 x (8:Int)=x*2 ^ 8:=zz5 8 (by decide) h0 (by omega)
 rw [e1,zDO (n:=8) h0 b0 (by omega) (by omega)]; exact Eq.trans rfl rfl
theorem zZr{a b c d:Int}(ha:0≤a∧a≤255)(hb:0≤b∧b≤255)(hc:0≤c∧c≤255)(hd:0≤d∧d≤255):ior .u32 (ior .u32 (ior .u32 (zde .u32 a (24:Int)) (zde .u32 b (16:Int))) (zde .u32 c (8:Int))) d=((a*256+b)*256+c)*256+d:=by
 have e1:zde .u32 a (24:Int)=a*2 ^ 24:=zz5 24 (by decide) ha.1 (by omega)
 have e2:zde .u32 b (16:Int)=b*2 ^ 16:=zz5 16 (by decide) hb.1 (by omega)
 have e3:zde .u32 c (8:Int)=c*2 ^ 8:=zz5 8 (by decide) hc.1 (by omega)
 rw [e1,e2,e3,zDO (n:=24) ha.1 (by omega) (by omega) (by omega)]
 rw [show a*2 ^ 24+b*2 ^ 16=(a*256+b)*2 ^ 16 by omega,zDO (n:=16) (by omega) (by omega) (by omega) (by omega)]
 rw [show (a*256+b)*2 ^ 16+c*2 ^ 8=((a*256+b)*256+c)*2 ^ 8 by omega,zDO (n:=8) (by omega) (by omega) (by omega) (by omega)]
 omega
theorem zQI{t:Nat}(h:t≤1000000):QG .i64 ((4:Int)*(t:Int))=((4*t:Nat):Int):=by
 rw [xH (by omega) (by omega)]; omega
theorem zF1{a b:Nat}(h:a≤1000000000)(h2:b≤1000000000):QG .i64 ((a:Int)+(b:Int))=((a+b:Nat):Int):=by
 rw [xH (by omega) (by omega)]; omega
theorem zV1{β:Type}(L:Nat){t j:Nat}(ht:t<16)(hj:j<4)(b2:List V){l w:List Int}(hl:l.length=64)(hb:∀ x∈l,0≤x∧x≤255)(hw:w.length=64){x:Int}(hx:w.getD t 0=x)(h0:0≤x)(h1:x<16777216)(kh:Int→Int→Int→List V→List V→List V→Option β)(kx:Int→List V→List V→List V→Option β):zad L (t:Int) (t:Int) (j:Int) (row .u8 l) b2 (row .u32 w) kh kx=kh (t:Int) (t:Int) ((j+1:Nat):Int) (row .u8 l) b2 (row .u32 (w.set t (x*256+l.getD (4*t+j) 0))):=by
 unfold zad
 have bb:=zg3 hb (4*t+j)
 have e4:QG .i64 ((4:Int)*(t:Int))=((4*t:Nat):Int):=zQI (by omega)
 have e5:QG .i64 (((4*t:Nat):Int)+(j:Int))=((4*t+j:Nat):Int):=zF1 (by omega) (by omega)
 have e6:QG .u32 (l.getD (4*t+j) 0)=l.getD (4*t+j) 0:=zla bb.1 (by omega)
 have e7:ior .u32 (zde .u32 x (8:Int)) (l.getD (4*t+j) 0)=x*256+l.getD (4*t+j) 0:=zVE h0 h1 bb.1 bb.2
 have c0:0≤(t:Int)∧(t:Int)<((64:Nat):Int):=by omega
 have c5:0≤((4*t+j:Nat):Int)∧((4*t+j:Nat):Int)<((64:Nat):Int):=by omega
 have cl:True∧t+1≤64:=⟨trivial,by omega⟩
 rw [yv (by omega:(j:Int)<4)]
 simp only [zg,e4,e5,zb c0,zb c5,XV,Yb,WB,zN (show t<w.length by omega),zN (show 4*t+j<l.length by omega),hx,e6,e7,xk,hw,zgT (show t<w.length by omega),xM (show j≤1000000000 by omega)]
 rw [zb cl]
theorem zzI{β:Type}(L n:Nat){t j:Nat}(ht:t<16)(hj:j<4)(b2:List V){l w:List Int}(hl:l.length=64)(hb:∀ x∈l,0≤x∧x≤255)(hw:w.length=64){x:Int}(hx:w.getD t 0=x)(h0:0≤x)(h1:x<16777216)(kx:Int→List V→List V→List V→Option β):zR L kx (n+1) (t:Int) (t:Int) (j:Int) (row .u8 l) b2 (row .u32 w)=zR L kx n (t:Int) (t:Int) ((j+1:Nat):Int) (row .u8 l) b2 (row .u32 (w.set t (x*256+l.getD (4*t+j) 0))):=
 (show zR L kx (n+1) (t:Int) (t:Int) (j:Int) (row .u8 l) b2 (row .u32 w)=zad L (t:Int) (t:Int) (j:Int) (row .u8 l) b2 (row .u32 w) (fun p4 p9 p12 b1 b2 b3=>zR L kx n p4 p9 p12 b1 b2 b3) kx from rfl).trans (zV1 L ht hj b2 hl hb hw hx h0 h1 _ _)
theorem zVM{β:Type}(L n:Nat){t:Nat}(ht:t<16)(b2:List V){l w:List Int}(hl:l.length=64)(hb:∀ x∈l,0≤x∧x≤255)(hw:w.length=64)(hx:w.getD t 0=0)(kx:Int→List V→List V→List V→Option β):zR L kx (n+5) (t:Int) (t:Int) ((0:Nat):Int) (row .u8 l) b2 (row .u32 w)=kx (t:Int) (row .u8 l) b2 (row .u32 (w.set t (zAq l t))):=by
 have htw:t<w.length:=by omega
 have a0:=zg3 hb (4*t+0)
 have a1:=zg3 hb (4*t+1)
 have a2:=zg3 hb (4*t+2)
 have a3:=zg3 hb (4*t+3)
 refine (zzI L (n+4) ht (j:=0) (by decide) b2 hl hb hw hx (by decide) (by decide) kx).trans ?_
 refine (zzI L (n+3) ht (j:=1) (by decide) b2 hl hb (by simpa using hw) (zfZ htw _) (by omega) (by omega) kx).trans ?_
 rw [Ye]
 refine (zzI L (n+2) ht (j:=2) (by decide) b2 hl hb (by simpa using hw) (zfZ htw _) (by omega) (by omega) kx).trans ?_
 rw [Ye]
 refine (zzI L (n+1) ht (j:=3) (by decide) b2 hl hb (by simpa using hw) (zfZ htw _) (by omega) (by omega) kx).trans ?_
 rw [Ye]
 have e:(((0*256+l.getD (4*t+0) 0)*256+l.getD (4*t+1) 0)*256+l.getD (4*t+2) 0)*256+l.getD (4*t+3) 0=zAq l t:=by
  unfold zAq; rw [Nat.add_zero,Int.zero_mul,Int.zero_add]
 rw [e]
 refine (show _=zad L (t:Int) (t:Int) ((3+1:Nat):Int) (row .u8 l) b2 (row .u32 (w.set t (zAq l t))) (fun p4 p9 p12 b1 b2 b3=>zR L kx n p4 p9 p12 b1 b2 b3) kx from rfl).trans ?_
 unfold zad
 rw [zp (by omega)]
def zCV:Nat→Nat→List Int→List Int→List Int
 | 0,_,_,w=>w
 | m+1,t,l,w=>zCV m (t+1) l (w.set t (zAq l t))
theorem zzN:∀ (m t:Nat) (l w:List Int),(zCV m t l w).length=w.length
 | 0,_,_,_=>rfl
 | m+1,t,l,w=>by rw [zCV,zzN m]; simp
theorem zU2{β:Type}{L:Nat}(hL:5≤L){t:Nat}(ht:t<16)(b2:List V){l w:List Int}(hl:l.length=64)(hb:∀ x∈l,0≤x∧x≤255)(hw:w.length=64)(hx:w.getD t 0=0)(k0:List V→List V→Option β)(kh:Int→List V→List V→List V→Option β):zcc L (t:Int) (row .u8 l) b2 (row .u32 w) k0 kh=kh ((t+1:Nat):Int) (row .u8 l) b2 (row .u32 (w.set t (zAq l t))):=by
 obtain ⟨n,rfl⟩:=Nat.exists_eq_add_of_le hL
 unfold zcc zgC
 rw [yv (by omega:(t:Int)<16)]
 rw [Nat.add_comm 5 n]
 refine (zVM (n+5) n ht b2 hl hb hw hx _).trans ?_
 unfold zdV
 rw [zg,xM (by omega)]
theorem zNn{β:Type}{L:Nat}(hL:5≤L)(b2:List V){l:List Int}(hl:l.length=64)(hb:∀ x∈l,0≤x∧x≤255)(k0:List V→List V→Option β):∀ (n m t:Nat) (w:List Int),w.length=64→(∀ i,t≤i→w.getD i 0=0)→t+m=16→m<n→zcA L k0 n (t:Int) (row .u8 l) b2 (row .u32 w)=k0 b2 (row .u32 (zCV m t l w))
 | 0,m,t,w,_,_,_,h=>by omega
 | n+1,0,t,w,hw,hz,h1,h=>by
  unfold zcA zcc zgC
  rw [zp (by omega)]; exact Eq.trans rfl rfl
 | n+1,m+1,t,w,hw,hz,h1,h=>by
  unfold zcA
  rw [zU2 hL (by omega) b2 hl hb hw (hz t (Wq t))]
  exact zNn hL b2 hl hb k0 n m (t+1) _ (by simpa using hw) (fun i hi=>by rw [getD_set_ne (by omega)]; exact hz i (by omega)) (by omega) (by omega)
theorem zS3{β:Type}(L:Nat){t:Nat}(ht:t<16)(b2:List V){l w:List Int}(hl:l.length=64)(hb:∀ x∈l,0≤x∧x≤255)(hw:w.length=64)(kh:Int→List V→List V→List V→Option β)(k0:List V→List V→Option β):zcX L (t:Int) (row .u8 l) b2 (row .u32 w) kh k0=kh ((t+1:Nat):Int) (row .u8 l) b2 (row .u32 (w.set t (zAq l t))):=by
 unfold zcX
 have a0:=zg3 hb (4*t)
 have a1:=zg3 hb (4*t+1)
 have a2:=zg3 hb (4*t+2)
 have a3:=zg3 hb (4*t+3)
 have e4:QG .i64 ((4:Int)*(t:Int))=((4*t:Nat):Int):=zQI (by omega)
 have e1:QG .i64 (((4*t:Nat):Int)+(1:Int))=((4*t+1:Nat):Int):=zF1 (b:=1) (by omega) (by omega)
 have e2:QG .i64 (((4*t:Nat):Int)+(2:Int))=((4*t+2:Nat):Int):=zF1 (b:=2) (by omega) (by omega)
 have e3:QG .i64 (((4*t:Nat):Int)+(3:Int))=((4*t+3:Nat):Int):=zF1 (b:=3) (by omega) (by omega)
 have c0:0≤(t:Int)∧(t:Int)<((64:Nat):Int):=by omega
 have c4:0≤((4*t:Nat):Int)∧((4*t:Nat):Int)<((64:Nat):Int):=by omega
 have c1:0≤((4*t+1:Nat):Int)∧((4*t+1:Nat):Int)<((64:Nat):Int):=by omega
 have c2:0≤((4*t+2:Nat):Int)∧((4*t+2:Nat):Int)<((64:Nat):Int):=by omega
 have c3:0≤((4*t+3:Nat):Int)∧((4*t+3:Nat):Int)<((64:Nat):Int):=by omega
 have cl:True∧t+1≤64:=⟨trivial,by omega⟩
 rw [yv (by omega:(t:Int)<16)]
 simp only [zg,e4,e1,e2,e3,zb c0,zb c4,zb c1,zb c2,zb c3,XV,Yb,WB,zN (show 4*t<l.length by omega),zN (show 4*t+1<l.length by omega),zN (show 4*t+2<l.length by omega),zN (show 4*t+3<l.length by omega),zla a0.1 (show l.getD (4*t) 0≤4294967295 by omega),zla a1.1 (show l.getD (4*t+1) 0≤4294967295 by omega),zla a2.1 (show l.getD (4*t+2) 0≤4294967295 by omega),zla a3.1 (show l.getD (4*t+3) 0≤4294967295 by omega),zZr a0 a1 a2 a3,xk,hw,zgT (show t<w.length by omega),xM (show t≤1000000000 by omega)]
 rw [zb cl]
 exact Eq.trans rfl rfl
theorem zLm{β:Type}(L:Nat)(b2:List V){l:List Int}(hl:l.length=64)(hb:∀ x∈l,0≤x∧x≤255)(k0:List V→List V→Option β):∀ (n m t:Nat) (w:List Int),w.length=64→t+m=16→m<n→zbT L k0 n (t:Int) (row .u8 l) b2 (row .u32 w)=k0 b2 (row .u32 (zCV m t l w))
 | 0,m,t,w,_,_,h=>by omega
 | n+1,0,t,w,hw,h1,h=>by
  unfold zbT zcX
  rw [zp (by omega)]; exact Eq.trans rfl rfl
 | n+1,m+1,t,w,hw,h1,h=>by
  unfold zbT
  rw [zS3 L (by omega) b2 hl hb hw]
  exact zLm L b2 hl hb k0 n m (t+1) _ (by simpa using hw) (by omega) (by omega)
def znF(l:List Int):List Int:=zDr 48 16 (zCV 16 0 l (We 64 0))
theorem ziu(l:List Int):(znF l).length=64:=by
 unfold znF; rw [zNw,zzN]; rfl
theorem zy8(n:Nat)(k:IntKind)(x:Int):We n (V.sc (.int k x))=row k (We n x):=by simp [row]
theorem zU4(n i:Nat):(We n (0:Int)).getD i 0=0:=by
 rw [Ws]
 by_cases hi:i<n
 ·simp [hi]
 ·simp [hi]
theorem zLq{β:Type}{w:List Int}(hw:w.length=64)(z:List Int)(hz:z.length=64)(k:List V→Option β) :
  chk (0+64≤(XK (row .u32 w))) (chk ((XK (XM 64 (row .u32 w)))=64∧0+64≤(XK (row .u32 z))) (
   lt (yd (row .u32 z) 0 (XM 64 (row .u32 w))) fun r41=>chk (0=0∧(XK r41)=64∧64≠0) (k r41)))=k (row .u32 w):=by
 have e:XM 64 (row .u32 w)=row .u32 w:=XE (by rw [xk]; omega)
 rw [zg,e,zaj (by rw [xk,xk]; omega)]
 rw [zb (by rw [xk]; omega),zb ⟨by rw [xk]; omega,by rw [xk]; omega⟩,zb ⟨rfl,by rw [xk]; omega,by decide⟩]
theorem zO7{β:Type}{L:Nat}(hL:100≤L){l:List Int}(hl:l.length=64)(hb:∀ x∈l,0≤x∧x≤255)(k:List V→Option β):yz β L (row .u8 l) k=k (row .u32 (znF l)):=by
 unfold yz zlK zra
 rw [zy8]
 refine (zNn (by omega) _ hl hb _ L 16 0 _ rfl (fun i _=>?_) rfl (by omega)).trans ?_
 ·exact zU4 64 i
 unfold zeB zin
 refine (zK0 L _ _ L 48 16 _ (by rw [zzN]; rfl) (by omega) rfl (by omega)).trans ?_
 unfold zhu
 exact zLq (ziu l) _ rfl k
theorem zMA{β:Type}{L:Nat}(hL:100≤L){l:List Int}(hl:l.length=64)(hb:∀ x∈l,0≤x∧x≤255)(k:List V→Option β):zw β L (row .u8 l) k=k (row .u32 (znF l)):=by
 unfold zw zi3 zoc
 rw [zy8]
 refine (zLm L _ hl hb _ L 16 0 _ rfl rfl (by omega)).trans ?_
 unfold zdE zgM
 refine (zIy L _ _ L 48 16 _ (by rw [zzN]; rfl) (by omega) rfl (by omega)).trans ?_
 unfold zga
 exact zLq (ziu l) _ rfl k
end
section
def kc:List Int:=gk_sha_k.map fun v=>match v with | .sc (.int _ n)=>n | _=>0
theorem zSQ:gk_sha_k=row .u32 kc:=rfl
theorem zTo:kc.length=64:=rfl
def t1(e f g h kk ww:Int):Int:=
 QG .u32 (QG .u32 (QG .u32 (QG .u32 (h+zb3 .u32 (zb3 .u32 (zem e 6) (zem e 11)) (zem e 25))+zb3 .u32 (zee .u32 e f) (zee .u32 (zMO .u32 e) g))+kk)+ww)
def t2(a b c:Int):Int:=
 QG .u32 (zb3 .u32 (zb3 .u32 (zem a 2) (zem a 13)) (zem a 22)+zb3 .u32 (zb3 .u32 (zee .u32 a b) (zee .u32 a c)) (zee .u32 b c))
def ztC{γ:Type}(w:List Int)(κ:Int→Int→Int→Int→Int→Int→Int→Int→γ):Nat→Nat→Int→Int→Int→Int→Int→Int→Int→Int→γ
 | 0,_,a,b,c,d,e,f,g,h=>κ a b c d e f g h
 | m+1,t,a,b,c,d,e,f,g,h=>ztC w κ m (t+1) (QG .u32 (t1 e f g h (kc.getD t 0) (w.getD t 0)+t2 a b c)) a b c (QG .u32 (d+t1 e f g h (kc.getD t 0) (w.getD t 0))) e f g
theorem zwl{γ δ:Type}(u:γ→δ)(w:List Int)(κ:Int→Int→Int→Int→Int→Int→Int→Int→γ):∀ (m t:Nat) (a b c d e f g h:Int),ztC w (fun a b c d e f g h=>u (κ a b c d e f g h)) m t a b c d e f g h=u (ztC w κ m t a b c d e f g h)
 | 0,_,_,_,_,_,_,_,_,_=>rfl
 | m+1,t,a,b,c,d,e,f,g,h=>zwl u w κ m (t+1) _ _ _ _ _ _ _ _
theorem zFD{γ:Type}(u:γ)(w:List Int):∀ (m t:Nat) (a b c d e f g h:Int),ztC w (fun _ _ _ _ _ _ _ _=>u) m t a b c d e f g h=u
 | 0,_,_,_,_,_,_,_,_,_=>rfl
 | m+1,t,a,b,c,d,e,f,g,h=>zFD u w m (t+1) _ _ _ _ _ _ _ _
theorem zRQ{β:Type}(L:Nat){t:Nat}(ht:t<64)(a b c d e f g h:Int)(b2:List V)(z0 z1 z2 z3 z4 z5 z6 z7:Int){w:List Int}(hw:w.length=64)(kh:zhG β)(kx:zjb β):zcW xh L a b c d e f g h (t:Int) b2 z0 z1 z2 z3 z4 z5 z6 z7 (row .u32 w) kh kx=kh (QG .u32 (t1 e f g h (kc.getD t 0) (w.getD t 0)+t2 a b c)) a b c (QG .u32 (d+t1 e f g h (kc.getD t 0) (w.getD t 0))) e f g ((t+1:Nat):Int) b2 z0 z1 z2 z3 z4 z5 z6 z7 (row .u32 w):=by
 unfold zcW
 have c0:0≤(t:Int)∧(t:Int)<((64:Nat):Int):=by omega
 have ek:∀ κ:Int→Option β,cI .u32 (XN t gk_sha_k) 0 κ=κ (kc.getD t 0):=by
  intro κ
  rw [zSQ,zTT,zN (by rw [XU,zTo]; omega)]
  simp [Ws]
 rw [yv (by omega:(t:Int)<64)]
 simp only [zg,zb c0,zP5,XV,Yb,WB,ek,zN (show t<w.length by omega),xM (show t≤1000000000 by omega)]
 exact Eq.trans rfl rfl
theorem zQv{β:Type}(L:Nat){t:Nat}(ht:t<64)(a b c d e f g h:Int)(b2:List V)(z0 z1 z2 z3 z4 z5 z6 z7:Int){w:List Int}(hw:w.length=64)(kh:zgH β)(kx:zhk β):zcE zh L a b c d e f g h (t:Int) b2 z0 z1 z2 z3 z4 z5 z6 z7 (row .u32 w) gk_sha_k kh kx=kh (QG .u32 (t1 e f g h (kc.getD t 0) (w.getD t 0)+t2 a b c)) a b c (QG .u32 (d+t1 e f g h (kc.getD t 0) (w.getD t 0))) e f g ((t+1:Nat):Int) b2 z0 z1 z2 z3 z4 z5 z6 z7 (row .u32 w) gk_sha_k:=by
 unfold zcE
 have c0:0≤(t:Int)∧(t:Int)<((64:Nat):Int):=by omega
 have ek:∀ κ:Int→Option β,cI .u32 gk_sha_k t κ=κ (kc.getD t 0):=by
  intro κ
  rw [zSQ,zN (by rw [zTo]; omega)]
 rw [yv (by omega:(t:Int)<64)]
 simp only [zg,zb c0,zTE,XV,Yb,WB,ek,zN (show t<w.length by omega),xM (show t≤1000000000 by omega)]
 exact Eq.trans rfl rfl
theorem zKU{β:Type}(L:Nat)(b2:List V)(z0 z1 z2 z3 z4 z5 z6 z7:Int){w:List Int}(hw:w.length=64)(kx:zjb β):∀ (n m t:Nat) (a b c d e f g h:Int),t+m=64→m<n→zbW xh L kx n a b c d e f g h (t:Int) b2 z0 z1 z2 z3 z4 z5 z6 z7 (row .u32 w)=ztC w (fun a b c d e f g h=>kx a b c d e f g h b2 z0 z1 z2 z3 z4 z5 z6 z7) m t a b c d e f g h
 | 0,m,t,_,_,_,_,_,_,_,_,_,h=>by omega
 | n+1,0,t,a,b,c,d,e,f,g,h,h1,h2=>by
  unfold zbW zcW
  rw [zp (by omega)]; exact Eq.trans rfl rfl
 | n+1,m+1,t,a,b,c,d,e,f,g,h,h1,h2=>by
  unfold zbW
  rw [zRQ L (by omega) a b c d e f g h b2 z0 z1 z2 z3 z4 z5 z6 z7 hw]
  exact zKU L b2 z0 z1 z2 z3 z4 z5 z6 z7 hw kx n m (t+1) _ _ _ _ _ _ _ _ (by omega) (by omega)
theorem zH5{β:Type}(L:Nat)(b2:List V)(z0 z1 z2 z3 z4 z5 z6 z7:Int){w:List Int}(hw:w.length=64)(kx:zhk β):∀ (n m t:Nat) (a b c d e f g h:Int),t+m=64→m<n→zbw zh L kx n a b c d e f g h (t:Int) b2 z0 z1 z2 z3 z4 z5 z6 z7 (row .u32 w) gk_sha_k=ztC w (fun a b c d e f g h=>kx a b c d e f g h b2 z0 z1 z2 z3 z4 z5 z6 z7) m t a b c d e f g h
 | 0,m,t,_,_,_,_,_,_,_,_,_,h=>by omega
 | n+1,0,t,a,b,c,d,e,f,g,h,h1,h2=>by
  unfold zbw zcE
  rw [zp (by omega)]; exact Eq.trans rfl rfl
 | n+1,m+1,t,a,b,c,d,e,f,g,h,h1,h2=>by
  unfold zbw
  rw [zQv L (by omega) a b c d e f g h b2 z0 z1 z2 z3 z4 z5 z6 z7 hw]
  exact zH5 L b2 z0 z1 z2 z3 z4 z5 z6 z7 hw kx n m (t+1) _ _ _ _ _ _ _ _ (by omega) (by omega)
def ztI(hs:List Int)(a b c d e f g h:Int):List Int:=
 [QG .u32 (hs.getD 0 0+a),QG .u32 (hs.getD 1 0+b),QG .u32 (hs.getD 2 0+c),QG .u32 (hs.getD 3 0+d),QG .u32 (hs.getD 4 0+e),QG .u32 (hs.getD 5 0+f),QG .u32 (hs.getD 6 0+g),QG .u32 (hs.getD 7 0+h)]
def zzU(hs l:List Int):List Int:=
 ztC (znF l) (ztI hs) 64 0 (hs.getD 0 0) (hs.getD 1 0) (hs.getD 2 0) (hs.getD 3 0) (hs.getD 4 0) (hs.getD 5 0) (hs.getD 6 0) (hs.getD 7 0)
theorem znQ(hs l:List Int):(zzU hs l).length=8:=
 ((zwl XK (znF l) (ztI hs) 64 0 _ _ _ _ _ _ _ _).symm).trans (zFD 8 (znF l) 64 0 _ _ _ _ _ _ _ _)
theorem zUM{β:Type}(L:Nat){hs:List Int}(hh:hs.length=8)(k:List V→Option β)(a b c d e f g h z0 z1 z2 z3 z4 z5 z6 z7:Int):zdY L a b c d e f g h (row .u32 hs) z0 z1 z2 z3 z4 z5 z6 z7 k=k (row .u32 (ztI hs a b c d e f g h)):=by
 unfold zdY
 simp only [zg,zN (show 0<hs.length by omega),zN (show 1<hs.length by omega),zN (show 2<hs.length by omega),zN (show 3<hs.length by omega),zN (show 4<hs.length by omega),zN (show 5<hs.length by omega),zN (show 6<hs.length by omega),zN (show 7<hs.length by omega)]
 exact (zb ⟨trivial,rfl,by decide⟩ _).trans rfl
theorem zSw{β:Type}(L:Nat){hs:List Int}(hh:hs.length=8)(k:List V→Option β)(a b c d e f g h z0 z1 z2 z3 z4 z5 z6 z7:Int):zdt L a b c d e f g h (row .u32 hs) z0 z1 z2 z3 z4 z5 z6 z7 k=k (row .u32 (ztI hs a b c d e f g h)):=by
 unfold zdt
 simp only [zg,zN (show 0<hs.length by omega),zN (show 1<hs.length by omega),zN (show 2<hs.length by omega),zN (show 3<hs.length by omega),zN (show 4<hs.length by omega),zN (show 5<hs.length by omega),zN (show 6<hs.length by omega),zN (show 7<hs.length by omega)]
 exact (zb ⟨trivial,rfl,by decide⟩ _).trans rfl
theorem zOV{β:Type}{L:Nat}(hL:100≤L){hs l:List Int}(hh:hs.length=8)(hl:l.length=64)(hb:∀ x∈l,0≤x∧x≤255)(k:List V→Option β):yp β L (row .u32 hs) (row .u8 l) k=k (row .u32 (zzU hs l)):=by
 unfold yp zlN zq1
 have e1:XM 64 (row .u8 l)=row .u8 l:=XE (by rw [xk]; omega)
 rw [zb (by rw [xk]; omega),e1]
 refine (zO7 hL hl hb _).trans ?_
 rw [zb ⟨by rw [xk,ziu],by decide⟩,zg,zaj (by rw [xk,ziu]; rfl)]
 rw [zN (show 0<hs.length by omega),zN (show 1<hs.length by omega),zN (show 2<hs.length by omega),zN (show 3<hs.length by omega),zN (show 4<hs.length by omega),zN (show 5<hs.length by omega),zN (show 6<hs.length by omega),zN (show 7<hs.length by omega)]
 refine (zKU L (row .u32 hs) 0 0 0 0 0 0 0 0 (ziu l) _ L 64 0 _ _ _ _ _ _ _ _ rfl (by omega)).trans ?_
 simp only [zUM L hh]
 exact zwl (fun r=>k (row .u32 r)) (znF l) (ztI hs) 64 0 _ _ _ _ _ _ _ _
theorem zN6{β:Type}(L:Nat)(k:List V→Option β):zt β L k=k gk_sha_k:=by
 unfold zt zmB
 rw [zg]
 exact (zb ⟨rfl,rfl,by decide⟩ _).trans rfl
theorem zMX{β:Type}{L:Nat}(hL:100≤L){hs l:List Int}(hh:hs.length=8)(hl:l.length=64)(hb:∀ x∈l,0≤x∧x≤255)(k:List V→Option β):ym β L (row .u32 hs) (row .u8 l) k=k (row .u32 (zzU hs l)):=by
 unfold ym ziE znY
 have e1:XM 64 (row .u8 l)=row .u8 l:=XE (by rw [xk]; omega)
 rw [zb (by rw [xk]; omega),e1]
 refine (zMA hL hl hb _).trans ?_
 refine (zN6 L _).trans ?_
 rw [zb ⟨by rw [xk,ziu],by decide⟩,zg,zaj (cs:=We 64 (Qc (0:Int))) (new:=row .u32 (znF l)) (by rw [xk,ziu]; rfl)]
 rw [zb ⟨rfl,by decide⟩,zg,zaj (cs:=We 64 (Qc (0:Int))) (new:=gk_sha_k) rfl]
 rw [zN (show 0<hs.length by omega),zN (show 1<hs.length by omega),zN (show 2<hs.length by omega),zN (show 3<hs.length by omega),zN (show 4<hs.length by omega),zN (show 5<hs.length by omega),zN (show 6<hs.length by omega),zN (show 7<hs.length by omega)]
 refine (zH5 L (row .u32 hs) 0 0 0 0 0 0 0 0 (ziu l) _ L 64 0 _ _ _ _ _ _ _ _ rfl (by omega)).trans ?_
 simp only [zSw L hh]
 exact zwl (fun r=>k (row .u32 r)) (znF l) (ztI hs) 64 0 _ _ _ _ _ _ _ _
end
end Go.Proofs.YtgmhijonllockaaGreatDoor
