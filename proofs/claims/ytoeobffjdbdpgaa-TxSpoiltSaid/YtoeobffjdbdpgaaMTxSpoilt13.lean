/- Part 13 of the proof of TxSpoilt: an abstract machine over plain values, its soundness, and the functions of the program on plain values. -/
import Derived.Test.YtoeobffjdbdpgaaMTxSpoilt12
namespace Go.Proofs.Ytoeobffjdbdpgaa
set_option linter.unusedVariables false
set_option linter.unusedSimpArgs false
open List renaming length_append->Wm,length_map->QA,append_assoc->Wu,length_cons->XV,length_nil->XW,drop_of_length_le->WI,length->XM,drop_zero->XX,nil_append->XY,take->XN,mem_cons->Q8,replicate->We,set_append_right->XZ,append_nil->X0,map_cons->QV,mem_append->QC,singleton_append->X1,mem_map->Xn,getElem?_append_right->Wt,getElem_mem->W1,drop_eq_getElem_cons->WP,take_of_length_le->Xv,length_replicate->X3,map_append->X4,length_set->QH,map_congr_left->X5,getD_eq_getElem?_getD->Ws,flatten_cons->WK,getElem?_eq_getElem->Wc,drop_append->X6,map_nil->X7,map->Xu,range->Wy
open IntKind renaming wrap->QF
open Nat renaming mul_le_mul_right->WG,sub_zero->X2,zero_add->WB
open Bool renaming not_true->Xi,true_and->X8
section
set_option linter.unusedSectionVars false
set_option maxRecDepth 100000
variable {β:Type}
def zcn(h:List V)(ix sq:Int)(c:V):List V:=h++[V.sc (.int .u32 ix),V.sc (.int .u32 sq),c]
def zgs:V:=V.gs 1 ([]:List (List V))
theorem zdF{h:List V}(hl:h.length=32)(ix sq:Int)(c:V):(zcn h ix sq c).length=35:=by simp [zcn,hl]
theorem zx2{h:List V}(hl:h.length=32)(ix sq:Int)(c:V):XN 35 (zcn h ix sq c)=zcn h ix sq c:=Xv (by rw [zdF hl]; exact Nat.le_refl _)
theorem zMD{h:List V}(hl:h.length=32):xm (We 32 (Qa (0:Int))++[(Qc (0:Int)),(Qc (0:Int)),(V.gs 1 ([]:List (List V)))]) 0 h=zcn h 0 0 zgs:=by
 unfold xm zcn
 rw [hl,X6,X3]
 simp [zgs]
theorem zMG{h:List V}(hl:h.length=32)(ix sq x:Int)(c:V):xm (zcn h ix sq c) 32 [(Qc x)]=zcn h x sq c:=by
 rw [zqC (by rw [zdF hl]; omega)]
 unfold zcn
 rw [XZ _ _ (by omega),hl]
 rfl
theorem zJf{h:List V}(hl:h.length=32)(ix sq x:Int)(c:V):xm (zcn h ix sq c) 33 [(Qc x)]=zcn h ix x c:=by
 rw [zqC (by rw [zdF hl]; omega)]
 unfold zcn
 rw [XZ _ _ (by omega),hl]
 rfl
theorem zGd{h:List V}(hl:h.length=32)(ix sq:Int)(c:V):xm (We 32 (Qa (0:Int))++[(Qc (0:Int)),(Qc (0:Int)),(V.sl 1 ([]:List (List V)))]) 0 (zcn h ix sq c)=zcn h ix sq c:=zfH (by rw [zdF hl]; rfl)
theorem zJb{h:List V}(hl:h.length=32)(ix sq:Int)(c:V):xm (We 32 (Qa (0:Int))++[(Qc (0:Int)),(Qc (0:Int)),(V.gs 1 ([]:List (List V)))]) 0 (zcn h ix sq c)=zcn h ix sq c:=zfH (by rw [zdF hl]; rfl)
theorem zBM{h:List V}(hl:h.length=32)(ix sq:Int)(c:V):zl 35 1 (zcn h ix sq c)=[zcn h ix sq c]:=by
 unfold zl; rw [zx2 hl]; rfl
def zaS(x:Inp):List V:=zcn (row .u8 (x.pv.take 32)) (x.pv.getD 32 0) x.seq (V.gs 1 (zak x.wit))
theorem zHJ{h:List Int}(hl:h.length=32)(ix sq:Int):zaS ⟨h++[ix],sq,[]⟩=zcn (row .u8 h) ix sq zgs:=by
 unfold zaS
 rw [List.take_left' hl]
 simp [Ws,Wt,hl,zak,zgs]
section
variable {L:Nat} (p1 b4_0:Int) (b4_1 b4_2:List (List V)) (b4_3 b10_0:Int) (b10_2:List (List V)) (b10_3:Int)
theorem zFI{n i:Nat}(hi:i<n)(hn:n≤64)(R J:List (List V))(hR:R.length≤64)(at_ f:Int)(kh:zgd β)(kx:zjq β) :
  zdj yc xf xb xa yf L p1 (n:Int) (i:Int) b4_0 b4_1 b4_2 b4_3 b10_0 R b10_2 b10_3 J at_ f kh kx =
  xb β L J at_ f (fun v8 v9 v10 v11=>chk ((XM v8)=32∧0+32≤35) (yc β L v9 v10 v11 (fun v13 v14 v15 v16=>yc β L v14 v15 v16 (fun v18 v19 v20 v21=>
   kh p1 (n:Int) ((i+1:Nat):Int) b4_0 b4_1 b4_2 b4_3 b10_0 (R++[zcn v8 v13 v18 zgs]) b10_2 b10_3 v19 v20 v21)))):=by
 have hs:(100000000:Nat)≤yn:=by decide
 unfold zdj
 rw [zG (by omega)]
 congr 1
 funext v8 v9 v10 v11
 by_cases h:(XM v8)=32∧0+32≤35
 ·have hl:=h.1
  rw [zj h,zj h,zk,zMD hl]
  congr 1
  funext v13 v14 v15 v16
  rw [zj (by rw [zdF hl]; omega),zMG hl,zk]
  congr 1
  funext v18 v19 v20 v21
  rw [zj (by rw [zdF hl]; omega),zJf hl,zk,zx2 hl,zGd hl,zBM hl,zj (by rw [zdF hl]; omega),zj (by rw [zdF hl]; omega),zj (by simp only [XV,XW]; omega),zk,zaM (by omega),zk]
 ·rw [zf3,zf3,if_neg h,if_neg h]
theorem zHp{n i:Nat}(hi:¬ i<n)(R J:List (List V))(at_ f:Int)(kh:zgd β)(kx:zjq β) :
  zdj yc xf xb xa yf L p1 (n:Int) (i:Int) b4_0 b4_1 b4_2 b4_3 b10_0 R b10_2 b10_3 J at_ f kh kx=kx p1 b4_0 b4_1 b4_2 b4_3 b10_0 R b10_2 b10_3 J at_ f:=by
 unfold zdj
 rw [xz (by omega)]
theorem zBS:(XM zbF)=32∧0+32≤35:=by simp [zbF]
theorem zzi{n:Nat}(hn:n≤64)(J:List (List V))(at_:Int){e:Int}(he:e≠0)(kx:zjq β):∀ (m i:Nat) (R:List (List V)),R.length=i→i≤n→n-i<m →
  ∃ R':List (List V),R'.length=n∧y6 yc xf xb xa yf L kx m p1 (n:Int) (i:Int) b4_0 b4_1 b4_2 b4_3 b10_0 R b10_2 b10_3 J at_ e=kx p1 b4_0 b4_1 b4_2 b4_3 b10_0 R' b10_2 b10_3 J at_ e
 | 0,i,R,h1,h2,h3=>by omega
 | m+1,i,R,h1,h2,h3=>by
  by_cases hi:i<n
  ·obtain ⟨R',e1,e2⟩:=zzi hn J at_ he kx m (i+1) (R++[zcn zbF 0 0 zgs]) (by simp [h1]) (by omega) (by omega)
   refine ⟨R',e1,?_⟩
   rw [y6,zFI (hi:=hi) (hn:=hn) (hR:=by omega),zMC L J he,zj zBS,zsx L J he,zsx L J he]
   exact e2
  ·refine ⟨R,by omega,?_⟩
   rw [y6,zHp (hi:=hi)]
end
end
section
set_option linter.unusedSectionVars false
set_option maxRecDepth 100000
variable {β:Type}
section
variable {L:Nat} (hL:20≤L) {j:List Int} (hb:Byt j) (hj:j.length≤100000000) {a:Nat} (ha:a≤j.length)
include hL hb hj ha
theorem zMR(k:Int→List (List V)→Int→Int→Option β):xf β L (64:Int) (yk .u8 j) a 0 k=zdZ (zbP j 64 a) (fun v a'=>k v (yk .u8 j) a' 0) (fun e=>k 0 (yk .u8 j) a e):=zLc hL hb hj ha 64 (by decide) k
theorem zNx(k:Int→List (List V)→Int→Int→Option β):xf β L (32:Int) (yk .u8 j) a 0 k=zdZ (zbP j 32 a) (fun v a'=>k v (yk .u8 j) a' 0) (fun e=>k 0 (yk .u8 j) a e):=zLc hL hb hj ha 32 (by decide) k
theorem zLs(k1 k2:List (List V)→List (List V)→Int→Int→Option β):yf β L (520:Int) (yk .u8 j) a 0 k1 k2=zdZ (zc7 j 520 a) (fun v a'=>k2 (yk .u8 v) (yk .u8 j) a' 0) (fun e=>k1 [] (yk .u8 j) a e):=zNk hL hb hj ha 520 (by decide) k1 k2
theorem zMz(k:Int→List (List V)→Int→Int→Option β):yb β L (64:Int) (yk .u8 j) a 0 k=zdZ (zbP j 64 a) (fun v a'=>k v (yk .u8 j) a' 0) (fun e=>k 0 (yk .u8 j) 0 e):=zLr hL hb hj ha 64 (by decide) k
theorem zNK(k:Int→List (List V)→Int→Int→Option β):yb β L (32:Int) (yk .u8 j) a 0 k=zdZ (zbP j 32 a) (fun v a'=>k v (yk .u8 j) a' 0) (fun e=>k 0 (yk .u8 j) 0 e):=zLr hL hb hj ha 32 (by decide) k
theorem zLe(k1 k2:List (List V)→List (List V)→Int→Int→Option β):za β L (520:Int) (yk .u8 j) a 0 k1 k2=zdZ (zc7 j 520 a) (fun v a'=>k2 (yk .u8 v) (yk .u8 j) a' 0) (fun e=>k2 [] (yk .u8 j) 0 e):=zM1 hL hb hj ha 520 (by decide) k1 k2
end
section
variable {L:Nat} (hL:20≤L) {j:List Int} (hb:Byt j) (hj:j.length≤100000000)
variable (p1 b4_0:Int) (b4_1 b4_2:List (List V)) (b4_3 b10_0:Int) (b10_2:List (List V)) (b10_3:Int)
include hL hb hj
theorem zJH{n:Nat}(hn:n≤64)(kx:zjq β):∀ (m i a:Nat) (xs:List Inp),xs.length=i→i≤n→n-i<m→a≤j.length →
  (∃ ys a',zhH j (n-i) a=.ok (ys,a')∧y6 yc xf xb xa yf L kx m p1 (n:Int) (i:Int) b4_0 b4_1 b4_2 b4_3 b10_0 (xs.map zaS) b10_2 b10_3 (yk .u8 j) (a:Int) 0=kx p1 b4_0 b4_1 b4_2 b4_3 b10_0 ((xs++ys).map zaS) b10_2 b10_3 (yk .u8 j) (a':Int) 0) ∨
  (∃ e R at_,zhH j (n-i) a=.error e∧e≠0∧R.length=n∧y6 yc xf xb xa yf L kx m p1 (n:Int) (i:Int) b4_0 b4_1 b4_2 b4_3 b10_0 (xs.map zaS) b10_2 b10_3 (yk .u8 j) (a:Int) 0=kx p1 b4_0 b4_1 b4_2 b4_3 b10_0 R b10_2 b10_3 (yk .u8 j) at_ e)
 | 0,i,a,xs,h1,h2,h3,ha=>by omega
 | m+1,i,a,xs,h1,h2,h3,ha=>by
  by_cases hi:i<n
  ·have hn1:n-i=(n-(i+1))+1:=by omega
   rw [hn1,y6,zFI (hi:=hi) (hn:=hn) (hR:=by rw [QA]; omega),zNf hL hb hj ha]
   have bad:∀ (e:Int) (he:e≠0) (at_:Int) (r:List V),∃ R':List (List V),R'.length=n∧y6 yc xf xb xa yf L kx m p1 (n:Int) ((i+1:Nat):Int) b4_0 b4_1 b4_2 b4_3 b10_0 (xs.map zaS++[r]) b10_2 b10_3 (yk .u8 j) at_ e=kx p1 b4_0 b4_1 b4_2 b4_3 b10_0 R' b10_2 b10_3 (yk .u8 j) at_ e:=fun e he at_ r=>
    zzi p1 b4_0 b4_1 b4_2 b4_3 b10_0 b10_2 b10_3 hn (yk .u8 j) at_ he kx m (i+1) _ (by simp [h1]) (by omega) (by omega)
   cases e1:zhN j a with
   | error e=>
    have he:=zAl e1
    obtain ⟨R',q1,q2⟩:=bad e he (a:Int) (zcn zbF 0 0 zgs)
    refine .inr ⟨e,R',(a:Int),by simp only [zhH,gIn,e1],he,q1,?_⟩
    rw [y9,zj zBS,zsx L _ he,zsx L _ he]
    exact q2
   | ok p=>
    obtain ⟨h,a1⟩:=p
    obtain ⟨k1,k2⟩:=zs2 e1
    rw [zaa,zj (by rw [zcd]; omega),zE7 hL hb hj k1]
    cases e2:gN j 4 a1 with
    | error e=>
     have he:=zp2 e2
     obtain ⟨R',q1,q2⟩:=bad e he (a1:Int) (zcn (row .u8 h) 0 0 zgs)
     refine .inr ⟨e,R',(a1:Int),by simp only [zhH,gIn,e1,e2],he,q1,?_⟩
     rw [y9,zsx L _ he]
     exact q2
    | ok p=>
     obtain ⟨ix,a2⟩:=p
     have k3:=zhU e2
     rw [zaa,zE7 hL hb hj k3]
     cases e3:gN j 4 a2 with
     | error e=>
      have he:=zp2 e3
      obtain ⟨R',q1,q2⟩:=bad e he (a2:Int) (zcn (row .u8 h) ix 0 zgs)
      refine .inr ⟨e,R',(a2:Int),by simp only [zhH,gIn,e1,e2,e3],he,q1,?_⟩
      rw [y9]
      exact q2
     | ok p=>
      obtain ⟨sq,a3⟩:=p
      have k4:=zhU e3
      have hrow:xs.map zaS++[zcn (row .u8 h) (ix:Int) (sq:Int) zgs]=(xs++[(⟨h++[(ix:Int)],sq,[]⟩:Inp)]).map zaS:=by rw [X4,QV,X7,zHJ k2]
      rw [zaa,hrow]
      rcases zJH hn kx m (i+1) a3 (xs++[(⟨h++[(ix:Int)],sq,[]⟩:Inp)]) (by simp [h1]) (by omega) (by omega) k4 with ⟨ys,a',q1,q2⟩ | ⟨e,R,at_,q1,q2,q3,q4⟩
      ·refine .inl ⟨(⟨h++[(ix:Int)],sq,[]⟩:Inp)::ys,a',by simp only [zhH,gIn,e1,e2,e3,q1],?_⟩
       rw [q2,Wu]
       rfl
      ·exact .inr ⟨e,R,at_,by simp only [zhH,gIn,e1,e2,e3,q1],q2,q3,q4⟩
  ·have hn0:n-i=0:=by omega
   refine .inl ⟨[],a,by rw [hn0]; rfl,?_⟩
   rw [y6,zHp (hi:=hi),X0]
end
section
variable {L:Nat} (p1 b4_0:Int) (b4_1 b4_2:List (List V)) (b4_3 b10_0:Int) (b10_1:List (List V)) (b10_3:Int)
theorem zEl{n i:Nat}(hi:i<n)(hn:n≤64)(O J:List (List V))(hO:O.length≤64)(at_ f:Int)(kh:zfr β)(kx:zjn β) :
  zc3 yc xf xb xa yf L p1 (n:Int) (i:Int) b4_0 b4_1 b4_2 b4_3 b10_0 b10_1 O b10_3 J at_ f kh kx =
  xa β L J at_ f (fun v29 v30 v31 v32=>yf β L (520:Int) v30 v31 (if v29≥(9223372036854775808:Int) then 90 else v32)
   (fun v34 v35 v36 v37=>kh p1 (n:Int) ((i+1:Nat):Int) b4_0 b4_1 b4_2 b4_3 b10_0 b10_1 (O++[[(Qe (QF .i64 v29)),(V.sl 1 v34)]]) b10_3 v35 v36 v37)
   (fun v34 v35 v36 v37=>kh p1 (n:Int) ((i+1:Nat):Int) b4_0 b4_1 b4_2 b4_3 b10_0 b10_1 (O++[[(Qe (QF .i64 v29)),(V.sl 1 v34)]]) b10_3 v35 v36 v37)):=by
 have hs:(100000000:Nat)≤yn:=by decide
 have hc:∀ (x y:V),zl 2 1 [x,y]=[[x,y]]:=fun x y=>rfl
 unfold zc3
 rw [zG (by omega)]
 congr 1
 funext v29 v30 v31 v32
 rw [zbc]
 by_cases h:v29≥(9223372036854775808:Int)
 ·rw [if_pos h,if_pos h,zk]
  congr 1
  ·funext v34 v35 v36 v37
   rw [hc,zj (by simp only [XV,XW]; omega),zk,zaM (by omega),zk]
  ·funext v34 v35 v36 v37
   rw [hc,zj (by simp only [XV,XW]; omega),zk,zaM (by omega),zk]
 ·rw [if_neg h,if_neg h,zk]
  congr 1
  ·funext v34 v35 v36 v37
   rw [hc,zj (by simp only [XV,XW]; omega),zk,zaM (by omega),zk]
  ·funext v34 v35 v36 v37
   rw [hc,zj (by simp only [XV,XW]; omega),zk,zaM (by omega),zk]
theorem zGl{n i:Nat}(hi:¬ i<n)(O J:List (List V))(at_ f:Int)(kh:zfr β)(kx:zjn β) :
  zc3 yc xf xb xa yf L p1 (n:Int) (i:Int) b4_0 b4_1 b4_2 b4_3 b10_0 b10_1 O b10_3 J at_ f kh kx=kx p1 b4_0 b4_1 b4_2 b4_3 b10_0 b10_1 O b10_3 J at_ f:=by
 unfold zc3
 rw [xz (by omega)]
theorem zsF{n:Nat}(hn:n≤64)(J:List (List V))(at_:Int){e:Int}(he:e≠0)(kx:zjn β):∀ (m i:Nat) (O:List (List V)),O.length=i→i≤n→n-i<m →
  ∃ O':List (List V),zaj yc xf xb xa yf L kx m p1 (n:Int) (i:Int) b4_0 b4_1 b4_2 b4_3 b10_0 b10_1 O b10_3 J at_ e=kx p1 b4_0 b4_1 b4_2 b4_3 b10_0 b10_1 O' b10_3 J at_ e
 | 0,i,O,h1,h2,h3=>by omega
 | m+1,i,O,h1,h2,h3=>by
  by_cases hi:i<n
  ·obtain ⟨O',e2⟩:=zsF hn J at_ he kx m (i+1) (O++[[(Qe (QF .i64 0)),(V.sl 1 [])]]) (by simp [h1]) (by omega) (by omega)
   refine ⟨O',?_⟩
   rw [zaj,zEl (hi:=hi) (hn:=hn) (hO:=by omega),zMU L J he,if_neg (by decide),zBl L J he]
   exact e2
  ·refine ⟨O,?_⟩
   rw [zaj,zGl (hi:=hi)]
end
section
variable {L:Nat} (hL:20≤L) {j:List Int} (hb:Byt j) (hj:j.length≤100000000)
variable (p1 b4_0:Int) (b4_1 b4_2:List (List V)) (b4_3 b10_0:Int) (b10_1:List (List V)) (b10_3:Int)
include hL hb hj
theorem zHo{n:Nat}(hn:n≤64)(kx:zjn β):∀ (m i a:Nat) (xs:List Outp),xs.length=i→i≤n→n-i<m→a≤j.length →
  (∃ ys a',zd9 j (n-i) a=.ok (ys,a')∧zaj yc xf xb xa yf L kx m p1 (n:Int) (i:Int) b4_0 b4_1 b4_2 b4_3 b10_0 b10_1 (xs.map zaL) b10_3 (yk .u8 j) (a:Int) 0=kx p1 b4_0 b4_1 b4_2 b4_3 b10_0 b10_1 ((xs++ys).map zaL) b10_3 (yk .u8 j) (a':Int) 0) ∨
  (∃ e O at_,zd9 j (n-i) a=.error e∧e≠0∧zaj yc xf xb xa yf L kx m p1 (n:Int) (i:Int) b4_0 b4_1 b4_2 b4_3 b10_0 b10_1 (xs.map zaL) b10_3 (yk .u8 j) (a:Int) 0=kx p1 b4_0 b4_1 b4_2 b4_3 b10_0 b10_1 O b10_3 (yk .u8 j) at_ e)
 | 0,i,a,xs,h1,h2,h3,ha=>by omega
 | m+1,i,a,xs,h1,h2,h3,ha=>by
  by_cases hi:i<n
  ·have hn1:n-i=(n-(i+1))+1:=by omega
   rw [hn1,zaj,zEl (hi:=hi) (hn:=hn) (hO:=by rw [QA]; omega),zM3 hL hb hj ha]
   have bad:∀ (e:Int) (he:e≠0) (at_:Int) (r:List V),∃ O':List (List V),zaj yc xf xb xa yf L kx m p1 (n:Int) ((i+1:Nat):Int) b4_0 b4_1 b4_2 b4_3 b10_0 b10_1 (xs.map zaL++[r]) b10_3 (yk .u8 j) at_ e=kx p1 b4_0 b4_1 b4_2 b4_3 b10_0 b10_1 O' b10_3 (yk .u8 j) at_ e:=fun e he at_ r=>
    zsF p1 b4_0 b4_1 b4_2 b4_3 b10_0 b10_1 b10_3 hn (yk .u8 j) at_ he kx m (i+1) _ (by simp [h1]) (by omega) (by omega)
   cases e1:gN j 8 a with
   | error e=>
    have he:=zp2 e1
    obtain ⟨O',q2⟩:=bad e he (a:Int) [(Qe (QF .i64 0)),(V.sl 1 [])]
    refine .inr ⟨e,O',(a:Int),by simp only [zd9,zlL,e1],he,?_⟩
    rw [y9,if_neg (by decide),zBl L _ he]
    exact q2
   | ok p=>
    obtain ⟨v,a1⟩:=p
    have k1:=zhU e1
    rw [zaa]
    by_cases hv:v≥9223372036854775808
    ·obtain ⟨O',q2⟩:=bad 90 (by decide) (a1:Int) [(Qe (QF .i64 v)),(V.sl 1 [])]
     refine .inr ⟨90,O',(a1:Int),by simp only [zd9,zlL,e1,if_pos hv],by decide,?_⟩
     rw [if_pos (by omega),zBl L _ (by decide)]
     exact q2
    ·rw [if_neg (by omega),yH (by omega) (by omega),zLs hL hb hj k1]
     cases e2:zc7 j 520 a1 with
     | error e=>
      have he:=zqA e2
      obtain ⟨O',q2⟩:=bad e he (a1:Int) [(Qe v),(V.sl 1 [])]
      refine .inr ⟨e,O',(a1:Int),by simp only [zd9,zlL,e1,if_neg hv,e2],he,?_⟩
      rw [y9]
      exact q2
     | ok p=>
      obtain ⟨sc,a2⟩:=p
      have k2:=(zqt e2).1
      have hrow:xs.map zaL++[[(Qe (v:Int)),(V.sl 1 (yk .u8 sc))]]=(xs++[(⟨v,sc⟩:Outp)]).map zaL:=by rw [X4,QV,X7]; rfl
      rw [zaa,hrow]
      rcases zHo hn kx m (i+1) a2 (xs++[(⟨v,sc⟩:Outp)]) (by simp [h1]) (by omega) (by omega) k2 with ⟨ys,a',q1,q2⟩ | ⟨e,O,at_,q1,q2,q3⟩
      ·refine .inl ⟨(⟨v,sc⟩:Outp)::ys,a',by simp only [zd9,zlL,e1,if_neg hv,e2,q1],?_⟩
       rw [q2,Wu]
       rfl
      ·exact .inr ⟨e,O,at_,by simp only [zd9,zlL,e1,if_neg hv,e2,q1],q2,q3⟩
  ·have hn0:n-i=0:=by omega
   refine .inl ⟨[],a,by rw [hn0]; rfl,?_⟩
   rw [zaj,zGl (hi:=hi),X0]
end
end
section
set_option linter.unusedSectionVars false
set_option maxRecDepth 100000
variable {β:Type}
theorem zMI{h:List V}(hl:h.length=32):xm (We 32 (Qa (0:Int))++[(Qc (0:Int))]) 0 h=h++[V.sc (.int .u32 0)]:=by
 unfold xm
 rw [hl,X6,X3]
 simp
theorem zMl{h:List V}(hl:h.length=32)(x:Int):xm (h++[V.sc (.int .u32 0)]) 32 [(Qc x)]=h++[V.sc (.int .u32 x)]:=by
 rw [zqC (by simp [hl]),XZ _ _ (by omega),hl]
 rfl
theorem zMt{h:List V}(hl:h.length=32)(x:Int):xm (We 32 (Qa (0:Int))++[(Qc (0:Int)),(Qc (0:Int)),(V.gs 1 ([]:List (List V)))]) 0 (h++[V.sc (.int .u32 x)])=zcn h x 0 zgs:=by
 unfold xm zcn
 rw [Wm,hl,X6,X3]
 simp [zgs]
section
variable {L:Nat} (p1 b4_0:Int) (b4_1 b4_2:List (List V)) (b4_3 b8_0:Int) (b8_2:List (List V)) (b8_3:Int)
theorem zK8(m:Nat)(R J:List (List V))(hm:m≤64)(hR:R.length≤64)(at_:Int)(kh:zfl β)(kx:ziu β) :
  zc4 zb yb zc ya za L p1 ((m+1:Nat):Int) b4_0 b4_1 b4_2 b4_3 b8_0 R b8_2 b8_3 J at_ 0 kh kx =
  zc β L J at_ 0 (fun v10 v11 v12 v13=>zb β L v11 v12 v13 (fun v14 v15 v16 v17=>chk ((XM v10)=32∧0+32≤33) (zb β L v15 v16 v17 (fun v18 v19 v20 v21=>
   kh p1 (m:Int) b4_0 b4_1 b4_2 b4_3 b8_0 (R++[zcn v10 v14 v18 zgs]) b8_2 b8_3 v19 v20 v21)))):=by
 have hs:(100000000:Nat)≤yn:=by decide
 unfold zc4
 rw [zG (by omega),zaJ rfl]
 congr 1
 funext v10 v11 v12 v13
 congr 1
 funext v14 v15 v16 v17
 by_cases h:(XM v10)=32∧0+32≤33
 ·have hl:=h.1
  rw [zj h,zj h,zMI hl,zj (by simp [hl]),zMl hl,zj (by simp [hl]),zMt hl,zj (by rw [zdF hl]; omega),zJb hl,zk]
  congr 1
  funext v18 v19 v20 v21
  rw [zj (by rw [zdF hl]; omega),zJf hl,zk,zx2 hl,zGd hl,zBM hl,zj (by rw [zdF hl]; omega),zj (by rw [zdF hl]; omega),zj (by simp only [XV,XW]; omega),zk,yH (by omega) (by omega),zk,show ((m+1:Nat):Int)-1=(m:Int) by omega]
 ·simp only [zf3,if_neg h]
theorem zDq(R J:List (List V))(at_ f:Int)(n:Int)(hf:¬ n>0∨f≠0)(kh:zfl β)(kx:ziu β) :
  zc4 zb yb zc ya za L p1 n b4_0 b4_1 b4_2 b4_3 b8_0 R b8_2 b8_3 J at_ f kh kx=kx p1 b4_0 b4_1 b4_2 b4_3 b8_0 R b8_2 b8_3 J at_ f:=by
 unfold zc4
 by_cases h:n>0
 ·rw [zG h,zag (hf.resolve_left (fun hh=>hh h))]
 ·rw [xz h]
theorem zG4:(XM zbF)=32∧0+32≤33:=by simp [zbF]
variable (hL:20≤L) {j:List Int} (hb:Byt j) (hj:j.length≤100000000)
include hL hb hj
theorem zI2(kx:ziu β):∀ (fu m a:Nat) (xs:List Inp),xs.length+m≤64→m+1<fu→a≤j.length →
  (∃ ys a',zhH j m a=.ok (ys,a')∧zah zb yb zc ya za L kx fu p1 (m:Int) b4_0 b4_1 b4_2 b4_3 b8_0 (xs.map zaS) b8_2 b8_3 (yk .u8 j) (a:Int) 0=kx p1 b4_0 b4_1 b4_2 b4_3 b8_0 ((xs++ys).map zaS) b8_2 b8_3 (yk .u8 j) (a':Int) 0) ∨
  (∃ e R at_,zhH j m a=.error e∧e≠0∧R.length≤64∧zah zb yb zc ya za L kx fu p1 (m:Int) b4_0 b4_1 b4_2 b4_3 b8_0 (xs.map zaS) b8_2 b8_3 (yk .u8 j) (a:Int) 0=kx p1 b4_0 b4_1 b4_2 b4_3 b8_0 R b8_2 b8_3 (yk .u8 j) at_ e)
 | 0,m,a,xs,h1,h2,ha=>by omega
 | fu+1,0,a,xs,h1,h2,ha=>by
  refine .inl ⟨[],a,rfl,?_⟩
  rw [zah,zDq (hf:=.inl (by decide)),X0]
 | fu+1,m+1,a,xs,h1,h2,ha=>by
  rw [zah,zK8 (hm:=by omega) (hR:=by rw [QA]; omega),zNd hL hb hj ha]
  have bad:∀ (e:Int) (he:e≠0) (at_:Int) (r:List V),zah zb yb zc ya za L kx fu p1 (m:Int) b4_0 b4_1 b4_2 b4_3 b8_0 (xs.map zaS++[r]) b8_2 b8_3 (yk .u8 j) at_ e=kx p1 b4_0 b4_1 b4_2 b4_3 b8_0 (xs.map zaS++[r]) b8_2 b8_3 (yk .u8 j) at_ e:=fun e he at_ r=>by
   obtain ⟨f2,rfl⟩:∃ f2,fu=f2+1:=⟨fu-1,by omega⟩
   rw [zah,zDq (hf:=.inr he)]
  have hlen:∀ r:List V,(xs.map zaS++[r]).length≤64:=fun r=>by simp; omega
  cases e1:zhN j a with
  | error e=>
   have he:=zAl e1
   refine .inr ⟨e,_,0,by simp only [zhH,gIn,e1],he,hlen (zcn zbF 0 0 zgs),?_⟩
   rw [y9,zCg L _ he,zj zG4,zCg L _ he]
   exact bad e he 0 _
  | ok p=>
   obtain ⟨h,a1⟩:=p
   obtain ⟨k1,k2⟩:=zs2 e1
   rw [zaa,zFd hL hb hj k1]
   cases e2:gN j 4 a1 with
   | error e=>
    have he:=zp2 e2
    refine .inr ⟨e,_,0,by simp only [zhH,gIn,e1,e2],he,hlen (zcn (row .u8 h) 0 0 zgs),?_⟩
    rw [y9,zj (by rw [zcd]; omega),zCg L _ he]
    exact bad e he 0 _
   | ok p=>
    obtain ⟨ix,a2⟩:=p
    have k3:=zhU e2
    rw [zaa,zj (by rw [zcd]; omega),zFd hL hb hj k3]
    cases e3:gN j 4 a2 with
    | error e=>
     have he:=zp2 e3
     refine .inr ⟨e,_,0,by simp only [zhH,gIn,e1,e2,e3],he,hlen (zcn (row .u8 h) ix 0 zgs),?_⟩
     rw [y9]
     exact bad e he 0 _
    | ok p=>
     obtain ⟨sq,a3⟩:=p
     have k4:=zhU e3
     have hrow:xs.map zaS++[zcn (row .u8 h) (ix:Int) (sq:Int) zgs]=(xs++[(⟨h++[(ix:Int)],sq,[]⟩:Inp)]).map zaS:=by rw [X4,QV,X7,zHJ k2]
     rw [zaa,hrow]
     rcases zI2 kx fu m a3 (xs++[(⟨h++[(ix:Int)],sq,[]⟩:Inp)]) (by simp; omega) (by omega) k4 with ⟨ys,a',q1,q2⟩ | ⟨e,R,at_,q1,q2,q3,q4⟩
     ·refine .inl ⟨(⟨h++[(ix:Int)],sq,[]⟩:Inp)::ys,a',by simp only [zhH,gIn,e1,e2,e3,q1],?_⟩
      rw [q2,Wu]
      rfl
     ·exact .inr ⟨e,R,at_,by simp only [zhH,gIn,e1,e2,e3,q1],q2,q3,q4⟩
end
section
variable {L:Nat} (hL:20≤L) {j:List Int} (hb:Byt j) (hj:j.length≤100000000)
include hL hb hj
theorem zLC{a:Nat}(ha:a≤j.length)(k:List V→List (List V)→Int→Int→Option β) :
  (∃ o a',zlL j a=.ok (o,a')∧ya β L (yk .u8 j) (a:Int) 0 k=k (zaL o) (yk .u8 j) (a':Int) 0) ∨
  (∃ e o at_,zlL j a=.error e∧e≠0∧ya β L (yk .u8 j) (a:Int) 0 k=k (zaL o) (yk .u8 j) at_ e):=by
 have hz:∀ (x:Int) (s:List Int) (K:Option β),chk (0=0∧(XM [(Qe x),(V.sl 1 (yk .u8 s))])=2∧2≠0) K=K:=fun x s K=>zj (by simp) K
 have hn:([]:List (List V))=yk .u8 []:=rfl
 unfold ya zib
 rw [zNm hL hb hj ha]
 cases e1:gN j 8 a with
 | error e=>
  have he:=zp2 e1
  refine .inr ⟨e,⟨0,[]⟩,0,by simp only [zlL,e1],he,?_⟩
  rw [y9,zag he,yH (by decide) (by decide),zk,zJu L _ he,zk,hn,hz]
  rfl
 | ok p=>
  obtain ⟨v,a1⟩:=p
  have k1:=zhU e1
  rw [zaa,zaJ rfl,zbc]
  by_cases hv:v≥9223372036854775808
  ·refine .inr ⟨90,⟨QF .i64 v,[]⟩,(a1:Int),by simp only [zlL,e1,if_pos hv],by decide,?_⟩
   rw [if_pos (by omega),zk,zJu L _ (by decide),zk,hn,hz]
   rfl
  ·rw [if_neg (by omega),yH (by omega) (by omega),zk,zLe hL hb hj k1]
   cases e2:zc7 j 520 a1 with
   | error e=>
    refine .inr ⟨e,⟨v,[]⟩,0,by simp only [zlL,e1,if_neg hv,e2],zqA e2,?_⟩
    rw [y9,zk,hn,hz]
    rfl
   | ok p=>
    obtain ⟨s,a2⟩:=p
    refine .inl ⟨⟨v,s⟩,a2,by simp only [zlL,e1,if_neg hv,e2],?_⟩
    rw [zaa,zk,hz]
    rfl
end
theorem zHL{j:List Int}{a a':Nat}{o:Outp}(h:zlL j a=.ok (o,a')):a'≤j.length:=by
 unfold zlL at h
 split at h
 ·cases h
 ·split at h
  ·cases h
  ·split at h
   ·cases h
   ·rename_i hz; cases h; exact (zqt hz).1
section
variable {L:Nat} (p1 b4_0:Int) (b4_1 b4_2:List (List V)) (b4_3 b8_0:Int) (b8_1:List (List V)) (b8_3:Int)
theorem zKT(m:Nat)(O J:List (List V))(hm:m≤64)(hO:O.length≤64)(at_:Int)(kh:zeS β)(kx:zh5 β) :
  zcQ zb yb zc ya za L p1 ((m+1:Nat):Int) b4_0 b4_1 b4_2 b4_3 b8_0 b8_1 O b8_3 J at_ 0 kh kx =
  ya β L J at_ 0 (fun v30 v31 v32 v33=>chk ((XM v30)=2∧0+2≤2) (kh p1 (m:Int) b4_0 b4_1 b4_2 b4_3 b8_0 b8_1 (O++[v30]) b8_3 v31 v32 v33)):=by
 have hs:(100000000:Nat)≤yn:=by decide
 unfold zcQ
 rw [zG (by omega),zaJ rfl]
 congr 1
 funext v30 v31 v32 v33
 by_cases h:(XM v30)=2∧0+2≤2
 ·have hc:zl 2 1 v30=[v30]:=by unfold zl; rw [Xv (by omega)]; rfl
  rw [zj h,zj h,zfH (new:=v30) (by simp [h.1]),hc,zj (by simp only [XV,XW]; omega),zk,yH (by omega) (by omega),zk,show ((m+1:Nat):Int)-1=(m:Int) by omega]
 ·simp only [zf3,if_neg h]
theorem zzr(O J:List (List V))(at_ f:Int)(n:Int)(hf:¬ n>0∨f≠0)(kh:zeS β)(kx:zh5 β) :
  zcQ zb yb zc ya za L p1 n b4_0 b4_1 b4_2 b4_3 b8_0 b8_1 O b8_3 J at_ f kh kx=kx p1 b4_0 b4_1 b4_2 b4_3 b8_0 b8_1 O b8_3 J at_ f:=by
 unfold zcQ
 by_cases h:n>0
 ·rw [zG h,zag (hf.resolve_left (fun hh=>hh h))]
 ·rw [xz h]
variable (hL:20≤L) {j:List Int} (hb:Byt j) (hj:j.length≤100000000)
include hL hb hj
theorem zI0(kx:zh5 β):∀ (fu m a:Nat) (xs:List Outp),xs.length+m≤64→m+1<fu→a≤j.length →
  (∃ ys a',zd9 j m a=.ok (ys,a')∧z5 zb yb zc ya za L kx fu p1 (m:Int) b4_0 b4_1 b4_2 b4_3 b8_0 b8_1 (xs.map zaL) b8_3 (yk .u8 j) (a:Int) 0=kx p1 b4_0 b4_1 b4_2 b4_3 b8_0 b8_1 ((xs++ys).map zaL) b8_3 (yk .u8 j) (a':Int) 0) ∨
  (∃ e O at_,zd9 j m a=.error e∧e≠0∧z5 zb yb zc ya za L kx fu p1 (m:Int) b4_0 b4_1 b4_2 b4_3 b8_0 b8_1 (xs.map zaL) b8_3 (yk .u8 j) (a:Int) 0=kx p1 b4_0 b4_1 b4_2 b4_3 b8_0 b8_1 O b8_3 (yk .u8 j) at_ e)
 | 0,m,a,xs,h1,h2,ha=>by omega
 | fu+1,0,a,xs,h1,h2,ha=>by
  refine .inl ⟨[],a,rfl,?_⟩
  rw [z5,zzr (hf:=.inl (by decide)),X0]
 | fu+1,m+1,a,xs,h1,h2,ha=>by
  rw [z5,zKT (hm:=by omega) (hO:=by rw [QA]; omega)]
  rcases zLC hL hb hj ha _ with ⟨o,a1,e1,q⟩ | ⟨e,o,at_,e1,he,q⟩
  ·rw [q,zj ⟨zpw o,by omega⟩]
   have hrow:xs.map zaL++[zaL o]=(xs++[o]).map zaL:=by rw [X4,QV,X7]
   rw [hrow]
   rcases zI0 kx fu m a1 (xs++[o]) (by simp; omega) (by omega) (zHL e1) with ⟨ys,a',q1,q2⟩ | ⟨e,O,at_,q1,q2,q3⟩
   ·refine .inl ⟨o::ys,a',by simp only [zd9,e1,q1],?_⟩
    rw [q2,Wu]
    rfl
   ·exact .inr ⟨e,O,at_,by simp only [zd9,e1,q1],q2,q3⟩
  ·refine .inr ⟨e,xs.map zaL++[zaL o],at_,by simp only [zd9,e1],he,?_⟩
   rw [q,zj ⟨zpw o,by omega⟩]
   obtain ⟨f2,rfl⟩:∃ f2,fu=f2+1:=⟨fu-1,by omega⟩
   rw [z5,zzr (hf:=.inr he)]
end
end
section
set_option linter.unusedSectionVars false
set_option maxRecDepth 100000
variable {β:Type}
def ztg(x:Inp)(w:List (List V)):List V:=zcn (row .u8 (x.pv.take 32)) (x.pv.getD 32 0) x.seq (V.gs 1 w)
theorem zJG(x:Inp):zaS x=ztg x (zak x.wit):=rfl
def rws(ds:List Inp)(x:Inp)(w:List (List V))(rs:List Inp):List (List V):=ds.map zaS++ztg x w::rs.map zaS
def fl(ds:List Inp)(x:Inp)(w:List (List V))(rs:List Inp):List V:=(rws ds x w rs).flatten
theorem zyB{x:Inp}(h:x.pv.length=33):(row .u8 (x.pv.take 32)).length=32:=by rw [zcd,List.length_take]; omega
theorem zxi{x:Inp}(h:x.pv.length=33)(w:List (List V)):(ztg x w).length=35:=zdF (zyB h) _ _ _
theorem zFP{ds:List Inp}{x:Inp}{rs:List Inp}(h:∀ y∈ds++x::rs,y.pv.length=33)(w:List (List V)):∀ e∈rws ds x w rs,e.length=35:=by
 intro e he
 unfold rws at he
 rcases QC.1 he with h1 | h1
 ·obtain ⟨y,hy,rfl⟩:=Xn.1 h1
  exact zxi (h y (QC.2 (.inl hy))) _
 ·rcases Q8.1 h1 with rfl | h1
  ·exact zxi (h x (by simp)) _
  ·obtain ⟨y,hy,rfl⟩:=Xn.1 h1
   exact zxi (h y (by simp [hy])) _
theorem zJC(ds:List Inp)(x:Inp)(w:List (List V))(rs:List Inp):(rws ds x w rs)[ds.length]?=some (ztg x w):=by
 unfold rws
 rw [Wt (by simp)]
 simp
theorem zLN{x:Inp}(h:x.pv.length=33)(w:List (List V)):(ztg x w)[34]?=some (V.gs 1 w):=by
 unfold ztg zcn
 rw [Wt (by rw [zyB h]; omega),zyB h]
 rfl
theorem zIX(n:Nat):(0+((Int.toNat ((n:Nat):Int))*35))+34=n*35+34:=by rw [Int.toNat_natCast]; omega
theorem zFp{ds:List Inp}{x:Inp}{rs:List Inp}(h:∀ y∈ds++x::rs,y.pv.length=33)(w:List (List V)):(fl ds x w rs).length=(ds.length+1+rs.length)*35:=by
 unfold fl
 rw [zF2 (zFP h w)]
 simp [rws]
 omega
theorem zJd{ds:List Inp}{x:Inp}{rs:List Inp}(h:∀ y∈ds++x::rs,y.pv.length=33)(w:List (List V))(k:List (List V)→Option β):cG 1 (fl ds x w rs) (ds.length*35+34) k=k w:=by
 unfold cG zed fl
 rw [zKb (by decide) (zFP h w) (by decide:34<35) (zJC ds x w rs),zLN (h x (by simp))]
 show chk (1=1) (k w)=k w
 exact zj rfl _
theorem zBW{ds:List Inp}{x:Inp}{rs:List Inp}(h:∀ y∈ds++x::rs,y.pv.length=33)(w w':List (List V))(u:V):List.set (List.set (fl ds x w rs) (ds.length*35+34) u) (ds.length*35+34) (V.gs 1 w')=fl ds x w' rs:=by
 have hl:=zFp h w
 rw [List.set_set,← zqC (by omega)]
 unfold fl
 rw [zKj (by decide) (zFP h w) (by decide:34<35) (zJC ds x w rs)]
 congr 1
 unfold rws
 rw [XZ _ _ (by simp),QA,Nat.sub_self,List.set_cons_zero]
 congr 2
 unfold ztg zcn
 rw [XZ _ _ (by rw [zyB (h x (by simp))]; omega),zyB (h x (by simp))]
 rfl
theorem zMX(d:Nat→Bool)(x:Inp)(w:List (List V)):∀ c∈ztg x w,zlb d c=c:=by
 intro c hc
 unfold ztg zcn at hc
 rcases QC.1 hc with h | h
 ·unfold row at h
  obtain ⟨y,_,rfl⟩:=Xn.1 h
  rfl
 ·simp only [Q8,List.not_mem_nil,or_false] at h
  rcases h with rfl | rfl | rfl <;> rfl
theorem zGB(kb:List Bool){es:List (List V)}(h:∀ e∈es,∃ x w,e=ztg x w):zbH kb es.flatten=es.flatten:=by
 unfold zbH
 have:∀ c∈es.flatten,zlb (fun id=>!(kb.getD id false)) c=c:=by
  intro c hc
  obtain ⟨e,he,hc⟩:=List.mem_flatten.1 hc
  obtain ⟨x,w,rfl⟩:=h e he
  exact zMX _ x w c hc
 rw [X5 this,List.map_id']
theorem zjr(kb:List Bool)(ds:List Inp)(x:Inp)(w:List (List V))(rs:List Inp):zbH kb (fl ds x w rs)=fl ds x w rs:=by
 refine zGB kb ?_
 intro e he
 unfold rws at he
 rcases QC.1 he with h1 | h1
 ·obtain ⟨y,hy,rfl⟩:=Xn.1 h1
  exact ⟨y,_,rfl⟩
 ·rcases Q8.1 h1 with rfl | h1
  ·exact ⟨x,w,rfl⟩
  ·obtain ⟨y,hy,rfl⟩:=Xn.1 h1
   exact ⟨y,_,rfl⟩
theorem zr9(kb:List Bool)(xs:List Inp):zbH kb (xs.map zaS).flatten=(xs.map zaS).flatten:=by
 refine zGB kb ?_
 intro e he
 obtain ⟨y,hy,rfl⟩:=Xn.1 he
 exact ⟨y,_,rfl⟩
section
variable {L:Nat} (p1:Int) (pl:Nat) (p72 p73 b4_0:Int) (b4_1 b4_2:List (List V)) (b4_3 b10_0:Int) (nl:Nat) (b10_2:List (List V)) (b10_3:Int)
variable {ds:List Inp} {x:Inp} {rs:List Inp} (hW:∀ y∈ds++x::rs,y.pv.length=33) (hnl:nl=ds.length+1+rs.length)
include hW hnl
theorem zFz{c i:Nat}(hi:i<c)(hc:c≤32)(w J:List (List V))(hw:w.length≤64)(at_ f:Int)(kh:zcx β)(kx:zhK β) :
  zaf yc xf xb xa yf L p1 ((ds.length:Nat):Int) pl p72 p73 (c:Int) (i:Int) b4_0 b4_1 b4_2 b4_3 b10_0 nl b10_2 b10_3 J at_ f (fl ds x w rs) kh kx =
  yf β L (520:Int) J at_ f
   (fun v83 v84 v85 v86=>kh p1 ((ds.length:Nat):Int) pl p72 p73 (c:Int) ((i+1:Nat):Int) b4_0 b4_1 b4_2 b4_3 b10_0 nl b10_2 b10_3 v84 v85 v86 (fl ds x (w++[[(V.sl 1 v83)]]) rs))
   (fun v83 v84 v85 v86=>kh p1 ((ds.length:Nat):Int) pl p72 p73 (c:Int) ((i+1:Nat):Int) b4_0 b4_1 b4_2 b4_3 b10_0 nl b10_2 b10_3 v84 v85 v86 (fl ds x (w++[[(V.sl 1 v83)]]) rs)):=by
 have hs:(100000000:Nat)≤yn:=by decide
 have hl:=zFp hW w
 have hch:∀ v:V,zl 1 1 [v]=[[v]]:=fun v=>rfl
 unfold zaf
 rw [zG (by omega),zj (by omega),zIX,zJd hW]
 congr 1
 ·funext v83 v84 v85 v86
  rw [hch,zj (by simp only [XV,XW]; omega),zk,zj (by omega),zj (by rw [QH]; omega),zk,zaM (by omega),zBW hW,zjr]
 ·funext v83 v84 v85 v86
  rw [hch,zj (by simp only [XV,XW]; omega),zk,zj (by omega),zj (by rw [QH]; omega),zk,zaM (by omega),zBW hW,zjr]
theorem zHM{c i:Nat}(hi:¬ i<c)(w J:List (List V))(at_ f:Int)(kh:zcx β)(kx:zhK β) :
  zaf yc xf xb xa yf L p1 ((ds.length:Nat):Int) pl p72 p73 (c:Int) (i:Int) b4_0 b4_1 b4_2 b4_3 b10_0 nl b10_2 b10_3 J at_ f (fl ds x w rs) kh kx=kx p1 pl p72 p73 b4_0 b4_1 b4_2 b4_3 b10_0 nl b10_2 b10_3 J at_ f (fl ds x w rs):=by
 unfold zaf
 rw [xz (by omega),zjr]
theorem zC9{c:Nat}(hc:c≤32)(J:List (List V))(at_:Int){e:Int}(he:e≠0)(kx:zhK β):∀ (m i:Nat) (w:List (List V)),w.length=i→i≤c→c-i<m →
  ∃ b':List V,zL yc xf xb xa yf L kx m p1 ((ds.length:Nat):Int) pl p72 p73 (c:Int) (i:Int) b4_0 b4_1 b4_2 b4_3 b10_0 nl b10_2 b10_3 J at_ e (fl ds x w rs)=kx p1 pl p72 p73 b4_0 b4_1 b4_2 b4_3 b10_0 nl b10_2 b10_3 J at_ e b'
 | 0,i,w,h1,h2,h3=>by omega
 | m+1,i,w,h1,h2,h3=>by
  by_cases hi:i<c
  ·obtain ⟨b',e2⟩:=zC9 hc J at_ he kx m (i+1) (w++[[(V.sl 1 [])]]) (by simp [h1]) (by omega) (by omega)
   refine ⟨b',?_⟩
   rw [zL,zFz (hW:=hW) (hnl:=hnl) (hi:=hi) (hc:=hc) (hw:=by omega),zBl L J he]
   exact e2
  ·refine ⟨fl ds x w rs,?_⟩
   rw [zL,zHM (hW:=hW) (hnl:=hnl) (hi:=hi)]
variable (hL:20≤L) {j:List Int} (hb:Byt j) (hj:j.length≤100000000)
include hL hb hj
theorem zIN{c:Nat}(hc:c≤32)(kx:zhK β):∀ (m i a:Nat) (ws:List (List Int)),ws.length=i→i≤c→c-i<m→a≤j.length →
  (∃ ys a',zir j (c-i) a=.ok (ys,a')∧zL yc xf xb xa yf L kx m p1 ((ds.length:Nat):Int) pl p72 p73 (c:Int) (i:Int) b4_0 b4_1 b4_2 b4_3 b10_0 nl b10_2 b10_3 (yk .u8 j) (a:Int) 0 (fl ds x (zak ws) rs)=kx p1 pl p72 p73 b4_0 b4_1 b4_2 b4_3 b10_0 nl b10_2 b10_3 (yk .u8 j) (a':Int) 0 (fl ds x (zak (ws++ys)) rs)) ∨
  (∃ e at_ b',zir j (c-i) a=.error e∧e≠0∧zL yc xf xb xa yf L kx m p1 ((ds.length:Nat):Int) pl p72 p73 (c:Int) (i:Int) b4_0 b4_1 b4_2 b4_3 b10_0 nl b10_2 b10_3 (yk .u8 j) (a:Int) 0 (fl ds x (zak ws) rs)=kx p1 pl p72 p73 b4_0 b4_1 b4_2 b4_3 b10_0 nl b10_2 b10_3 (yk .u8 j) at_ e b')
 | 0,i,a,ws,h1,h2,h3,ha=>by omega
 | m+1,i,a,ws,h1,h2,h3,ha=>by
  by_cases hi:i<c
  ·have hn1:c-i=(c-(i+1))+1:=by omega
   have hwl:(zak ws).length=i:=by simp [zak,h1]
   rw [hn1,zL,zFz (hW:=hW) (hnl:=hnl) (hi:=hi) (hc:=hc) (hw:=by omega),zLs hL hb hj ha]
   cases e1:zc7 j 520 a with
   | error e=>
    have he:=zqA e1
    obtain ⟨b',q2⟩:=zC9 p1 pl p72 p73 b4_0 b4_1 b4_2 b4_3 b10_0 nl b10_2 b10_3 hW hnl hc (yk .u8 j) (a:Int) he kx m (i+1) (zak ws++[[(V.sl 1 [])]]) (by simp [hwl]) (by omega) (by omega)
    refine .inr ⟨e,(a:Int),b',by simp only [zir,e1],he,?_⟩
    rw [y9]
    exact q2
   | ok p=>
    obtain ⟨s,a1⟩:=p
    have k1:=(zqt e1).1
    have hrow:zak ws++[[(V.sl 1 (yk .u8 s))]]=zak (ws++[s]):=by simp [zak]
    rw [zaa,hrow]
    rcases zIN hc kx m (i+1) a1 (ws++[s]) (by simp [h1]) (by omega) (by omega) k1 with ⟨ys,a',q1,q2⟩ | ⟨e,at_,b',q1,q2,q3⟩
    ·refine .inl ⟨s::ys,a',by simp only [zir,e1,q1],?_⟩
     rw [q2,Wu]
     rfl
    ·exact .inr ⟨e,at_,b',by simp only [zir,e1,q1],q2,q3⟩
  ·have hn0:c-i=0:=by omega
   refine .inl ⟨[],a,by rw [hn0]; rfl,?_⟩
   rw [zL,zHM (hW:=hW) (hnl:=hnl) (hi:=hi),X0]
end
end
section
set_option linter.unusedSectionVars false
set_option maxRecDepth 100000
variable {β:Type}
theorem zBI(ds:List Inp)(x:Inp)(w:List (List Int))(rs:List Inp):fl ds x (zak w) rs=((ds++{ x with wit:=w }::rs).map zaS).flatten:=by
 simp [fl,rws,zJG,ztg]
theorem zJr(ds:List Inp)(x:Inp)(hx:x.wit=[])(rs:List Inp):((ds++x::rs).map zaS).flatten=fl ds x (zak []) rs:=by
 rw [zBI,← hx]
theorem zzn{j:List Int}:∀ (n a:Nat) {a':Nat} {ys:List (List Int)},a≤j.length→zir j n a=.ok (ys,a')→a'≤j.length
 | 0,a,a',ys,ha,h=>by simp only [zir] at h; cases h; exact ha
 | n+1,a,a',ys,ha,h=>by
  rw [zir] at h
  split at h
  ·cases h
  ·rename_i x a1 hz
   split at h
   ·cases h
   ·rename_i xs a2 hz2
    cases h
    exact zzn n a1 (zqt hz).1 hz2
section
variable {L:Nat} (p1:Int) (pl:Nat) (b4_0:Int) (b4_1 b4_2:List (List V)) (b4_3 b10_0:Int) (nl:Nat) (b10_2:List (List V)) (b10_3:Int)
theorem zCC{n:Nat}(hL:20≤L)(hn:n≤64)(J:List (List V))(at_:Int){e:Int}(he:e≠0)(kx:zlZ β):∀ (m i:Nat) (F:List V),i≤n→n-i<m →
  ∃ b':List V,zN yc xf xb xa yf L kx m p1 pl (n:Int) (i:Int) b4_0 b4_1 b4_2 b4_3 b10_0 nl b10_2 b10_3 J at_ e F=kx p1 pl b4_0 b4_1 b4_2 b4_3 b10_0 nl b10_2 b10_3 J at_ e b'
 | 0,i,F,h2,h3=>by omega
 | m+1,i,F,h2,h3=>by
  rw [zN]
  unfold zcg zdm
  by_cases hi:i<n
  ·obtain ⟨l,hl⟩:∃ l,L=l+1:=⟨L-1,by omega⟩
   rw [zG (by omega),zyw L J he]
   have key:∀ (kx6:zhK β) (F:List V),∃ b',zL yc xf xb xa yf L kx6 L p1 (i:Int) pl (n:Int) (i:Int) 0 0 b4_0 b4_1 b4_2 b4_3 b10_0 nl b10_2 b10_3 J at_ e F=kx6 p1 pl (n:Int) (i:Int) b4_0 b4_1 b4_2 b4_3 b10_0 nl b10_2 b10_3 J at_ e b':=by
    intro kx6 F
    generalize hg:L=L'
    rw [hl] at hg
    subst hg
    rw [zL]
    unfold zaf
    rw [xz (by omega)]
    exact ⟨_,rfl⟩
   obtain ⟨b1,q1⟩:=key (fun p1 p71l p72 p73 b4_0 b4_1 b4_2 b4_3 b10_0 b10_1l b10_2 b10_3 b17_0 b17_1 b17_2 b71=>yL yc xf xb xa yf L p1 p71l p72 p73 b4_0 b4_1 b4_2 b4_3 b10_0 b10_1l b10_2 b10_3 b17_0 b17_1 b17_2 b71 (fun p1 p71l p72 p73 b4_0 b4_1 b4_2 b4_3 b10_0 b10_1l b10_2 b10_3 b17_0 b17_1 b17_2 b71=>zN yc xf xb xa yf L kx m p1 p71l p72 p73 b4_0 b4_1 b4_2 b4_3 b10_0 b10_1l b10_2 b10_3 b17_0 b17_1 b17_2 b71)) (zbH (bl 680564733833211346651751552939242551295 129) F)
   have r:∀ F:List V,∃ b',yL yc xf xb xa yf L p1 pl (n:Int) (i:Int) b4_0 b4_1 b4_2 b4_3 b10_0 nl b10_2 b10_3 J at_ e F (fun p1 p71l p72 p73 b4_0 b4_1 b4_2 b4_3 b10_0 b10_1l b10_2 b10_3 b17_0 b17_1 b17_2 b71=>zN yc xf xb xa yf L kx m p1 p71l p72 p73 b4_0 b4_1 b4_2 b4_3 b10_0 b10_1l b10_2 b10_3 b17_0 b17_1 b17_2 b71)=kx p1 pl b4_0 b4_1 b4_2 b4_3 b10_0 nl b10_2 b10_3 J at_ e b':=by
    intro F
    unfold yL
    rw [zaM (by omega),zk]
    exact zCC hL hn J at_ he kx m (i+1) _ (by omega) (by omega)
   obtain ⟨b2,q2⟩:=r b1
   exact ⟨b2,q1.trans q2⟩
  ·rw [xz (by omega)]
   exact ⟨_,rfl⟩
variable (hL:1000≤L) {j:List Int} (hb:Byt j) (hj:j.length≤100000000)
include hL hb hj
theorem zLn(hnl:nl≤64)(kx:zlZ β):∀ (m a:Nat) (rs ds:List Inp),(∀ y∈ds++rs,y.pv.length=33)→(∀ y∈rs,y.wit=[])→nl=ds.length+rs.length→rs.length<m→a≤j.length →
  (∃ ys a',zd3 j rs a=.ok (ys,a')∧zN yc xf xb xa yf L kx m p1 pl (nl:Int) ((ds.length:Nat):Int) b4_0 b4_1 b4_2 b4_3 b10_0 nl b10_2 b10_3 (yk .u8 j) (a:Int) 0 ((ds++rs).map zaS).flatten=kx p1 pl b4_0 b4_1 b4_2 b4_3 b10_0 nl b10_2 b10_3 (yk .u8 j) (a':Int) 0 ((ds++ys).map zaS).flatten) ∨
  (∃ e at_ b',zd3 j rs a=.error e∧e≠0∧zN yc xf xb xa yf L kx m p1 pl (nl:Int) ((ds.length:Nat):Int) b4_0 b4_1 b4_2 b4_3 b10_0 nl b10_2 b10_3 (yk .u8 j) (a:Int) 0 ((ds++rs).map zaS).flatten=kx p1 pl b4_0 b4_1 b4_2 b4_3 b10_0 nl b10_2 b10_3 (yk .u8 j) at_ e b')
 | 0,a,rs,ds,hW,hw,h1,h2,ha=>by omega
 | m+1,a,[],ds,hW,hw,h1,h2,ha=>by
  refine .inl ⟨[],a,rfl,?_⟩
  rw [zN]
  unfold zcg zdm
  rw [xz (by simp only [XW] at h1; omega),zr9]
 | m+1,a,x::rs,ds,hW,hw,h1,h2,ha=>by
  simp only [XV] at h1 h2
  have hx:=hw x (by simp)
  have hL20:20≤L:=by omega
  rw [zN]
  unfold zcg zdm
  rw [zG (by omega),zNx hL20 hb hj ha,zr9,zJr ds x hx rs]
  have bad:∀ {e:Int} (he:e≠0) (at_:Int) (F:List V),∃ b':List V,yL yc xf xb xa yf L p1 pl (nl:Int) ((ds.length:Nat):Int) b4_0 b4_1 b4_2 b4_3 b10_0 nl b10_2 b10_3 (yk .u8 j) at_ e F (fun p1 p71l p72 p73 b4_0 b4_1 b4_2 b4_3 b10_0 b10_1l b10_2 b10_3 b17_0 b17_1 b17_2 b71=>zN yc xf xb xa yf L kx m p1 p71l p72 p73 b4_0 b4_1 b4_2 b4_3 b10_0 b10_1l b10_2 b10_3 b17_0 b17_1 b17_2 b71)=kx p1 pl b4_0 b4_1 b4_2 b4_3 b10_0 nl b10_2 b10_3 (yk .u8 j) at_ e b':=by
   intro e he at_ F
   unfold yL
   rw [zaM (by omega),zk]
   exact zCC p1 pl b4_0 b4_1 b4_2 b4_3 b10_0 nl b10_2 b10_3 hL20 hnl _ at_ he kx m _ _ (by omega) (by omega)
  cases e1:zbP j 32 a with
  | error e=>
   have he:=zhC e1
   rw [y9]
   obtain ⟨b',q⟩:=zC9 p1 pl (nl:Int) ((ds.length:Nat):Int) b4_0 b4_1 b4_2 b4_3 b10_0 nl b10_2 b10_3 hW (by omega) (c:=0) (by decide) (yk .u8 j) (a:Int) he (fun p1 p71l p72 p73 b4_0 b4_1 b4_2 b4_3 b10_0 b10_1l b10_2 b10_3 b17_0 b17_1 b17_2 b71=>yL yc xf xb xa yf L p1 p71l p72 p73 b4_0 b4_1 b4_2 b4_3 b10_0 b10_1l b10_2 b10_3 b17_0 b17_1 b17_2 b71 (fun p1 p71l p72 p73 b4_0 b4_1 b4_2 b4_3 b10_0 b10_1l b10_2 b10_3 b17_0 b17_1 b17_2 b71=>zN yc xf xb xa yf L kx m p1 p71l p72 p73 b4_0 b4_1 b4_2 b4_3 b10_0 b10_1l b10_2 b10_3 b17_0 b17_1 b17_2 b71)) L 0 (zak []) rfl (by omega) (by omega)
   obtain ⟨b2,q2⟩:=bad he (a:Int) b'
   refine .inr ⟨e,(a:Int),b2,by simp only [zd3,e1],he,?_⟩
   exact q.trans q2
  | ok p=>
   obtain ⟨n,a1⟩:=p
   obtain ⟨k1,k2⟩:=zcV e1
   rw [zaa]
   rcases zIN p1 pl (nl:Int) ((ds.length:Nat):Int) b4_0 b4_1 b4_2 b4_3 b10_0 nl b10_2 b10_3 hW (by omega) hL20 hb hj k2 (fun p1 p71l p72 p73 b4_0 b4_1 b4_2 b4_3 b10_0 b10_1l b10_2 b10_3 b17_0 b17_1 b17_2 b71=>yL yc xf xb xa yf L p1 p71l p72 p73 b4_0 b4_1 b4_2 b4_3 b10_0 b10_1l b10_2 b10_3 b17_0 b17_1 b17_2 b71 (fun p1 p71l p72 p73 b4_0 b4_1 b4_2 b4_3 b10_0 b10_1l b10_2 b10_3 b17_0 b17_1 b17_2 b71=>zN yc xf xb xa yf L kx m p1 p71l p72 p73 b4_0 b4_1 b4_2 b4_3 b10_0 b10_1l b10_2 b10_3 b17_0 b17_1 b17_2 b71)) L 0 a1 [] rfl (by omega) (by omega) k1 with ⟨ws,a2,q1,q2⟩ | ⟨e,at_,b',q1,q2,q3⟩
   ·have k3:a2≤j.length:=zzn _ _ k1 q1
    rw [XY] at q2
    rw [X2] at q1
    have hW':∀ y∈(ds++[{ x with wit:=ws }])++rs,y.pv.length=33:=by
     intro y hy
     rw [Wu] at hy
     rcases QC.1 hy with h | h
     ·exact hW y (by simp [h])
     ·rcases Q8.1 h with rfl | h
      ·exact hW x (by simp)
      ·exact hW y (by simp at h; simp [h])
    rcases zLn hnl kx m a2 rs (ds++[{ x with wit:=ws }]) hW' (fun y hy=>hw y (by simp [hy])) (by simp; omega) (by omega) k3 with ⟨ys,a',r1,r2⟩ | ⟨e,at_,b',r1,r2,r3⟩
    ·refine .inl ⟨{ x with wit:=ws }::ys,a',by simp only [zd3,e1,q1,r1],?_⟩
     refine q2.trans ?_
     unfold yL
     rw [zaM (by omega),zk,zjr,zBI]
     rw [Wu,Wu] at r2
     refine Eq.trans ?_ r2
     simp only [Wm,XV,XW,X1,WB]
    ·refine .inr ⟨e,at_,b',by simp only [zd3,e1,q1,r1],r2,?_⟩
     refine q2.trans ?_
     unfold yL
     rw [zaM (by omega),zk,zjr,zBI]
     rw [Wu] at r3
     refine Eq.trans ?_ r3
     simp only [Wm,XV,XW,X1,WB]
   ·obtain ⟨b2,r2⟩:=bad q2 at_ b'
    rw [X2] at q1
    exact .inr ⟨e,at_,b2,by simp only [zd3,e1,q1],q2,q3.trans r2⟩
end
end
section
set_option linter.unusedSectionVars false
set_option maxRecDepth 100000
variable {β:Type}
def zgO:List V:=[(Qc (0:Int)),(V.sl 35 ([]:List (List V))),(V.sl 2 ([]:List (List V))),(Qc (0:Int))]
theorem zhx(k:Option β):chk (0=0∧(XM zgO)=4∧4≠0) k=k:=zj (by simp [zgO]) k
theorem zAx{l:List Int}(h:32≤l.length):XN 32 l=(Wy 32).map (fun i=>l.getD i 0):=by
 apply List.ext_getElem
 ·simp; omega
 ·intro i h1 h2
  simp at h1 h2 ⊢
  rw [Wc (by omega)]
  rfl
theorem zHS{x:Inp}(h:x.pv.length=33):(zaS x).mapM V.plain=some (zbh x):=by
 unfold zaS
 rw [zAx (by omega)]
 rfl
theorem zJw{f:V→Option V}:∀ {l m l' m':List V},l.mapM f=some l'→m.mapM f=some m'→(l++m).mapM f=some (l'++m'):=by
 intro l m l' m' h1 h2
 rw [List.mapM_append,h1,h2]
 rfl
theorem zxh:∀ {xs:List Inp},(∀ y∈xs,y.pv.length=33)→((xs.map zaS).flatten).mapM V.plain=some (xs.map zbh).flatten
 | [],_=>rfl
 | x::xs,h=>by
  rw [QV,WK,QV,WK]
  exact zJw (zHS (h x (by simp))) (zxh (fun y hy=>h y (by simp [hy])))
theorem zAg(xs:List Inp):zl 35 xs.length (xs.map zbh).flatten=xs.map zbh:=by
 have:=zAb (sz:=35) (es:=xs.map zbh) (fun e he=>by obtain ⟨y,_,rfl⟩:=Xn.1 he; exact znd y)
 rwa [QA] at this
theorem zFr{xs:List Inp}(h:(xs.map zaS).flatten=[])(hW:∀ y∈xs,y.pv.length=33):xs=[]:=by
 cases xs with
 | nil=>rfl
 | cons x xs=>
  rw [QV,WK] at h
  have:=zxi (hW x (by simp)) (zak x.wit)
  rw [List.append_eq_nil_iff] at h
  rw [← zJG,h.1] at this
  cases this
theorem zzg{j:List Int}:∀ (n a:Nat) {a':Nat} {ys:List Inp},a≤j.length→zhH j n a=.ok (ys,a')→a'≤j.length∧ys.length=n∧(∀ y∈ys,y.pv.length=33)∧∀ y∈ys,y.wit=[]
 | 0,a,a',ys,ha,h=>by simp only [zhH] at h; cases h; exact ⟨ha,rfl,by simp,by simp⟩
 | n+1,a,a',ys,ha,h=>by
  rw [zhH] at h
  split at h
  ·cases h
  ·rename_i x a1 hz
   split at h
   ·cases h
   ·rename_i xs a2 hz2
    cases h
    unfold gIn at hz
    split at hz
    ·cases hz
    ·rename_i hh b1 z1
     split at hz
     ·cases hz
     ·rename_i ix b2 z2
      split at hz
      ·cases hz
      ·rename_i sq b3 z3
       cases hz
       obtain ⟨r1,r2,r3,r4⟩:=zzg n _ (zhU z3) hz2
       have hl:=(zs2 z1).2
       refine ⟨r1,by simp [r2],?_,?_⟩
       ·intro y hy
        rcases Q8.1 hy with rfl | hy
        ·simp [hl]
        ·exact r3 y hy
       ·intro y hy
        rcases Q8.1 hy with rfl | hy
        ·rfl
        ·exact r4 y hy
theorem zAS{j:List Int}:∀ (n a:Nat) {a':Nat} {ys:List Outp},a≤j.length→zd9 j n a=.ok (ys,a')→a'≤j.length
 | 0,a,a',ys,ha,h=>by simp only [zd9] at h; cases h; exact ha
 | n+1,a,a',ys,ha,h=>by
  rw [zd9] at h
  split at h
  ·cases h
  ·rename_i x a1 hz
   split at h
   ·cases h
   ·rename_i xs a2 hz2
    cases h
    exact zAS n a1 (zHL hz) hz2
theorem zAR{j:List Int}:∀ (xs:List Inp) (a:Nat) {a':Nat} {ys:List Inp},a≤j.length→(∀ y∈xs,y.pv.length=33)→zd3 j xs a=.ok (ys,a')→a'≤j.length∧ys.length=xs.length∧∀ y∈ys,y.pv.length=33
 | [],a,a',ys,ha,hW,h=>by simp only [zd3] at h; cases h; exact ⟨ha,rfl,by simp⟩
 | x::xs,a,a',ys,ha,hW,h=>by
  rw [zd3] at h
  split at h
  ·cases h
  ·rename_i n a1 hz
   split at h
   ·cases h
   ·rename_i w a2 hz2
    split at h
    ·cases h
    ·rename_i zs a3 hz3
     cases h
     obtain ⟨r1,r2,r3⟩:=zAR xs a2 (zzn _ _ (zcV hz).1 hz2) (fun y hy=>hW y (by simp [hy])) hz3
     refine ⟨r1,by simp [r2],?_⟩
     intro y hy
     rcases Q8.1 hy with rfl | hy
     ·exact hW x (by simp)
     ·exact r3 y hy
section
variable {L:Nat} (p1:Int) (pl:Nat) (b4_0:Int) (b4_1 b4_2:List (List V)) (b4_3 b10_0:Int) (nl:Nat) (b10_2:List (List V)) (b10_3:Int)
theorem zAC(J:List (List V))(at_:Int){e:Int}(he:e≠0)(F:List V)(k:List V→Int→Int→Option β) :
  yZ yc xf xb xa yf L p1 pl b4_0 b4_1 b4_2 b4_3 b10_0 nl b10_2 b10_3 J at_ e F k=k zgO 0 e:=by
 unfold yZ
 rw [zag he,xw,if_neg he,zk]
 exact zhx _
theorem zLw(a0 a:Nat)(h0:a0≤100000000)(h1:a≤100000000)(J:List (List V))(xs:List Inp)(os:List Outp)(hn:nl=xs.length)(hW:∀ y∈xs,y.pv.length=33)(k:List V→Int→Int→Option β) :
  yZ yc xf xb xa yf L (a0:Int) pl b4_0 b4_1 b4_2 b4_3 b10_0 nl (os.map zaL) b10_3 J (a:Int) 0 (xs.map zaS).flatten k=if a-a0>20000 then k zgO 0 4 else k (zbR ⟨b10_0,xs,os,b10_3⟩) (a:Int) 0:=by
 unfold yZ
 rw [zaJ rfl,yH (by omega) (by omega),zk,zbc]
 by_cases h:a-a0>20000
 ·rw [if_pos (by omega),if_pos h,zk]
  exact zhx _
 ·rw [if_neg (by omega),if_neg h,xw,if_pos rfl]
  have hp:=zxh hW
  cases hF:(xs.map zaS).flatten with
  | nil=>
   have hx:=zFr hF hW
   subst hx
   have:nl=0:=hn
   show chk (nl=0) _=_
   rw [zj this,zk,zj (by simp)]
   rfl
  | cons c cs=>
   rw [hF] at hp
   show zdU (c::cs) _=_
   unfold zdU
   rw [hp]
   show lt _ _=_
   rw [zk,zj (by simp),hn,zAg,zGn ⟨b10_0,xs,os,b10_3⟩]
end
section
variable {L:Nat} (hL:1000≤L) {j:List Int} (hb:Byt j) (hj:j.length≤100000000)
include hL hb hj
theorem zGi{a:Nat}(ha:a≤j.length)(k:List V→Int→Int→Option β):zac β L (yk .u8 j) (a:Int) k=zdZ (gTx j a) (fun t a'=>k (zbR t) (a':Int) 0) (fun e=>k zgO 0 e):=by
 have hL20:20≤L:=by omega
 have t4:∀ {e:Int} (he:e≠0) (pl:Nat) (b4_0:Int) (b4_1 b4_2:List (List V)) (b4_3 b10_0:Int) (nl:Nat) (b10_2:List (List V)) (b10_3 at_:Int) (F:List V),nl≤64→zN yc xf xb xa yf L (fun p1 p71l b4_0 b4_1 b4_2 b4_3 b10_0 b10_1l b10_2 b10_3 b17_0 b17_1 b17_2 b71=>yZ yc xf xb xa yf L p1 p71l b4_0 b4_1 b4_2 b4_3 b10_0 b10_1l b10_2 b10_3 b17_0 b17_1 b17_2 b71 k) L (a:Int) pl (nl:Int) ((0:Nat):Int) b4_0 b4_1 b4_2 b4_3 b10_0 nl b10_2 b10_3 (yk .u8 j) at_ e F=k zgO 0 e:=by
  intro e he pl b4_0 b4_1 b4_2 b4_3 b10_0 nl b10_2 b10_3 at_ F hn
  obtain ⟨b',q⟩:=zCC (β:=β) (a:Int) pl b4_0 b4_1 b4_2 b4_3 b10_0 nl b10_2 b10_3 hL20 hn (yk .u8 j) at_ he (fun p1 p71l b4_0 b4_1 b4_2 b4_3 b10_0 b10_1l b10_2 b10_3 b17_0 b17_1 b17_2 b71=>yZ yc xf xb xa yf L p1 p71l b4_0 b4_1 b4_2 b4_3 b10_0 b10_1l b10_2 b10_3 b17_0 b17_1 b17_2 b71 k) L 0 F (by omega) (by omega)
  exact q.trans (zAC _ _ _ _ _ _ _ _ _ _ _ _ he _ k)
 have t2:∀ {e:Int} (he:e≠0) (b4_0:Int) (b4_1 b4_2:List (List V)) (b4_3 b10_0:Int) (R b10_2:List (List V)) (b10_3 at_:Int),R.length≤64→xX yc xf xb xa yf L (a:Int) b4_0 b4_1 b4_2 b4_3 b10_0 R b10_2 b10_3 (yk .u8 j) at_ e k=k zgO 0 e:=by
  intro e he b4_0 b4_1 b4_2 b4_3 b10_0 R b10_2 b10_3 at_ hR
  unfold xX zdq
  rw [zsx L _ he,zk]
  exact t4 he _ _ _ _ _ _ _ _ _ _ _ hR
 have t0:∀ {e:Int} (he:e≠0) (b4_0:Int) (b4_1 b4_2:List (List V)) (b4_3 b10_0:Int) (R:List (List V)) (b10_3 at_:Int),R.length≤64→yW yc xf xb xa yf L (a:Int) b4_0 b4_1 b4_2 b4_3 b10_0 R [] b10_3 (yk .u8 j) at_ e k=k zgO 0 e:=by
  intro e he b4_0 b4_1 b4_2 b4_3 b10_0 R b10_3 at_ hR
  unfold yW zdN
  rw [zyw L _ he]
  obtain ⟨O',q⟩:=zsF (β:=β) (L:=L) (a:Int) b4_0 b4_1 b4_2 b4_3 b10_0 R b10_3 (n:=0) (by decide) (yk .u8 j) at_ he (fun p1 b4_0 b4_1 b4_2 b4_3 b10_0 b10_1 b10_2 b10_3 b17_0 b17_1 b17_2=>xX yc xf xb xa yf L p1 b4_0 b4_1 b4_2 b4_3 b10_0 b10_1 b10_2 b10_3 b17_0 b17_1 b17_2 k) L 0 [] rfl (by omega) (by omega)
  exact q.trans (t2 he _ _ _ _ _ _ _ _ _ hR)
 have tI:∀ {e:Int} (he:e≠0) (v at_:Int),y6 yc xf xb xa yf L (fun p1 b4_0 b4_1 b4_2 b4_3 b10_0 b10_1 b10_2 b10_3 b17_0 b17_1 b17_2=>yW yc xf xb xa yf L p1 b4_0 b4_1 b4_2 b4_3 b10_0 b10_1 b10_2 b10_3 b17_0 b17_1 b17_2 k) L (a:Int) 0 0 0 [] [] 0 v [] [] 0 (yk .u8 j) at_ e=k zgO 0 e:=by
  intro e he v at_
  obtain ⟨R',q0,q⟩:=zzi (β:=β) (L:=L) (a:Int) 0 [] [] 0 v [] 0 (n:=0) (by decide) (yk .u8 j) at_ he (fun p1 b4_0 b4_1 b4_2 b4_3 b10_0 b10_1 b10_2 b10_3 b17_0 b17_1 b17_2=>yW yc xf xb xa yf L p1 b4_0 b4_1 b4_2 b4_3 b10_0 b10_1 b10_2 b10_3 b17_0 b17_1 b17_2 k) L 0 [] rfl (by omega) (by omega)
  exact q.trans (t0 he _ _ _ _ _ _ _ _ (by omega))
 unfold zac zqw zul
 rw [zE7 hL20 hb hj ha]
 unfold gTx
 cases e1:gN j 4 a with
 | error e=>
  have he:=zp2 e1
  rw [y9,zyw L _ he]
  exact tI he _ _
 | ok p=>
  obtain ⟨ver,a1⟩:=p
  have h1:=zhU e1
  rw [zaa,zMR hL20 hb hj h1]
  cases e2:zbP j 64 a1 with
  | error e=>
   have he:=zhC e2
   rw [y9]
   simp only [e2]
   exact tI he _ _
  | ok p=>
   obtain ⟨n,a2⟩:=p
   obtain ⟨h2,hn⟩:=zcV e2
   rw [zaa]
   simp only [e2]
   rcases zJH hL20 hb hj (a:Int) 0 [] [] 0 (ver:Int) [] 0 hn (fun p1 b4_0 b4_1 b4_2 b4_3 b10_0 b10_1 b10_2 b10_3 b17_0 b17_1 b17_2=>yW yc xf xb xa yf L p1 b4_0 b4_1 b4_2 b4_3 b10_0 b10_1 b10_2 b10_3 b17_0 b17_1 b17_2 k) L 0 a2 [] rfl (by omega) (by omega) h2 with ⟨xs,a3,q1,q2⟩ | ⟨e,R,at_,q1,q2,q3,q4⟩
   ·rw [X2] at q1
    rw [XY] at q2
    obtain ⟨h3,hx1,hx2,hx3⟩:=zzg n a2 h2 q1
    refine Eq.trans q2 ?_
    simp only [q1]
    unfold yW zdN
    rw [zMR hL20 hb hj h3]
    cases e4:zbP j 64 a3 with
    | error e=>
     have he:=zhC e4
     rw [y9]
     obtain ⟨O',q⟩:=zsF (β:=β) (L:=L) (a:Int) 0 [] [] 0 (ver:Int) (xs.map zaS) 0 (n:=0) (by decide) (yk .u8 j) (a3:Int) he (fun p1 b4_0 b4_1 b4_2 b4_3 b10_0 b10_1 b10_2 b10_3 b17_0 b17_1 b17_2=>xX yc xf xb xa yf L p1 b4_0 b4_1 b4_2 b4_3 b10_0 b10_1 b10_2 b10_3 b17_0 b17_1 b17_2 k) L 0 [] rfl (by omega) (by omega)
     exact q.trans (t2 he _ _ _ _ _ _ _ _ _ (by rw [QA]; omega))
    | ok p=>
     obtain ⟨m,a4⟩:=p
     obtain ⟨h4,hm⟩:=zcV e4
     rw [zaa]
     simp only []
     rcases zHo hL20 hb hj (a:Int) 0 [] [] 0 (ver:Int) (xs.map zaS) 0 hm (fun p1 b4_0 b4_1 b4_2 b4_3 b10_0 b10_1 b10_2 b10_3 b17_0 b17_1 b17_2=>xX yc xf xb xa yf L p1 b4_0 b4_1 b4_2 b4_3 b10_0 b10_1 b10_2 b10_3 b17_0 b17_1 b17_2 k) L 0 a4 [] rfl (by omega) (by omega) h4 with ⟨os,a5,r1,r2⟩ | ⟨e,O,at_,r1,r2,r3⟩
     ·rw [X2] at r1
      rw [XY] at r2
      have h5:=zAS m a4 h4 r1
      refine Eq.trans r2 ?_
      simp only [r1]
      unfold xX zdq
      rw [zE7 hL20 hb hj h5]
      cases e6:gN j 4 a5 with
      | error e=>
       have he:=zp2 e6
       rw [y9,zk]
       exact t4 he _ _ _ _ _ _ _ _ _ _ _ (by rw [QA]; omega)
      | ok p=>
       obtain ⟨lk,a6⟩:=p
       have h6:=zhU e6
       rw [zaa,zk,zr9]
       simp only []
       rcases zLn (β:=β) (a:Int) (xs.map zaS).length 0 [] [] 0 (ver:Int) (xs.map zaS).length (os.map zaL) (lk:Int) hL hb hj (by rw [QA]; omega) (fun p1 p71l b4_0 b4_1 b4_2 b4_3 b10_0 b10_1l b10_2 b10_3 b17_0 b17_1 b17_2 b71=>yZ yc xf xb xa yf L p1 p71l b4_0 b4_1 b4_2 b4_3 b10_0 b10_1l b10_2 b10_3 b17_0 b17_1 b17_2 b71 k) L a6 xs [] (by simpa using hx2) hx3 (by simp) (by omega) h6 with ⟨ys,a7,s1,s2⟩ | ⟨e,at_,b',s1,s2,s3⟩
       ·obtain ⟨h7,hy1,hy2⟩:=zAR xs a6 h6 hx2 s1
        refine Eq.trans s2 ?_
        simp only [s1]
        rw [XY,zLw _ _ _ _ _ _ _ _ _ _ (by omega) (by omega) _ ys os (by rw [QA,hy1]) hy2]
        by_cases hh:a7-a>20000
        ·rw [if_pos hh,if_pos hh]; rfl
        ·rw [if_neg hh,if_neg hh]; rfl
       ·refine Eq.trans s3 ?_
        simp only [s1]
        exact zAC _ _ _ _ _ _ _ _ _ _ _ _ s2 _ k
     ·rw [X2] at r1
      refine Eq.trans r3 ?_
      simp only [r1]
      exact t2 r2 _ _ _ _ _ _ _ _ _ (by rw [QA]; omega)
   ·rw [X2] at q1
    refine Eq.trans q4 ?_
    simp only [q1]
    exact t0 q2 _ _ _ _ _ _ _ _ (by omega)
end
end
section
set_option linter.unusedSectionVars false
set_option maxRecDepth 100000
variable {β:Type}
section
variable {L:Nat} (p1:Int) (pl:Nat) (p72 p73 b4_0:Int) (b4_1 b4_2:List (List V)) (b4_3 b10_0:Int) (nl:Nat) (b10_2:List (List V)) (b10_3:Int)
theorem zzp(i n:Int)(F:List V)(J:List (List V))(at_ f:Int)(hf:¬ n>0∨f≠0)(kh:zcb β)(kx:zej β) :
  zaH zb yb zc ya za L p1 i n pl p72 p73 b4_0 b4_1 b4_2 b4_3 b10_0 nl b10_2 b10_3 J at_ f F kh kx=kx p1 pl p72 p73 b4_0 b4_1 b4_2 b4_3 b10_0 nl b10_2 b10_3 J at_ f (zbH (bl 356811923167403450762135544012445415519542271 148) F):=by
 unfold zaH
 by_cases h:n>0
 ·rw [zG h,zag (hf.resolve_left (fun hh=>hh h))]
 ·rw [xz h]
variable {ds:List Inp} {x:Inp} {rs:List Inp} (hW:∀ y∈ds++x::rs,y.pv.length=33) (hnl:nl=ds.length+1+rs.length)
include hW hnl
theorem zKN(m:Nat)(hm:m≤64)(w J:List (List V))(hw:w.length≤64)(at_:Int)(kh:zcb β)(kx:zej β) :
  zaH zb yb zc ya za L p1 ((ds.length:Nat):Int) ((m+1:Nat):Int) pl p72 p73 b4_0 b4_1 b4_2 b4_3 b10_0 nl b10_2 b10_3 J at_ 0 (fl ds x w rs) kh kx =
  za β L (520:Int) J at_ 0
   (fun v83 v84 v85 v86=>kh p1 ((ds.length:Nat):Int) (m:Int) pl p72 p73 b4_0 b4_1 b4_2 b4_3 b10_0 nl b10_2 b10_3 v84 v85 v86 (fl ds x (w++[[(V.sl 1 v83)]]) rs))
   (fun v83 v84 v85 v86=>kh p1 ((ds.length:Nat):Int) (m:Int) pl p72 p73 b4_0 b4_1 b4_2 b4_3 b10_0 nl b10_2 b10_3 v84 v85 v86 (fl ds x (w++[[(V.sl 1 v83)]]) rs)):=by
 have hs:(100000000:Nat)≤yn:=by decide
 have hl:=zFp hW w
 have hch:∀ v:V,zl 1 1 [v]=[[v]]:=fun v=>rfl
 unfold zaH
 rw [zG (by omega),zaJ rfl,zj (by omega),zIX,zJd hW]
 congr 1
 ·funext v83 v84 v85 v86
  rw [hch,zj (by simp only [XV,XW]; omega),zk,zj (by omega),zj (by rw [QH]; omega),zk,yH (by omega) (by omega),zBW hW,zjr,show ((m+1:Nat):Int)-1=(m:Int) by omega]
 ·funext v83 v84 v85 v86
  rw [hch,zj (by simp only [XV,XW]; omega),zk,zj (by omega),zj (by rw [QH]; omega),zk,yH (by omega) (by omega),zBW hW,zjr,show ((m+1:Nat):Int)-1=(m:Int) by omega]
variable (hL:20≤L) {j:List Int} (hb:Byt j) (hj:j.length≤100000000)
include hL hb hj
theorem zJL(kx:zej β):∀ (fu m a:Nat) (ws:List (List Int)),ws.length+m≤32→m+1<fu→a≤j.length →
  (∃ ys a',zir j m a=.ok (ys,a')∧xI zb yb zc ya za L kx fu p1 ((ds.length:Nat):Int) (m:Int) pl p72 p73 b4_0 b4_1 b4_2 b4_3 b10_0 nl b10_2 b10_3 (yk .u8 j) (a:Int) 0 (fl ds x (zak ws) rs)=kx p1 pl p72 p73 b4_0 b4_1 b4_2 b4_3 b10_0 nl b10_2 b10_3 (yk .u8 j) (a':Int) 0 (fl ds x (zak (ws++ys)) rs)) ∨
  (∃ e at_ b',zir j m a=.error e∧e≠0∧xI zb yb zc ya za L kx fu p1 ((ds.length:Nat):Int) (m:Int) pl p72 p73 b4_0 b4_1 b4_2 b4_3 b10_0 nl b10_2 b10_3 (yk .u8 j) (a:Int) 0 (fl ds x (zak ws) rs)=kx p1 pl p72 p73 b4_0 b4_1 b4_2 b4_3 b10_0 nl b10_2 b10_3 (yk .u8 j) at_ e b')
 | 0,m,a,ws,h1,h2,ha=>by omega
 | fu+1,0,a,ws,h1,h2,ha=>by
  refine .inl ⟨[],a,rfl,?_⟩
  rw [xI,zzp (hf:=.inl (by decide)),zjr,X0]
 | fu+1,m+1,a,ws,h1,h2,ha=>by
  have hwl:(zak ws).length=ws.length:=by simp [zak]
  rw [xI,zKN (hW:=hW) (hnl:=hnl) (hm:=by omega) (hw:=by omega),zLe hL hb hj ha]
  cases e1:zc7 j 520 a with
  | error e=>
   have he:=zqA e1
   obtain ⟨f2,rfl⟩:∃ f2,fu=f2+1:=⟨fu-1,by omega⟩
   refine .inr ⟨e,0,zbH (bl 356811923167403450762135544012445415519542271 148) (fl ds x (zak ws++[[(V.sl 1 [])]]) rs),by simp only [zir,e1],he,?_⟩
   rw [y9,xI,zzp (hf:=.inr he)]
  | ok p=>
   obtain ⟨s,a1⟩:=p
   have k1:=(zqt e1).1
   have hrow:zak ws++[[(V.sl 1 (yk .u8 s))]]=zak (ws++[s]):=by simp [zak]
   rw [zaa,hrow]
   rcases zJL kx fu m a1 (ws++[s]) (by simp; omega) (by omega) k1 with ⟨ys,a',q1,q2⟩ | ⟨e,at_,b',q1,q2,q3⟩
   ·refine .inl ⟨s::ys,a',by simp only [zir,e1,q1],?_⟩
    rw [q2,Wu]
    rfl
   ·exact .inr ⟨e,at_,b',by simp only [zir,e1,q1],q2,q3⟩
end
section
variable {L:Nat} (p1:Int) (pl:Nat) (b4_0:Int) (b4_1 b4_2:List (List V)) (b4_3 b10_0:Int) (nl:Nat) (b10_2:List (List V)) (b10_3:Int)
theorem zDr{n:Nat}(hL:20≤L)(hn:n≤64)(J:List (List V))(at_:Int){e:Int}(he:e≠0)(kx:zik β):∀ (m i:Nat) (F:List V),i≤n→n-i<m →
  ∃ b':List V,yN zb yb zc ya za L kx m p1 pl (n:Int) (i:Int) b4_0 b4_1 b4_2 b4_3 b10_0 nl b10_2 b10_3 J at_ e F=kx p1 pl b4_0 b4_1 b4_2 b4_3 b10_0 nl b10_2 b10_3 J at_ e b'
 | 0,i,F,h2,h3=>by omega
 | m+1,i,F,h2,h3=>by
  rw [yN]
  unfold zbV zc9
  by_cases hi:i<n
  ·obtain ⟨l,hl⟩:∃ l,L=l+1:=⟨L-1,by omega⟩
   rw [zG (by omega),zGP L J he]
   have key:∀ (kx6:zej β) (F:List V),∃ b',xI zb yb zc ya za L kx6 L p1 (i:Int) 0 pl (n:Int) (i:Int) b4_0 b4_1 b4_2 b4_3 b10_0 nl b10_2 b10_3 J at_ e F=kx6 p1 pl (n:Int) (i:Int) b4_0 b4_1 b4_2 b4_3 b10_0 nl b10_2 b10_3 J at_ e b':=by
    intro kx6 F
    generalize hg:L=L'
    rw [hl] at hg
    subst hg
    rw [xI,zzp (hf:=.inl (by decide))]
    exact ⟨_,rfl⟩
   obtain ⟨b1,q1⟩:=key (fun p1 p71l p72 p73 b4_0 b4_1 b4_2 b4_3 b10_0 b10_1l b10_2 b10_3 b17_0 b17_1 b17_2 b71=>yK zb yb zc ya za L p1 p71l p72 p73 b4_0 b4_1 b4_2 b4_3 b10_0 b10_1l b10_2 b10_3 b17_0 b17_1 b17_2 b71 (fun p1 p71l p72 p73 b4_0 b4_1 b4_2 b4_3 b10_0 b10_1l b10_2 b10_3 b17_0 b17_1 b17_2 b71=>yN zb yb zc ya za L kx m p1 p71l p72 p73 b4_0 b4_1 b4_2 b4_3 b10_0 b10_1l b10_2 b10_3 b17_0 b17_1 b17_2 b71)) (zbH (bl 356811923167403450762135544012445415519550463 148) F)
   have r:∀ F:List V,∃ b',yK zb yb zc ya za L p1 pl (n:Int) (i:Int) b4_0 b4_1 b4_2 b4_3 b10_0 nl b10_2 b10_3 J at_ e F (fun p1 p71l p72 p73 b4_0 b4_1 b4_2 b4_3 b10_0 b10_1l b10_2 b10_3 b17_0 b17_1 b17_2 b71=>yN zb yb zc ya za L kx m p1 p71l p72 p73 b4_0 b4_1 b4_2 b4_3 b10_0 b10_1l b10_2 b10_3 b17_0 b17_1 b17_2 b71)=kx p1 pl b4_0 b4_1 b4_2 b4_3 b10_0 nl b10_2 b10_3 J at_ e b':=by
    intro F
    unfold yK
    rw [zaM (by omega),zk]
    exact zDr hL hn J at_ he kx m (i+1) _ (by omega) (by omega)
   obtain ⟨b2,q2⟩:=r b1
   exact ⟨b2,q1.trans q2⟩
  ·rw [xz (by omega)]
   exact ⟨_,rfl⟩
variable (hL:1000≤L) {j:List Int} (hb:Byt j) (hj:j.length≤100000000)
include hL hb hj
theorem zJR(hnl:nl≤64)(kx:zik β):∀ (m a:Nat) (rs ds:List Inp),(∀ y∈ds++rs,y.pv.length=33)→(∀ y∈rs,y.wit=[])→nl=ds.length+rs.length→rs.length<m→a≤j.length →
  (∃ ys a',zd3 j rs a=.ok (ys,a')∧yN zb yb zc ya za L kx m p1 pl (nl:Int) ((ds.length:Nat):Int) b4_0 b4_1 b4_2 b4_3 b10_0 nl b10_2 b10_3 (yk .u8 j) (a:Int) 0 ((ds++rs).map zaS).flatten=kx p1 pl b4_0 b4_1 b4_2 b4_3 b10_0 nl b10_2 b10_3 (yk .u8 j) (a':Int) 0 ((ds++ys).map zaS).flatten) ∨
  (∃ e at_ b',zd3 j rs a=.error e∧e≠0∧yN zb yb zc ya za L kx m p1 pl (nl:Int) ((ds.length:Nat):Int) b4_0 b4_1 b4_2 b4_3 b10_0 nl b10_2 b10_3 (yk .u8 j) (a:Int) 0 ((ds++rs).map zaS).flatten=kx p1 pl b4_0 b4_1 b4_2 b4_3 b10_0 nl b10_2 b10_3 (yk .u8 j) at_ e b')
 | 0,a,rs,ds,hW,hw,h1,h2,ha=>by omega
 | m+1,a,[],ds,hW,hw,h1,h2,ha=>by
  refine .inl ⟨[],a,rfl,?_⟩
  rw [yN]
  unfold zbV zc9
  rw [xz (by simp only [XW] at h1; omega),zr9]
 | m+1,a,x::rs,ds,hW,hw,h1,h2,ha=>by
  simp only [XV] at h1 h2
  have hx:=hw x (by simp)
  have hL20:20≤L:=by omega
  rw [yN]
  unfold zbV zc9
  rw [zG (by omega),zNK hL20 hb hj ha,zr9,zJr ds x hx rs]
  have bad:∀ {e:Int} (he:e≠0) (at_:Int) (F:List V),∃ b':List V,yK zb yb zc ya za L p1 pl (nl:Int) ((ds.length:Nat):Int) b4_0 b4_1 b4_2 b4_3 b10_0 nl b10_2 b10_3 (yk .u8 j) at_ e F (fun p1 p71l p72 p73 b4_0 b4_1 b4_2 b4_3 b10_0 b10_1l b10_2 b10_3 b17_0 b17_1 b17_2 b71=>yN zb yb zc ya za L kx m p1 p71l p72 p73 b4_0 b4_1 b4_2 b4_3 b10_0 b10_1l b10_2 b10_3 b17_0 b17_1 b17_2 b71)=kx p1 pl b4_0 b4_1 b4_2 b4_3 b10_0 nl b10_2 b10_3 (yk .u8 j) at_ e b':=by
   intro e he at_ F
   unfold yK
   rw [zaM (by omega),zk]
   exact zDr p1 pl b4_0 b4_1 b4_2 b4_3 b10_0 nl b10_2 b10_3 hL20 hnl _ at_ he kx m _ _ (by omega) (by omega)
  cases e1:zbP j 32 a with
  | error e=>
   have he:=zhC e1
   rw [y9]
   have q:∀ (kx6:zej β) (F:List V),∃ b',xI zb yb zc ya za L kx6 L p1 ((ds.length:Nat):Int) 0 pl (nl:Int) ((ds.length:Nat):Int) b4_0 b4_1 b4_2 b4_3 b10_0 nl b10_2 b10_3 (yk .u8 j) 0 e F=kx6 p1 pl (nl:Int) ((ds.length:Nat):Int) b4_0 b4_1 b4_2 b4_3 b10_0 nl b10_2 b10_3 (yk .u8 j) 0 e b':=by
    intro kx6 F
    obtain ⟨l,hl⟩:∃ l,L=l+1:=⟨L-1,by omega⟩
    generalize hg:L=L'
    rw [hl] at hg
    subst hg
    rw [xI,zzp (hf:=.inl (by decide))]
    exact ⟨_,rfl⟩
   obtain ⟨b',q⟩:=q (fun p1 p71l p72 p73 b4_0 b4_1 b4_2 b4_3 b10_0 b10_1l b10_2 b10_3 b17_0 b17_1 b17_2 b71=>yK zb yb zc ya za L p1 p71l p72 p73 b4_0 b4_1 b4_2 b4_3 b10_0 b10_1l b10_2 b10_3 b17_0 b17_1 b17_2 b71 (fun p1 p71l p72 p73 b4_0 b4_1 b4_2 b4_3 b10_0 b10_1l b10_2 b10_3 b17_0 b17_1 b17_2 b71=>yN zb yb zc ya za L kx m p1 p71l p72 p73 b4_0 b4_1 b4_2 b4_3 b10_0 b10_1l b10_2 b10_3 b17_0 b17_1 b17_2 b71)) (fl ds x (zak []) rs)
   obtain ⟨b2,q2⟩:=bad he 0 b'
   refine .inr ⟨e,0,b2,by simp only [zd3,e1],he,?_⟩
   exact q.trans q2
  | ok p=>
   obtain ⟨n,a1⟩:=p
   obtain ⟨k1,k2⟩:=zcV e1
   rw [zaa]
   rcases zJL p1 pl (nl:Int) ((ds.length:Nat):Int) b4_0 b4_1 b4_2 b4_3 b10_0 nl b10_2 b10_3 hW (by omega) hL20 hb hj (fun p1 p71l p72 p73 b4_0 b4_1 b4_2 b4_3 b10_0 b10_1l b10_2 b10_3 b17_0 b17_1 b17_2 b71=>yK zb yb zc ya za L p1 p71l p72 p73 b4_0 b4_1 b4_2 b4_3 b10_0 b10_1l b10_2 b10_3 b17_0 b17_1 b17_2 b71 (fun p1 p71l p72 p73 b4_0 b4_1 b4_2 b4_3 b10_0 b10_1l b10_2 b10_3 b17_0 b17_1 b17_2 b71=>yN zb yb zc ya za L kx m p1 p71l p72 p73 b4_0 b4_1 b4_2 b4_3 b10_0 b10_1l b10_2 b10_3 b17_0 b17_1 b17_2 b71)) L n a1 [] (by simp; omega) (by omega) k1 with ⟨ws,a2,q1,q2⟩ | ⟨e,at_,b',q1,q2,q3⟩
   ·have k3:a2≤j.length:=zzn _ _ k1 q1
    rw [XY] at q2
    have hW':∀ y∈(ds++[{ x with wit:=ws }])++rs,y.pv.length=33:=by
     intro y hy
     rw [Wu] at hy
     rcases QC.1 hy with h | h
     ·exact hW y (by simp [h])
     ·rcases Q8.1 h with rfl | h
      ·exact hW x (by simp)
      ·exact hW y (by simp at h; simp [h])
    rcases zJR hnl kx m a2 rs (ds++[{ x with wit:=ws }]) hW' (fun y hy=>hw y (by simp [hy])) (by simp; omega) (by omega) k3 with ⟨ys,a',r1,r2⟩ | ⟨e,at_,b',r1,r2,r3⟩
    ·refine .inl ⟨{ x with wit:=ws }::ys,a',by simp only [zd3,e1,q1,r1],?_⟩
     refine q2.trans ?_
     unfold yK
     rw [zaM (by omega),zk,zjr,zBI]
     rw [Wu,Wu] at r2
     refine Eq.trans ?_ r2
     simp only [Wm,XV,XW,X1,WB]
    ·refine .inr ⟨e,at_,b',by simp only [zd3,e1,q1,r1],r2,?_⟩
     refine q2.trans ?_
     unfold yK
     rw [zaM (by omega),zk,zjr,zBI]
     rw [Wu] at r3
     refine Eq.trans ?_ r3
     simp only [Wm,XV,XW,X1,WB]
   ·obtain ⟨b2,r2⟩:=bad q2 at_ b'
    exact .inr ⟨e,at_,b2,by simp only [zd3,e1,q1],q2,q3.trans r2⟩
end
section
variable {L:Nat} (p1:Int) (pl:Nat) (b4_0:Int) (b4_1 b4_2:List (List V)) (b4_3 b10_0:Int) (nl:Nat) (b10_2:List (List V)) (b10_3:Int)
theorem zGh(J:List (List V))(at_:Int){e:Int}(he:e≠0)(F:List V)(k:List V→Int→Int→Option β) :
  z9 zb yb zc ya za L p1 pl b4_0 b4_1 b4_2 b4_3 b10_0 nl b10_2 b10_3 J at_ e F k=k zgO 0 e:=by
 unfold z9
 rw [zag he,xw,if_neg he,zk]
 exact zhx _
theorem zLR(a0 a:Nat)(h0:a0≤100000000)(h1:a≤100000000)(J:List (List V))(xs:List Inp)(os:List Outp)(hn:nl=xs.length)(hW:∀ y∈xs,y.pv.length=33)(k:List V→Int→Int→Option β) :
  z9 zb yb zc ya za L (a0:Int) pl b4_0 b4_1 b4_2 b4_3 b10_0 nl (os.map zaL) b10_3 J (a:Int) 0 (xs.map zaS).flatten k=if a-a0>20000 then k zgO 0 4 else k (zbR ⟨b10_0,xs,os,b10_3⟩) (a:Int) 0:=by
 unfold z9
 rw [zaJ rfl,yH (by omega) (by omega),zk,zbc]
 by_cases h:a-a0>20000
 ·rw [if_pos (by omega),if_pos h,zk]
  exact zhx _
 ·rw [if_neg (by omega),if_neg h,xw,if_pos rfl]
  have hp:=zxh hW
  cases hF:(xs.map zaS).flatten with
  | nil=>
   have hx:=zFr hF hW
   subst hx
   have:nl=0:=hn
   show chk (nl=0) _=_
   rw [zj this,zk,zj (by simp)]
   rfl
  | cons c cs=>
   rw [hF] at hp
   show zdU (c::cs) _=_
   unfold zdU
   rw [hp]
   show lt _ _=_
   rw [zk,zj (by simp),hn,zAg,zGn ⟨b10_0,xs,os,b10_3⟩]
end
section
variable {L:Nat} (hL:1000≤L) {j:List Int} (hb:Byt j) (hj:j.length≤100000000)
include hL hb hj
theorem zGt{a:Nat}(ha:a≤j.length)(k:List V→Int→Int→Option β):yU β L (yk .u8 j) (a:Int) k=zdZ (gTx j a) (fun t a'=>k (zbR t) (a':Int) 0) (fun e=>k zgO 0 e):=by
 have hL20:20≤L:=by omega
 have t4:∀ {e:Int} (he:e≠0) (pl:Nat) (b4_0:Int) (b4_1 b4_2:List (List V)) (b4_3 b10_0:Int) (nl:Nat) (b10_2:List (List V)) (b10_3 at_:Int) (F:List V),nl≤64→yN zb yb zc ya za L (fun p1 p71l b4_0 b4_1 b4_2 b4_3 b10_0 b10_1l b10_2 b10_3 b17_0 b17_1 b17_2 b71=>z9 zb yb zc ya za L p1 p71l b4_0 b4_1 b4_2 b4_3 b10_0 b10_1l b10_2 b10_3 b17_0 b17_1 b17_2 b71 k) L (a:Int) pl (nl:Int) ((0:Nat):Int) b4_0 b4_1 b4_2 b4_3 b10_0 nl b10_2 b10_3 (yk .u8 j) at_ e F=k zgO 0 e:=by
  intro e he pl b4_0 b4_1 b4_2 b4_3 b10_0 nl b10_2 b10_3 at_ F hn
  obtain ⟨b',q⟩:=zDr (β:=β) (a:Int) pl b4_0 b4_1 b4_2 b4_3 b10_0 nl b10_2 b10_3 hL20 hn (yk .u8 j) at_ he (fun p1 p71l b4_0 b4_1 b4_2 b4_3 b10_0 b10_1l b10_2 b10_3 b17_0 b17_1 b17_2 b71=>z9 zb yb zc ya za L p1 p71l b4_0 b4_1 b4_2 b4_3 b10_0 b10_1l b10_2 b10_3 b17_0 b17_1 b17_2 b71 k) L 0 F (by omega) (by omega)
  exact q.trans (zGh _ _ _ _ _ _ _ _ _ _ _ _ he _ k)
 have t2:∀ {e:Int} (he:e≠0) (b4_0:Int) (b4_1 b4_2:List (List V)) (b4_3 b10_0:Int) (R b10_2:List (List V)) (b10_3 at_:Int),R.length≤64→xZ zb yb zc ya za L (a:Int) b4_0 b4_1 b4_2 b4_3 b10_0 R b10_2 b10_3 (yk .u8 j) at_ e k=k zgO 0 e:=by
  intro e he b4_0 b4_1 b4_2 b4_3 b10_0 R b10_2 b10_3 at_ hR
  unfold xZ zeu
  rw [zCg L _ he,zk]
  exact t4 he _ _ _ _ _ _ _ _ _ _ _ hR
 have t0:∀ {e:Int} (he:e≠0) (b4_0:Int) (b4_1 b4_2:List (List V)) (b4_3 b10_0:Int) (R:List (List V)) (b10_3 at_:Int),R.length≤64→zaY zb yb zc ya za L (a:Int) b4_0 b4_1 b4_2 b4_3 b10_0 R [] b10_3 (yk .u8 j) at_ e k=k zgO 0 e:=by
  intro e he b4_0 b4_1 b4_2 b4_3 b10_0 R b10_3 at_ hR
  unfold zaY zeT
  rw [zGP L _ he]
  obtain ⟨l,hl⟩:∃ l,L=l+1:=⟨L-1,by omega⟩
  have q:z5 zb yb zc ya za L (fun p1 b4_0 b4_1 b4_2 b4_3 b10_0 b10_1 b10_2 b10_3 b17_0 b17_1 b17_2=>xZ zb yb zc ya za L p1 b4_0 b4_1 b4_2 b4_3 b10_0 b10_1 b10_2 b10_3 b17_0 b17_1 b17_2 k) L (a:Int) 0 b4_0 b4_1 b4_2 b4_3 b10_0 R [] b10_3 (yk .u8 j) at_ e=xZ zb yb zc ya za L (a:Int) b4_0 b4_1 b4_2 b4_3 b10_0 R [] b10_3 (yk .u8 j) at_ e k:=by
   generalize hg:L=L'
   rw [hl] at hg
   subst hg
   rw [z5,zzr (hf:=.inr he)]
  exact q.trans (t2 he b4_0 b4_1 b4_2 b4_3 b10_0 R [] b10_3 at_ hR)
 obtain ⟨l,hl⟩:∃ l,L=l+1:=⟨L-1,by omega⟩
 have tI:∀ {e:Int} (he:e≠0) (v at_:Int),zah zb yb zc ya za L (fun p1 b4_0 b4_1 b4_2 b4_3 b10_0 b10_1 b10_2 b10_3 b17_0 b17_1 b17_2=>zaY zb yb zc ya za L p1 b4_0 b4_1 b4_2 b4_3 b10_0 b10_1 b10_2 b10_3 b17_0 b17_1 b17_2 k) L (a:Int) 0 0 [] [] 0 v [] [] 0 (yk .u8 j) at_ e=k zgO 0 e:=by
  intro e he v at_
  refine Eq.trans ?_ (t0 he 0 [] [] 0 v [] 0 at_ (by decide))
  generalize hg:L=L'
  rw [hl] at hg
  subst hg
  rw [zah,zDq (hf:=.inr he)]
 unfold yU zkK zoi
 rw [xz (by omega),y7,xz (by omega),zFd hL20 hb hj ha]
 unfold gTx
 cases e1:gN j 4 a with
 | error e=>
  have he:=zp2 e1
  rw [y9,zGP L _ he]
  exact tI he _ _
 | ok p=>
  obtain ⟨ver,a1⟩:=p
  have h1:=zhU e1
  rw [zaa,zMz hL20 hb hj h1]
  cases e2:zbP j 64 a1 with
  | error e=>
   have he:=zhC e2
   rw [y9]
   simp only [e2]
   exact tI he _ _
  | ok p=>
   obtain ⟨n,a2⟩:=p
   obtain ⟨h2,hn⟩:=zcV e2
   rw [zaa]
   simp only [e2]
   rcases zI2 (a:Int) 0 [] [] 0 (ver:Int) [] 0 hL20 hb hj (fun p1 b4_0 b4_1 b4_2 b4_3 b10_0 b10_1 b10_2 b10_3 b17_0 b17_1 b17_2=>zaY zb yb zc ya za L p1 b4_0 b4_1 b4_2 b4_3 b10_0 b10_1 b10_2 b10_3 b17_0 b17_1 b17_2 k) L n a2 [] (by simpa using hn) (by omega) h2 with ⟨xs,a3,q1,q2⟩ | ⟨e,R,at_,q1,q2,q3,q4⟩
   ·rw [XY] at q2
    obtain ⟨h3,hx1,hx2,hx3⟩:=zzg n a2 h2 q1
    refine Eq.trans q2 ?_
    simp only [q1]
    unfold zaY zeT
    rw [zMz hL20 hb hj h3]
    cases e4:zbP j 64 a3 with
    | error e=>
     have he:=zhC e4
     rw [y9]
     have q:z5 zb yb zc ya za L (fun p1 b4_0 b4_1 b4_2 b4_3 b10_0 b10_1 b10_2 b10_3 b17_0 b17_1 b17_2=>xZ zb yb zc ya za L p1 b4_0 b4_1 b4_2 b4_3 b10_0 b10_1 b10_2 b10_3 b17_0 b17_1 b17_2 k) L (a:Int) 0 0 [] [] 0 (ver:Int) (xs.map zaS) [] 0 (yk .u8 j) 0 e=xZ zb yb zc ya za L (a:Int) 0 [] [] 0 (ver:Int) (xs.map zaS) [] 0 (yk .u8 j) 0 e k:=by
      generalize hg:L=L'
      rw [hl] at hg
      subst hg
      rw [z5,zzr (hf:=.inr he)]
     exact q.trans (t2 he _ _ _ _ _ _ _ _ _ (by rw [QA]; omega))
    | ok p=>
     obtain ⟨m,a4⟩:=p
     obtain ⟨h4,hm⟩:=zcV e4
     rw [zaa]
     simp only []
     rcases zI0 (a:Int) 0 [] [] 0 (ver:Int) (xs.map zaS) 0 hL20 hb hj (fun p1 b4_0 b4_1 b4_2 b4_3 b10_0 b10_1 b10_2 b10_3 b17_0 b17_1 b17_2=>xZ zb yb zc ya za L p1 b4_0 b4_1 b4_2 b4_3 b10_0 b10_1 b10_2 b10_3 b17_0 b17_1 b17_2 k) L m a4 [] (by simpa using hm) (by omega) h4 with ⟨os,a5,r1,r2⟩ | ⟨e,O,at_,r1,r2,r3⟩
     ·rw [XY] at r2
      have h5:=zAS m a4 h4 r1
      refine Eq.trans r2 ?_
      simp only [r1]
      unfold xZ zeu
      rw [zFd hL20 hb hj h5]
      cases e6:gN j 4 a5 with
      | error e=>
       have he:=zp2 e6
       rw [y9,zk]
       exact t4 he _ _ _ _ _ _ _ _ _ _ _ (by rw [QA]; omega)
      | ok p=>
       obtain ⟨lk,a6⟩:=p
       have h6:=zhU e6
       rw [zaa,zk,zr9]
       simp only []
       rcases zJR (β:=β) (a:Int) (xs.map zaS).length 0 [] [] 0 (ver:Int) (xs.map zaS).length (os.map zaL) (lk:Int) hL hb hj (by rw [QA]; omega) (fun p1 p71l b4_0 b4_1 b4_2 b4_3 b10_0 b10_1l b10_2 b10_3 b17_0 b17_1 b17_2 b71=>z9 zb yb zc ya za L p1 p71l b4_0 b4_1 b4_2 b4_3 b10_0 b10_1l b10_2 b10_3 b17_0 b17_1 b17_2 b71 k) L a6 xs [] (by simpa using hx2) hx3 (by simp) (by omega) h6 with ⟨ys,a7,s1,s2⟩ | ⟨e,at_,b',s1,s2,s3⟩
       ·obtain ⟨h7,hy1,hy2⟩:=zAR xs a6 h6 hx2 s1
        refine Eq.trans s2 ?_
        simp only [s1]
        rw [XY,zLR _ _ _ _ _ _ _ _ _ _ (by omega) (by omega) _ ys os (by rw [QA,hy1]) hy2]
        by_cases hh:a7-a>20000
        ·rw [if_pos hh,if_pos hh]; rfl
        ·rw [if_neg hh,if_neg hh]; rfl
       ·refine Eq.trans s3 ?_
        simp only [s1]
        exact zGh _ _ _ _ _ _ _ _ _ _ _ _ s2 _ k
     ·refine Eq.trans r3 ?_
      simp only [r1]
      exact t2 r2 _ _ _ _ _ _ _ _ _ (by rw [QA]; omega)
   ·refine Eq.trans q4 ?_
    simp only [q1]
    exact t0 q2 _ _ _ _ _ _ _ _ (by omega)
end
end
section
set_option linter.unusedSectionVars false
set_option maxRecDepth 100000
variable {β:Type}
theorem zJV{L:Nat}(hL:1000≤L)(j:List Int)(p1:Int)(hp:p1<0∨p1>(j.length:Int))(k:List V→Int→Int→Option β):zac β L (yk .u8 j) p1 k=k zgO 0 5:=by
 have hL20:20≤L:=by omega
 have t4:∀ {e:Int} (he:e≠0) (pl:Nat) (b4_0:Int) (b4_1 b4_2:List (List V)) (b4_3 b10_0:Int) (nl:Nat) (b10_2:List (List V)) (b10_3 at_:Int) (F:List V),nl≤64→zN yc xf xb xa yf L (fun p1 p71l b4_0 b4_1 b4_2 b4_3 b10_0 b10_1l b10_2 b10_3 b17_0 b17_1 b17_2 b71=>yZ yc xf xb xa yf L p1 p71l b4_0 b4_1 b4_2 b4_3 b10_0 b10_1l b10_2 b10_3 b17_0 b17_1 b17_2 b71 k) L p1 pl (nl:Int) ((0:Nat):Int) b4_0 b4_1 b4_2 b4_3 b10_0 nl b10_2 b10_3 (yk .u8 j) at_ e F=k zgO 0 e:=by
  intro e he pl b4_0 b4_1 b4_2 b4_3 b10_0 nl b10_2 b10_3 at_ F hn
  obtain ⟨b',q⟩:=zCC (β:=β) p1 pl b4_0 b4_1 b4_2 b4_3 b10_0 nl b10_2 b10_3 hL20 hn (yk .u8 j) at_ he (fun p1 p71l b4_0 b4_1 b4_2 b4_3 b10_0 b10_1l b10_2 b10_3 b17_0 b17_1 b17_2 b71=>yZ yc xf xb xa yf L p1 p71l b4_0 b4_1 b4_2 b4_3 b10_0 b10_1l b10_2 b10_3 b17_0 b17_1 b17_2 b71 k) L 0 F (by omega) (by omega)
  exact q.trans (zAC _ _ _ _ _ _ _ _ _ _ _ _ he _ k)
 have t2:∀ {e:Int} (he:e≠0) (b4_0:Int) (b4_1 b4_2:List (List V)) (b4_3 b10_0:Int) (R b10_2:List (List V)) (b10_3 at_:Int),R.length≤64→xX yc xf xb xa yf L p1 b4_0 b4_1 b4_2 b4_3 b10_0 R b10_2 b10_3 (yk .u8 j) at_ e k=k zgO 0 e:=by
  intro e he b4_0 b4_1 b4_2 b4_3 b10_0 R b10_2 b10_3 at_ hR
  unfold xX zdq
  rw [zsx L _ he,zk]
  exact t4 he _ _ _ _ _ _ _ _ _ _ _ hR
 have t0:∀ {e:Int} (he:e≠0) (b4_0:Int) (b4_1 b4_2:List (List V)) (b4_3 b10_0:Int) (R:List (List V)) (b10_3 at_:Int),R.length≤64→yW yc xf xb xa yf L p1 b4_0 b4_1 b4_2 b4_3 b10_0 R [] b10_3 (yk .u8 j) at_ e k=k zgO 0 e:=by
  intro e he b4_0 b4_1 b4_2 b4_3 b10_0 R b10_3 at_ hR
  unfold yW zdN
  rw [zyw L _ he]
  obtain ⟨O',q⟩:=zsF (β:=β) (L:=L) p1 b4_0 b4_1 b4_2 b4_3 b10_0 R b10_3 (n:=0) (by decide) (yk .u8 j) at_ he (fun p1 b4_0 b4_1 b4_2 b4_3 b10_0 b10_1 b10_2 b10_3 b17_0 b17_1 b17_2=>xX yc xf xb xa yf L p1 b4_0 b4_1 b4_2 b4_3 b10_0 b10_1 b10_2 b10_3 b17_0 b17_1 b17_2 k) L 0 [] rfl (by omega) (by omega)
  exact q.trans (t2 he _ _ _ _ _ _ _ _ _ hR)
 have tI:∀ {e:Int} (he:e≠0) (v at_:Int),y6 yc xf xb xa yf L (fun p1 b4_0 b4_1 b4_2 b4_3 b10_0 b10_1 b10_2 b10_3 b17_0 b17_1 b17_2=>yW yc xf xb xa yf L p1 b4_0 b4_1 b4_2 b4_3 b10_0 b10_1 b10_2 b10_3 b17_0 b17_1 b17_2 k) L p1 0 0 0 [] [] 0 v [] [] 0 (yk .u8 j) at_ e=k zgO 0 e:=by
  intro e he v at_
  obtain ⟨R',q0,q⟩:=zzi (β:=β) (L:=L) p1 0 [] [] 0 v [] 0 (n:=0) (by decide) (yk .u8 j) at_ he (fun p1 b4_0 b4_1 b4_2 b4_3 b10_0 b10_1 b10_2 b10_3 b17_0 b17_1 b17_2=>yW yc xf xb xa yf L p1 b4_0 b4_1 b4_2 b4_3 b10_0 b10_1 b10_2 b10_3 b17_0 b17_1 b17_2 k) L 0 [] rfl (by omega) (by omega)
  exact q.trans (t0 he _ _ _ _ _ _ _ _ (by omega))
 unfold zac zqw zul
 have h5:(5:Int)≠0:=by decide
 have hw:∀ k:Int→List (List V)→Int→Int→Option β,yc β L (yk .u8 j) p1 0 k=k 0 (yk .u8 j) p1 5:=by
  intro k
  unfold yc zfZ
  rw [xw,if_pos rfl,zMf L j hp,xw,if_neg h5]
 rw [hw,zyw L _ h5]
 exact tI h5 _ _
theorem zIW{L:Nat}(j:List Int)(p1:Int)(hp:p1<0∨p1>(j.length:Int))(k:List V→Int→Int→Option β):yU β L (yk .u8 j) p1 k=k zgO 0 5:=by
 unfold yU zkK zoi
 by_cases h:p1<0
 ·rw [zG h,zk]; exact zhx _
 ·rw [xz h,y7,zG (by omega),zk]; exact zhx _
structure SmallT (t:TxT):Prop where
 i:t.ins.length≤64
 o:t.outs.length≤64
 w:∀ x∈t.ins,x.wit.length≤32
def zT:TxT:=⟨0,[],[],0⟩
theorem zxl:SmallT zT:=⟨by decide,by decide,fun x hx=>by cases hx⟩
theorem zF5{j:List Int}:∀ (n a:Nat) {a':Nat} {ys:List (List Int)},zir j n a=.ok (ys,a')→ys.length=n
 | 0,a,a',ys,h=>by simp only [zir] at h; cases h; rfl
 | n+1,a,a',ys,h=>by
  rw [zir] at h
  split at h
  ·cases h
  ·split at h
   ·cases h
   ·rename_i hz2; cases h; simp [zF5 n _ hz2]
theorem zD6{j:List Int}:∀ (n a:Nat) {a':Nat} {ys:List Outp},zd9 j n a=.ok (ys,a')→ys.length=n
 | 0,a,a',ys,h=>by simp only [zd9] at h; cases h; rfl
 | n+1,a,a',ys,h=>by
  rw [zd9] at h
  split at h
  ·cases h
  ·split at h
   ·cases h
   ·rename_i hz2; cases h; simp [zD6 n _ hz2]
theorem zAf{j:List Int}:∀ (xs:List Inp) (a:Nat) {a':Nat} {ys:List Inp},zd3 j xs a=.ok (ys,a')→ys.length=xs.length∧∀ y∈ys,y.wit.length≤32
 | [],a,a',ys,h=>by simp only [zd3] at h; cases h; exact ⟨rfl,by simp⟩
 | x::xs,a,a',ys,h=>by
  rw [zd3] at h
  split at h
  ·cases h
  ·rename_i n a1 hz
   split at h
   ·cases h
   ·rename_i w a2 hz2
    split at h
    ·cases h
    ·rename_i zs a3 hz3
     cases h
     obtain ⟨r2,r3⟩:=zAf xs a2 hz3
     refine ⟨by simp [r2],?_⟩
     intro y hy
     rcases Q8.1 hy with rfl | hy
     ·have:=(zcV hz).2
      have:=zF5 _ _ hz2
      simp only; omega
     ·exact r3 y hy
theorem zI3{j:List Int}{a a':Nat}(ha:a≤j.length){t:TxT}(h:gTx j a=.ok (t,a')):SmallT t:=by
 unfold gTx at h
 split at h
 ·cases h
 ·rename_i ver a1 e1
  split at h
  ·cases h
  ·rename_i n a2 e2
   split at h
   ·cases h
   ·rename_i xs a3 e3
    split at h
    ·cases h
    ·rename_i m a4 e4
     split at h
     ·cases h
     ·rename_i os a5 e5
      split at h
      ·cases h
      ·rename_i lk a6 e6
       split at h
       ·cases h
       ·rename_i ys a7 e7
        split at h
        ·cases h
        ·cases h
         obtain ⟨w1,w2⟩:=zAf _ _ e7
         have hx:=(zzg n a2 (zcV e2).1 e3).2.1
         have:=(zcV e2).2
         have:=(zcV e4).2
         have ho:=zD6 m a4 e5
         exact ⟨by simp only; omega,by simp only; omega,w2⟩
section
variable {L:Nat} (hL:1000≤L) {j:List Int} (hb:Byt j) (hj:j.length≤100000000)
include hL hb hj
theorem zIM(p1:Int):∃ t q e,SmallT t∧(∀ k:List V→Int→Int→Option β,zac β L (yk .u8 j) p1 k=k (zbR t) q e)∧(∀ k:List V→Int→Int→Option β,yU β L (yk .u8 j) p1 k=k (zbR t) q e):=by
 by_cases hp:p1<0∨p1>(j.length:Int)
 ·exact ⟨zT,0,5,zxl,fun k=>zJV hL j p1 hp k,fun k=>zIW j p1 hp k⟩
 ·obtain ⟨a,rfl⟩:∃ a:Nat,p1=(a:Int):=⟨p1.toNat,by omega⟩
  have ha:a≤j.length:=by omega
  cases e1:gTx j a with
  | error e=>
   refine ⟨zT,0,e,zxl,fun k=>?_,fun k=>?_⟩
   ·rw [zGi hL hb hj ha,e1]; rfl
   ·rw [zGt hL hb hj ha,e1]; rfl
  | ok p=>
   obtain ⟨t,a'⟩:=p
   refine ⟨t,a',0,zI3 ha e1,fun k=>?_,fun k=>?_⟩
   ·rw [zGi hL hb hj ha,e1]; rfl
   ·rw [zGt hL hb hj ha,e1]; rfl
omit hL hb hj in
theorem zKG(J:List (List V))(q:Int):∃ v:Int,(∀ k:Int→Option β,za1 β L J q k=k v)∧(∀ k:Int→Option β,za0 β L J q k=k v):=by
 unfold za1 zvf za0 zuJ
 by_cases h1:q<0
 ·exact ⟨5,fun k=>zG h1 _ _,fun k=>zG h1 _ _⟩
 ·by_cases h2:q>((XM J:Nat):Int)
  ·exact ⟨5,fun k=>by rw [xz h1,zG h2],fun k=>by rw [xz h1,zG h2]⟩
  ·by_cases h3:q<((XM J:Nat):Int)
   ·exact ⟨2,fun k=>by rw [xz h1,xz h2,zG h3],fun k=>by rw [xz h1,xz h2,zG h3]⟩
   ·exact ⟨0,fun k=>by rw [xz h1,xz h2,xz h3],fun k=>by rw [xz h1,xz h2,xz h3]⟩
omit hL hb hj in
theorem zhI(t:TxT):xm [(Qc (0:Int)),(V.gs 35 ([]:List (List V))),(V.gs 2 ([]:List (List V))),(Qc (0:Int))] 0 (zbR t)=zbR t:=zfH (by rw [zhv]; rfl)
omit hL hb hj in
theorem zHG(t:TxT):XN 4 (zbR t)=zbR t:=Xv (by rw [zhv]; exact Nat.le_refl _)
theorem zG0:∃ t e,SmallT t∧(∀ k:List V→Int→Option β,zQ β L (yk .u8 j) k=k (zbR t) e)∧(∀ k:List V→Int→Option β,xN β L (yk .u8 j) k=k (zbR t) e):=by
 obtain ⟨t,q,e,ht,r1,r2⟩:=zIM (β:=β) hL hb hj 0
 obtain ⟨v,v1,v2⟩:=zKG (β:=β) (L:=L) (yk .u8 j) q
 have l4:=zhv t
 unfold zQ zuA xN zpI
 by_cases he:e=0
 ·subst he
  by_cases hv:v=0
  ·subst hv
   refine ⟨t,0,ht,fun k=>?_,fun k=>?_⟩
   ·rw [r1,zj (by omega),zhI,zk,zaJ rfl,v1,xw,if_pos rfl,zj (by omega),zHG,zj (by omega),zhI,zk,zj (by omega)]
   ·rw [r2,zj (by omega),zhI,zk,zaJ rfl,v2,xw,if_pos rfl,zj (by omega),zHG,zj (by omega),zhI,zk,zj (by omega)]
  ·refine ⟨zT,v,zxl,fun k=>?_,fun k=>?_⟩
   ·rw [r1,zj (by omega),zhI,zk,zaJ rfl,v1,xw,if_neg hv,zk]; exact zhx _
   ·rw [r2,zj (by omega),zhI,zk,zaJ rfl,v2,xw,if_neg hv,zk]; exact zhx _
 ·refine ⟨zT,e,zxl,fun k=>?_,fun k=>?_⟩
  ·rw [r1,zj (by omega),zhI,zk,zag he,xw,if_neg he,zk]; exact zhx _
  ·rw [r2,zj (by omega),zhI,zk,zag he,xw,if_neg he,zk]; exact zhx _
end
theorem zGx:∀ (l:List Int),zfN (yk .u8 l)=some (l.map fun n=>UInt8.ofNat n.toNat)
 | []=>rfl
 | n::l=>by
  have:=zGx l
  simp only [yk] at this
  simp [yk,zfN,this]
theorem zDZ{L:Nat}(l:List Int)(k:Bool→Option β):zh β L (yk .u8 l) (yk .u8 l) k=k true:=by
 simp only [zh,zsv,zDK,zGx,BEq.rfl]
theorem zse(x:TxT)(k:List (List V)→Option β):cLd 35 (zbR x) 1 k=k (x.ins.map zbh):=zkT rfl k
theorem zsg(x:TxT)(k:List (List V)→Option β):cLd 2 (zbR x) 2 k=k (x.outs.map zaL):=zkT rfl k
theorem zte(x:Inp)(k:List (List V)→Option β):cLd 1 (zbh x) 34 k=k (zak x.wit):=zkT rfl k
theorem zHx(x:Outp)(k:List (List V)→Option β):cLd 1 (zaL x) 1 k=k (yk .u8 x.scr):=zkT rfl k
theorem zyN(x:TxT):Xu V.dem (XN 4 (zbR x))=zbR x:=Eq.trans rfl rfl
theorem zJM(x:Outp):Xu V.dem (XN 2 (zaL x))=zaL x:=Eq.trans rfl rfl
theorem zJm(x:Inp):xm (We 32 (Qa (0:Int))++[(Qc (0:Int)),(Qc (0:Int)),(V.gs 1 ([]:List (List V)))]) 0 (zbh x)=zbh x:=zfH (by rw [znd]; rfl)
theorem zHw{l:List Inp}{i:Nat}(h:i<l.length):(l.map zbh)[i]?=some (zbh l[i]):=by simp [h]
theorem zGc{l:List Outp}{i:Nat}(h:i<l.length):(l.map zaL)[i]?=some (zaL l[i]):=by simp [h]
theorem zHO{w:List (List Int)}{i:Nat}(h:i<w.length):(zak w)[i]?=some [V.sl 1 (yk .u8 w[i])]:=by simp [zak,h]
theorem zCf:∀ (l:List V),(∀ c∈l,∃ k n,c=V.sc (.int k n))→zeZ l l=some true
 | [],_=>rfl
 | c::l,h=>by
  obtain ⟨k,n,rfl⟩:=h c (by simp)
  have:=zCf l (fun c hc=>h c (by simp [hc]))
  simp only [zeZ,if_true,this,Option.map_some,BEq.rfl,Bool.and_true]
theorem zKu(x:Inp)(k:Bool→Option β):eqC 33 (XN 33 (zbh x)) (XN 33 (zbh x)) k=k true:=by
 have h:zeZ (XN 33 (zbh x)) (XN 33 (zbh x))=some true:=by
  apply zCf
  intro c hc
  simp only [zbh,List.take_succ_cons,List.take_zero,Q8,List.not_mem_nil,or_false] at hc
  rcases hc with rfl | rfl | rfl | rfl | rfl | rfl | rfl | rfl | rfl | rfl | rfl | rfl | rfl | rfl | rfl | rfl | rfl | rfl | rfl | rfl | rfl | rfl | rfl | rfl | rfl | rfl | rfl | rfl | rfl | rfl | rfl | rfl | rfl <;> exact ⟨_,_,rfl⟩
 have hl:(XN 33 (zbh x)).length=33:=by rw [List.length_take,znd]; rfl
 unfold eqC
 rw [zj ⟨hl,hl⟩,h]
theorem zLE{L:Nat}(o:Outp)(k:Bool→Option β):yg β L (zaL o) (zaL o) k=k true:=by
 unfold yg zn1
 rw [zwc,zwc,zaJ rfl,zHx,zHx,zDZ]
theorem zDP{L:Nat}(x:Inp)(hw:x.wit.length≤64)(b2 b3:List V)(p42 p43:Int)(kr:Bool→Option β)(kx:Int→Int→List V→List V→Option β):∀ (m i:Nat),i≤x.wit.length→x.wit.length-i<m →
  zbr zh yg L kr kx m p42 p43 (x.wit.length:Int) (i:Int) b2 b3 (zbh x) (zbh x)=kx p42 p43 b2 b3
 | 0,i,h1,h2=>by omega
 | m+1,i,h1,h2=>by
  rw [zbr]
  unfold zd2
  by_cases hi:i<x.wit.length
  ·rw [zG (by omega),zte,zbX (zHO hi),zws rfl,zte,zbX (zHO hi),zws rfl,zDZ]
   simp only [Xi,zkU]
   rw [zaM (by omega),zk]
   exact zDP x hw b2 b3 p42 p43 kr kx m (i+1) (by omega) (by omega)
  ·rw [xz (by omega)]
theorem zEk{L:Nat}(hL:1000≤L){t:TxT}(ht:SmallT t)(kr:Bool→Option β)(kx:List V→List V→Option β):∀ (m i:Nat),i≤t.ins.length→t.ins.length-i<m →
  zee zh yg L kr kx m (t.ins.length:Int) (i:Int) (zbR t) (zbR t)=kx (zbR t) (zbR t)
 | 0,i,h1,h2=>by omega
 | m+1,i,h1,h2=>by
  have hti:=ht.i
  rw [zee]
  unfold zfo zjC
  by_cases hi:i<t.ins.length
  ·have hw:=ht.w t.ins[i] (W1 hi)
   have l35:=znd t.ins[i]
   rw [zG (by omega),zse,zbX (zHw hi),zse,zbX (zHw hi),zkZ,zj (by omega),zJm,zk,zj (by omega),zk,zj (by omega),zj (by omega),zKu]
   simp only [Xi,zkU]
   rw [zm0,zm0,xw,if_pos rfl,zte,zte,xw,if_pos rfl,zte,show (zak t.ins[i].wit).length=t.ins[i].wit.length by simp [zak]]
   refine (zDP t.ins[i] (by omega) _ _ _ _ _ _ L 0 (by omega) (by omega)).trans ?_
   unfold zdx
   rw [zaM (by omega),zk]
   exact zEk hL ht kr kx m (i+1) (by omega) (by omega)
  ·rw [xz (by omega)]
theorem zA6{L:Nat}{t:TxT}(ht:SmallT t)(kr:Bool→Option β)(kx:Option β):∀ (m i:Nat),i≤t.outs.length→t.outs.length-i<m →
  zdI zh yg L kr kx m (t.outs.length:Int) (i:Int) (zbR t) (zbR t)=kx
 | 0,i,h1,h2=>by omega
 | m+1,i,h1,h2=>by
  have hto:=ht.o
  rw [zdI]
  unfold ziA
  by_cases hi:i<t.outs.length
  ·rw [zG (by omega),zsg,zbX (zGc hi),zsg,zbX (zGc hi),zJM,zLE]
   simp only [Xi,zkU]
   rw [zaM (by omega),zk]
   exact zA6 ht kr kx m (i+1) (by omega) (by omega)
  ·rw [xz (by omega)]
theorem zMp{L:Nat}(hL:1000≤L){t:TxT}(ht:SmallT t)(k:Bool→Option β):zD β L (zbR t) (zbR t) k=k true:=by
 have h1:=ht.i
 have h2:=ht.o
 unfold zD zli zpC
 rw [zvA,zvA,xw,if_pos rfl,zpA,zpA,xw,if_pos rfl,zse,zse,xw,if_pos rfl,zsg,zsg,xw,if_pos rfl,zse,QA]
 refine (zEk hL ht _ _ L 0 (by omega) (by omega)).trans ?_
 unfold zeo zh7
 rw [zsg,QA]
 refine (zA6 ht _ _ L 0 (by omega) (by omega)).trans ?_
 rfl
theorem zIt(L:Nat)(k:Bool→Option β):xQ β (L+200) k=k true:=by kernel_rfl
theorem zMa{L:Nat}(h:200≤L)(k:Bool→Option β):xQ β L k=k true:=by
 obtain ⟨m,rfl⟩:∃ m,L=m+200:=⟨L-200,by omega⟩
 exact zIt m k
end
section
set_option maxRecDepth 100000
variable {β:Type}
theorem ztv(x:Inp):xm (We 32 (Qa (0:Int))++[(Qc (0:Int)),(Qc (0:Int)),(V.gs 1 ([]:List (List V)))]) 0 (zbh x)=zbh x:=zfH (by rw [znd]; rfl)
theorem zAo(x:Outp):xm [(Qe (0:Int)),(V.gs 1 ([]:List (List V)))] 0 (zaL x)=zaL x:=zfH (by rw [zpw]; rfl)
theorem zqv(x:Inp)(k:Option β):chk ((XM (XN 35 (zbh x)))=35∧0+35≤35) k=k:=zj ⟨by rw [zkZ,znd],by decide⟩ k
theorem zAs(x:Outp)(k:Option β):chk ((XM (XN 2 (zaL x)))=2∧0+2≤2) k=k:=zj ⟨by rw [ztP,zpw],by decide⟩ k
theorem zqy(x:Inp)(k:List (List V)→Option β):cLd 1 (zbh x) 34 k=k (zak x.wit):=zkT rfl k
theorem zAF(x:Outp)(k:List (List V)→Option β):cLd 1 (zaL x) 1 k=k (yk .u8 x.scr):=zkT rfl k
theorem zna(x:TxT)(k:List (List V)→Option β):cLd 35 (zbR x) 1 k=k (x.ins.map zbh):=zkT rfl k
theorem zkA(x:TxT)(k:List (List V)→Option β):cLd 2 (zbR x) 2 k=k (x.outs.map zaL):=zkT rfl k
theorem zKf(x:TxT):Xu V.dem (XN 4 (zbR x))=zbR x:=Eq.trans rfl rfl
theorem zKL(x:Outp):Xu V.dem (XN 2 (zaL x))=zaL x:=Eq.trans rfl rfl
theorem up{i:Nat}(h:i≤1000000000):QF .i64 ((i:Int)+1)=((i+1:Nat):Int):=by
 rw [yH (by omega) (by omega)]; omega
theorem zyb(w:List (List Int)):(zak w).length=w.length:=by simp [zak]
theorem zyy{w:List (List Int)}{i:Nat}(h:i<w.length):(zak w)[i]?=some [V.sl 1 (yk .u8 w[i])]:=by simp [zak,h]
theorem zpH{α:Type}{l:List α}{p:α→Bool}{i:Nat}(h:i<l.length):(l.drop i).all p=(p l[i]&&(l.drop (i+1)).all p):=by
 rw [WP h]; rfl
theorem zv5(L:Nat)(b:Int)(kr:Bool→Option β)(kx:Option β)(w:List (List Int))(hw:w.length≤1000000):∀ (n i:Nat),i≤w.length→w.length-i<n →
  zfa L kr kx n b (zak w) (w.length:Int) (i:Int)=ifb ((w.drop i).all fun x=>decide ((x.length:Int)≤b)) kx (kr false)
 | 0,i,h1,h2=>by omega
 | n+1,i,h1,h2=>by
  simp only [zfa,zlV,zk]
  by_cases h:i<w.length
  ·rw [zG (by omega),zbX (zyy h),zws rfl,up (by omega),zv5 L b kr kx w hw n (i+1) (by omega) (by omega),zpH h]
   simp only [y7]
   by_cases hb:((w[i].length:Nat):Int)≤b
   ·rw [xz (by omega)]; simp [hb]
   ·rw [zG (by omega)]; simp [hb,ifb]
  ·rw [xz (by omega),WI (by omega)]; rfl
theorem zIP{L:Nat}(hL:2000≤L){a b:Int}(ha:a≤1000)(w:List (List Int))(k:Bool→Option β):xk β L (zak w) a b k=k (decide ((w.length:Int)≤a)&&w.all fun x=>decide ((x.length:Int)≤b)):=by
 simp only [xk,zn2,zsB,zyb,ziY,zjD]
 by_cases h:(w.length:Int)≤a
 ·rw [xz (by omega),show ((0:Int))=((0:Nat):Int) from rfl,zv5 L b _ _ w (by omega) L 0 (by omega) (by omega)]
  simp only [XX,h,decide_true,X8]
  cases w.all fun x=>decide ((x.length:Int)≤b) <;> rfl
 ·rw [zG (by omega)]; simp [h]
theorem ztl{l:List Inp}{i:Nat}(h:i<l.length):(l.map zbh)[i]?=some (zbh l[i]):=by simp [h]
theorem zyD{l:List Outp}{i:Nat}(h:i<l.length):(l.map zaL)[i]?=some (zaL l[i]):=by simp [h]
def zzh(x:Inp):Bool:=decide ((x.wit.length:Int)≤40)&&x.wit.all fun y=>decide ((y.length:Int)≤600)
theorem zEc{L:Nat}(hL:2000≤L)(kr:Bool→Option β)(kx:List V→Option β)(l:List Inp)(hl:l.length≤1000000)(b1:List V):∀ (n i:Nat),i≤l.length→l.length-i<n →
  zic xk L kr kx n (l.map zbh) (l.length:Int) (i:Int) b1=ifb ((l.drop i).all zzh) (kx b1) (kr false)
 | 0,i,h1,h2=>by omega
 | n+1,i,h1,h2=>by
  simp only [zic,zpN,zk]
  by_cases h:i<l.length
  ·rw [zG (by omega),zbX (ztl h)]
   rw [zqv,zkZ,ztv]
   simp only [zqy,zm0]
   rw [zIP hL (by omega),up (by omega),zEc hL kr kx l hl b1 n (i+1) (by omega) (by omega),zpH h]
   show ifb (!(zzh l[i])) _ _=_
   cases zzh l[i] <;> rfl
  ·rw [xz (by omega),WI (by omega)]; rfl
def zza(x:Outp):Bool:=decide ((x.scr.length:Int)≤600)
theorem zB5{L:Nat}(kr:Bool→Option β)(kx:Option β)(l:List Outp)(hl:l.length≤1000000):∀ (n i:Nat),i≤l.length→l.length-i<n →
  zg3 xk L kr kx n (l.map zaL) (l.length:Int) (i:Int)=ifb ((l.drop i).all zza) kx (kr false)
 | 0,i,h1,h2=>by omega
 | n+1,i,h1,h2=>by
  simp only [zg3,zoy,zk]
  by_cases h:i<l.length
  ·rw [zG (by omega),zbX (zyD h)]
   rw [zAs,ztP,zAo]
   simp only [zAF,zwc,y7]
   rw [up (by omega),zB5 kr kx l hl n (i+1) (by omega) (by omega),zpH h]
   by_cases hb:((l[i].scr.length:Nat):Int)≤600
   ·rw [xz (by omega)]; simp [zza,hb]
   ·rw [zG (by omega)]; simp [zza,hb,ifb]
  ·rw [xz (by omega),WI (by omega)]; rfl
def zAW(t:TxT):Bool:=decide (t.ins.length≤70)&&decide (t.outs.length≤70)&&t.ins.all zzh&&t.outs.all zza
theorem zMF{L:Nat}(hL:2000≤L)(t:TxT)(k:Bool→Option β):zaN β L (zbR t) k=k (zAW t):=by
 simp only [zaN,zt5,zyZ,zhv,zub]
 simp only [zna,zkA,zvA,zpA,QA,zlS,zh4,zmY,zko,zlT]
 by_cases h1:t.ins.length≤70
 ·rw [xz (by omega)]
  by_cases h2:t.outs.length≤70
  ·rw [xz (by omega),show ((0:Int))=((0:Nat):Int) from rfl,zEc hL _ _ _ (by omega) _ L 0 (by omega) (by omega)]
   simp only [zkA,QA]
   rw [zB5 _ _ _ (by omega) L 0 (by omega) (by omega)]
   simp only [XX,zAW,h1,h2,decide_true,X8]
   cases t.ins.all zzh <;> cases t.outs.all zza <;> rfl
  ·rw [zG (by omega)]; simp [zAW,h2]
 ·rw [zG (by omega)]; simp [zAW,h1]
structure KeptP (t:TxT):Prop where
 ni:t.ins.length≤70
 no:t.outs.length≤70
 wl:∀ x∈t.ins,x.wit.length≤40
 wi:∀ x∈t.ins,∀ y∈x.wit,y.length≤600
 sl:∀ x∈t.outs,x.scr.length≤600
theorem zM0{t:TxT}(h:zAW t=true):KeptP t:=by
 simp only [zAW,zzh,zza,Bool.and_eq_true,decide_eq_true_eq,List.all_eq_true] at h
 exact ⟨h.1.1.1,h.1.1.2,fun x hx=>by have:=(h.1.2 x hx).1; omega,fun x hx y hy=>by have:=(h.1.2 x hx).2 y hy; omega,fun x hx=>by have:=h.2 x hx; omega⟩
end
section
set_option maxRecDepth 100000
variable {β:Type}
theorem zGs{a b:Nat}(h:a+b≤1000000000000):(a+b)*1≤yn∧a+b≤yn:=by
 unfold yn; omega
def ziZ(n:Int)(w:Nat):List Int:=(Wy w).map fun (i:Nat)=>QF .u8 (zAA .u64 n (8*(i:Int)))
theorem ze7(n:Int)(w:Nat):(ziZ n w).length=w:=by simp [ziZ]
def zwy(n:Int):List Int:=ziZ (QF .u64 n) 4
def zIy(n:Int):List Int:=ziZ n 8
theorem zi2(n:Int):(zwy n).length=4:=ze7 _ _
theorem zsZ(n:Int):(zIy n).length=8:=ze7 _ _
def szB(n:Int):List Int:=if n<253 then [QF .u8 n] else if n<65536 then 253::ziZ n 2 else if n<4294967296 then 254::ziZ n 4 else 255::ziZ n 8
theorem zsa(n:Int):(szB n).length≤9:=by
 unfold szB; repeat' split
 all_goals simp [ze7]
def bsB(s:List Int):List Int:=szB (s.length:Int)++s
def zsr(x:Inp):List V:=[V.sc (.int .u8 (x.pv.getD 0 0)),V.sc (.int .u8 (x.pv.getD 1 0)),V.sc (.int .u8 (x.pv.getD 2 0)),V.sc (.int .u8 (x.pv.getD 3 0)),V.sc (.int .u8 (x.pv.getD 4 0)),V.sc (.int .u8 (x.pv.getD 5 0)),V.sc (.int .u8 (x.pv.getD 6 0)),V.sc (.int .u8 (x.pv.getD 7 0)),V.sc (.int .u8 (x.pv.getD 8 0)),V.sc (.int .u8 (x.pv.getD 9 0)),V.sc (.int .u8 (x.pv.getD 10 0)),V.sc (.int .u8 (x.pv.getD 11 0)),V.sc (.int .u8 (x.pv.getD 12 0)),V.sc (.int .u8 (x.pv.getD 13 0)),V.sc (.int .u8 (x.pv.getD 14 0)),V.sc (.int .u8 (x.pv.getD 15 0)),V.sc (.int .u8 (x.pv.getD 16 0)),V.sc (.int .u8 (x.pv.getD 17 0)),V.sc (.int .u8 (x.pv.getD 18 0)),V.sc (.int .u8 (x.pv.getD 19 0)),V.sc (.int .u8 (x.pv.getD 20 0)),V.sc (.int .u8 (x.pv.getD 21 0)),V.sc (.int .u8 (x.pv.getD 22 0)),V.sc (.int .u8 (x.pv.getD 23 0)),V.sc (.int .u8 (x.pv.getD 24 0)),V.sc (.int .u8 (x.pv.getD 25 0)),V.sc (.int .u8 (x.pv.getD 26 0)),V.sc (.int .u8 (x.pv.getD 27 0)),V.sc (.int .u8 (x.pv.getD 28 0)),V.sc (.int .u8 (x.pv.getD 29 0)),V.sc (.int .u8 (x.pv.getD 30 0)),V.sc (.int .u8 (x.pv.getD 31 0)),V.sc (.int .u32 (x.pv.getD 32 0))]
def zuc(x:Inp):List Int:=[x.pv.getD 0 0,x.pv.getD 1 0,x.pv.getD 2 0,x.pv.getD 3 0,x.pv.getD 4 0,x.pv.getD 5 0,x.pv.getD 6 0,x.pv.getD 7 0,x.pv.getD 8 0,x.pv.getD 9 0,x.pv.getD 10 0,x.pv.getD 11 0,x.pv.getD 12 0,x.pv.getD 13 0,x.pv.getD 14 0,x.pv.getD 15 0,x.pv.getD 16 0,x.pv.getD 17 0,x.pv.getD 18 0,x.pv.getD 19 0,x.pv.getD 20 0,x.pv.getD 21 0,x.pv.getD 22 0,x.pv.getD 23 0,x.pv.getD 24 0,x.pv.getD 25 0,x.pv.getD 26 0,x.pv.getD 27 0,x.pv.getD 28 0,x.pv.getD 29 0,x.pv.getD 30 0,x.pv.getD 31 0]
def ptB(x:Inp):List Int:=zuc x++zwy (x.pv.getD 32 0)
theorem zK5(x:Inp):(zsr x).length=33:=by simp [zsr]
theorem zIV(x:Inp):(XN 32 (zsr x)).length=32:=by simp [zsr]
theorem zG5(x:Inp):zl 1 32 (XN 32 (zsr x))=yk .u8 (zuc x):=by rfl
theorem zMn(x:Inp)(k:Int→Option β):cI .u32 (zsr x) 32 k=k (x.pv.getD 32 0):=zpf rfl k
theorem zqE(x:Inp):(zuc x).length=32:=by simp [zuc]
theorem zzd(x:Inp):(ptB x).length=36:=by simp [ptB,zqE,zi2]
theorem zAw(k:IntKind):([]:List (List V))=yk k []:=rfl
theorem zJe(k:IntKind)(n:Int):zAA k n 0=n:=by
 simp [zAA,Int.fdiv_one]
theorem zKD(n:Int):ziZ n 1=[QF .u8 n]:=by
 simp [ziZ,List.range_succ,zJe]
theorem zMJ(x:Inp):XN 33 (zbh x)=zsr x:=by rfl
theorem zLZ(x:Inp)(k:Option β):chk (0+33≤(XM (zbh x))) k=k:=zj (by rw [znd]; omega) k
theorem zKy(x:Outp)(k:Option β):chk (0+2≤(XM (zaL x))) k=k:=zj (by rw [zpw]; omega) k
theorem zKI(x:TxT)(k:Option β):chk (0+4≤(XM (zbR x))) k=k:=zj (by rw [zhv]; omega) k
theorem zLx(n:Int):zl 1 1 [V.sc (.int .u8 n)]=yk .u8 [n]:=rfl
theorem zid{L:Nat}{b s:List Int}(h:b.length+s.length≤1000000000000)(k:List (List V)→Option β):xi β L (yk .u8 b) (yk .u8 s) k=k (yk .u8 (b++s)):=by
 simp only [xi,zls,zk,y7,List.replicate_zero,XW,XY]
 rw [yH (by omega) (by omega),zj (by unfold yn; omega),zj (by unfold yn; omega),zj (zGs h),zAu]
theorem zM8(L:Nat)(n:Int)(k:List (List V)→Option β):zr β (L+20) n 1 k=k (yk .u8 (ziZ n 1)):=by kernel_rfl
theorem zM6(L:Nat)(n:Int)(k:List (List V)→Option β):zr β (L+20) n 2 k=k (yk .u8 (ziZ n 2)):=by kernel_rfl
theorem zNc(L:Nat)(n:Int)(k:List (List V)→Option β):zr β (L+20) n 4 k=k (yk .u8 (ziZ n 4)):=by kernel_rfl
theorem zM2(L:Nat)(n:Int)(k:List (List V)→Option β):zr β (L+20) n 8 k=k (yk .u8 (ziZ n 8)):=by kernel_rfl
theorem zsf{L:Nat}(hL:20≤L)(n:Int)(k:List (List V)→Option β):zr β L n 1 k=k (yk .u8 (ziZ n 1))∧zr β L n 2 k=k (yk .u8 (ziZ n 2))∧zr β L n 4 k=k (yk .u8 (ziZ n 4))∧zr β L n 8 k=k (yk .u8 (ziZ n 8)):=by
 obtain ⟨m,rfl⟩:∃ m,L=m+20:=⟨L-20,by omega⟩
 exact ⟨zM8 m n k,zM6 m n k,zNc m n k,zM2 m n k⟩
theorem zCu{L:Nat}(hL:20≤L){b:List Int}(h:b.length≤900000000000)(n:Int)(k:List (List V)→Option β):xd β L (yk .u8 b) n k=k (yk .u8 (b++zwy n)):=by
 simp only [xd,zlE,zk]
 rw [(zsf hL _ _).2.2.1,zid (by rw [ze7]; omega)]; rfl
theorem zMo{L:Nat}(hL:20≤L){b:List Int}(h:b.length≤900000000000)(n:Int)(k:List (List V)→Option β):xU β L (yk .u8 b) n k=k (yk .u8 (b++zIy n)):=by
 simp only [xU,zlK,zk]
 rw [(zsf hL _ _).2.2.2,zid (by rw [ze7]; omega)]; rfl
theorem zw9{L:Nat}(hL:20≤L){b:List Int}(h:b.length≤800000000000){n:Int}(h0:0≤n)(k:List (List V)→Option β):zd β L (yk .u8 b) n k=k (yk .u8 (b++szB n)):=by
 simp only [zd,zkP,zk,zLx,zbc]
 unfold szB
 split
 ·rw [(zsf hL _ _).1,zid (by rw [ze7]; omega),zKD]
 ·split
  ·rw [(zsf hL _ _).2.1,zid (by simp [ze7]),zid (by simp [ze7]; omega)]
   simp
  ·split
   ·rw [(zsf hL _ _).2.2.1,zid (by simp [ze7]),zid (by simp [ze7]; omega)]
    simp
   ·rw [(zsf hL _ _).2.2.2,zid (by simp [ze7]),zid (by simp [ze7]; omega)]
    simp
theorem zEq{L:Nat}(hL:20≤L){b s:List Int}(h:b.length≤700000000000)(hs:s.length≤10000000)(k:List (List V)→Option β):xc β L (yk .u8 b) (yk .u8 s) k=k (yk .u8 (b++bsB s)):=by
 simp only [xc,zjF,zk,y7]
 have:=zsa (s.length:Int)
 rw [zbY (by omega) (by omega),zw9 hL (by omega) (by omega),zid (by simp; omega)]
 simp [bsB]
theorem zKs{L:Nat}(hL:20≤L)(x:Inp)(k:List (List V)→Option β):xg β L (zsr x) k=k (yk .u8 (ptB x)):=by
 simp only [xg,zq4,zV,zkX]
 rw [zj (by rw [zK5]; omega),zj (by rw [zIV]; omega),zG5,zAw .u8,zid (by simp [zqE]),zMn,zCu hL (by simp [zqE])]
 rfl
end
section
set_option maxRecDepth 100000
variable {β:Type}
def inB(x:Inp):List Int:=ptB x++zwy x.seq
def zk5(o:Outp):List Int:=zIy (QF .u64 o.val)++bsB o.scr
def zoM(x:Inp):List Int:=szB (x.wit.length:Int)++x.wit.flatMap bsB
def zkj(t:TxT)(w:Bool):List Int:=zwy t.ver++szB (t.ins.length:Int)++t.ins.flatMap inB++szB (t.outs.length:Int)++t.outs.flatMap zk5++zwy t.lock++(if w then t.ins.flatMap zoM else [])
theorem znD{α:Type}{l:List α}{f:α→List Int}{i:Nat}(h:i<l.length):(l.drop i).flatMap f=f l[i]++(l.drop (i+1)).flatMap f:=by
 rw [WP h,List.flatMap_cons]
theorem zyh{α:Type}{f:α→List Int}{c:Nat}:∀ {l:List α},(∀ x∈l,(f x).length≤c)→(l.flatMap f).length≤l.length*c
 | [],_=>by simp
 | x::l,h=>by
  have h1:=h x (by simp)
  have h2:=zyh (l:=l) (fun y hy=>h y (by simp [hy]))
  rw [List.flatMap_cons,Wm,XV,Nat.add_mul]; omega
theorem zHB(x:Inp):(inB x).length=40:=by simp [inB,zzd,zi2]
theorem zHk(s:List Int):(bsB s).length≤9+s.length:=by have:=zsa (s.length:Int); simp [bsB]; omega
theorem zKS(o:Outp):(zk5 o).length≤17+o.scr.length:=by have:=zHk o.scr; simp [zk5,zsZ]; omega
theorem zKO{x:Inp}(h1:x.wit.length≤40)(h2:∀ y∈x.wit,y.length≤600):(zoM x).length≤30000:=by
 have h3:=zyh (f:=bsB) (c:=609) (l:=x.wit) (fun y hy=>by have:=zHk y; have:=h2 y hy; omega)
 have h4:=zsa (x.wit.length:Int)
 have h5:x.wit.length*609≤40*609:=WG _ h1
 simp only [zoM,Wm]; omega
theorem zMw{L:Nat}(hL:20≤L){x:Outp}(hs:x.scr.length≤600)(k:List (List V)→Option β):xh β L (zaL x) k=k (yk .u8 (zk5 x)):=by
 simp only [xh,zvi,zpw,zub,zk]
 simp only [zAF,zwc]
 rw [zAw .u8,zMo hL (by simp),zEq hL (by simp [zsZ]) (by omega)]
 simp [zk5]
theorem zHm{L:Nat}(hL:20≤L)(kx:Bool→List (List V)→List V→Option β)(l:List Inp)(hl:l.length≤1000000)(w:Bool)(b1:List V):∀ (n i:Nat) (acc:List Int),i≤l.length→l.length-i<n→acc.length+((l.drop i).flatMap inB).length≤500000000000 →
  zdD xd zd xg xh xc L kx n w (yk .u8 acc) (l.map zbh) (l.length:Int) (i:Int) b1=kx w (yk .u8 (acc++(l.drop i).flatMap inB)) b1
 | 0,i,acc,h1,h2,h3=>by omega
 | n+1,i,acc,h1,h2,h3=>by
  simp only [zdD,ziQ,zk]
  by_cases h:i<l.length
  ·rw [znD h] at h3
   simp only [Wm,zHB] at h3
   rw [zG (by omega),zbX (ztl h)]
   rw [zqv,zkZ,ztv]
   simp only [zqy,zm0,zLZ,zMJ]
   rw [zKs hL,y7,y7,zj (zGs (by rw [zzd]; omega)),zAu]
   rw [zCu hL (by simp only [Wm,zzd]; omega)]
   rw [up (by omega),zHm hL kx l hl w b1 n (i+1) _ (by omega) (by omega) (by simp only [Wm,zzd,zi2]; omega),znD h]
   simp [inB]
  ·rw [xz (by omega),WI (by omega)]
   simp
theorem zFT{L:Nat}(hL:20≤L)(kx:Bool→List (List V)→List V→Option β)(l:List Outp)(hl:l.length≤1000000)(hs:∀ x∈l,x.scr.length≤600)(w:Bool)(b1:List V):∀ (n i:Nat) (acc:List Int),i≤l.length→l.length-i<n→acc.length+((l.drop i).flatMap zk5).length≤500000000000 →
  zdb xd zd xg xh xc L kx n w (yk .u8 acc) (l.map zaL) (l.length:Int) (i:Int) b1=kx w (yk .u8 (acc++(l.drop i).flatMap zk5)) b1
 | 0,i,acc,h1,h2,h3=>by omega
 | n+1,i,acc,h1,h2,h3=>by
  simp only [zdb,zhy,zk]
  by_cases h:i<l.length
  ·have h4:=hs l[i] (W1 h)
   rw [znD h] at h3
   simp only [Wm,zk5,zsZ] at h3
   rw [zG (by omega),zbX (zyD h)]
   rw [zAs,ztP,zAo]
   simp only [zKy,zKL]
   rw [zMw hL h4,y7,y7,zj (zGs (by simp only [zk5,Wm,zsZ]; omega)),zAu]
   rw [up (by omega),zFT hL kx l hl hs w b1 n (i+1) _ (by omega) (by omega) (by simp only [Wm,zsZ,zk5]; omega),znD h]
   simp [zk5]
  ·rw [xz (by omega),WI (by omega)]
   simp
theorem zDQ{L:Nat}(hL:20≤L)(kx:Bool→List (List V)→List (List V)→Int→Int→Option β)(wt:List (List Int))(hw:wt.length≤1000000)(hs:∀ y∈wt,y.length≤600)(w:Bool)(p77:List (List V))(p78 p79:Int):∀ (n i:Nat) (acc:List Int),i≤wt.length→wt.length-i<n→acc.length+((wt.drop i).flatMap bsB).length≤500000000000 →
  zaO xd zd xg xh xc L kx n w (yk .u8 acc) p77 p78 p79 (zak wt) (wt.length:Int) (i:Int)=kx w (yk .u8 (acc++(wt.drop i).flatMap bsB)) p77 p78 p79
 | 0,i,acc,h1,h2,h3=>by omega
 | n+1,i,acc,h1,h2,h3=>by
  simp only [zaO,zcW,zk]
  by_cases h:i<wt.length
  ·have h4:=hs wt[i] (W1 h)
   rw [znD h] at h3
   simp only [Wm] at h3
   rw [zG (by omega),zbX (zyy h),zws rfl]
   rw [zEq hL (by omega) (by omega)]
   rw [up (by omega),zDQ hL kx wt hw hs w p77 p78 p79 n (i+1) _ (by omega) (by omega) (by simp only [Wm]; omega),znD h]
   simp
  ·rw [xz (by omega),WI (by omega)]
   simp
end
section
set_option maxRecDepth 100000
variable {β:Type}
theorem zMW(a b:Option β):ifb (!true) a b=b:=rfl
theorem zMu(a b:Option β):ifb (!false) a b=a:=rfl
theorem zK4{L:Nat}(hL:2000≤L)(kx:List (List V)→Option β)(l:List Inp)(hl:l.length≤1000000)(hw:∀ x∈l,x.wit.length≤40)(hs:∀ x∈l,∀ y∈x.wit,y.length≤600):∀ (n i:Nat) (acc:List Int),i≤l.length→l.length-i<n→acc.length+((l.drop i).flatMap zoM).length≤400000000000 →
  zax xd zd xg xh xc L kx n true (yk .u8 acc) (l.map zbh) (l.length:Int) (i:Int)=kx (yk .u8 (acc++(l.drop i).flatMap zoM)):=by
 intro n
 induction n with
 | zero=>intro i acc h1 h2 h3; omega
 | succ n ih=>
  intro i acc h1 h2 h3
  simp only [zax,zcw,zdz,zk]
  by_cases h:i<l.length
  ·have h4:=hw l[i] (W1 h)
   have h5:=hs l[i] (W1 h)
   have h6:=zsa (l[i].wit.length:Int)
   rw [znD h] at h3
   simp only [Wm,zoM] at h3
   rw [zG (by omega),zbX (ztl h)]
   rw [zqv,zkZ,ztv]
   simp only [zqy,zm0,zyb]
   rw [zMW]
   rw [zbY (by omega) (by omega),zw9 (by omega) (by omega) (by omega)]
   rw [show ((0:Int))=((0:Nat):Int) from rfl,zDQ (by omega) _ _ (by omega) h5 _ _ _ _ L 0 _ (by omega) (by omega) (by simp only [XX,Wm]; omega)]
   simp only [zcF,zk,XX]
   rw [up (by omega),ih (i+1) _ (by omega) (by omega) (by simp only [Wm,zoM]; omega),znD h]
   simp [zoM]
  ·rw [xz (by omega),WI (by omega)]
   simp
theorem zKm{L:Nat}(hL:0<L)(kx:List (List V)→Option β)(l:List Inp)(p5:List (List V)) :
  zax xd zd xg xh xc L kx L false p5 (l.map zbh) (l.length:Int) ((0:Nat):Int)=kx p5:=by
 have key:∀ (n:Nat),0<n→zax xd zd xg xh xc L kx n false p5 (l.map zbh) (l.length:Int) ((0:Nat):Int)=kx p5:=by
  intro n hn
  obtain ⟨m,rfl⟩:∃ m,n=m+1:=⟨n-1,by omega⟩
  simp only [zax,zcw,zdz,zk]
  by_cases h:0<l.length
  ·rw [zG (by omega),zbX (ztl h)]
   rw [zqv,zkZ,ztv]
   simp only [zqy,zm0]
   rw [zMu]
  ·rw [xz (by omega)]
 exact key L hL
structure Lens (t:TxT):Prop where
 a:(t.ins.flatMap inB).length≤70*40
 b:(t.outs.flatMap zk5).length≤70*617
 c:(t.ins.flatMap zoM).length≤70*30000
theorem KeptP.lens{t:TxT}(h:KeptP t):Lens t:=by
 have hi:=h.ni
 have ho:=h.no
 have h1:=zyh (f:=inB) (c:=40) (l:=t.ins) (fun x _=>by rw [zHB]; omega)
 have h2:=zyh (f:=zk5) (c:=617) (l:=t.outs) (fun x hx=>by have:=zKS x; have:=h.sl x hx; omega)
 have h3:=zyh (f:=zoM) (c:=30000) (l:=t.ins) (fun x hx=>zKO (h.wl x hx) (h.wi x hx))
 have e1:t.ins.length*40≤70*40:=WG _ hi
 have e2:t.outs.length*617≤70*617:=WG _ ho
 have e3:t.ins.length*30000≤70*30000:=WG _ hi
 exact ⟨by omega,by omega,by omega⟩
theorem zA7{L:Nat}(hL:2000≤L){t:TxT}(h:KeptP t)(w:Bool)(k:List (List V)→Option β):zg β L (zbR t) w k=k (yk .u8 (zkj t w)):=by
 obtain ⟨q1,q2,q3⟩:=h.lens
 have hi:=h.ni
 have ho:=h.no
 have s1:=zsa (t.ins.length:Int)
 have s2:=zsa (t.outs.length:Int)
 simp only [zg,zlc,zpd,zhv,zub,zk]
 simp only [zna,zkA,zvA,zpA,QA]
 rw [zAw .u8,zCu (by omega) (by simp),zbY (by omega) (by omega),zw9 (by omega) (by simp [zi2]) (by omega),XY]
 rw [show ((0:Int))=((0:Nat):Int) from rfl,zHm (by omega) _ _ (by omega) _ _ L 0 _ (by omega) (by omega) (by simp only [XX,Wm,zi2]; omega)]
 simp only [zd7,zhz,zk,zna,zkA,zpA,QA,XX]
 rw [zbY (by omega) (by omega),zw9 (by omega) (by simp only [Wm,zi2]; omega) (by omega)]
 rw [show ((0:Int))=((0:Nat):Int) from rfl,zFT (by omega) _ _ (by omega) h.sl _ _ L 0 _ (by omega) (by omega) (by simp only [XX,Wm,zi2]; omega)]
 simp only [zdr,zf8,zk,zna,zkA,zpA,QA,XX]
 rw [zCu (by omega) (by simp only [Wm,zi2]; omega),show ((0:Int))=((0:Nat):Int) from rfl]
 cases w with
 | false=>
  rw [zKm (by omega)]
  simp only [zdg,zkj,Bool.false_eq_true,if_false,X0]
 | true=>
  rw [zK4 hL _ _ (by omega) h.wl h.wi L 0 _ (by omega) (by omega) (by simp only [XX,Wm,zi2]; omega)]
  simp only [zdg,XX,zkj,if_true]
end
section
set_option maxRecDepth 100000
variable {β:Type}
def okO(o:Outp):Bool:=decide (0≤o.val)&&decide (o.scr.length≤520)
def okI(x:Inp):Bool:=decide (x.wit.length≤32)&&x.wit.all fun y=>decide (y.length≤520)
def zhT(t:TxT):Bool:=decide (t.ins.length≤64)&&decide (t.outs.length≤64)&&t.outs.all okO&&t.ins.all okI&&decide ((zkj t true).length≤20000)
theorem zGw{L:Nat}(kr:Bool→Option β)(kx:List V→Option β)(l:List Outp)(hl:l.length≤1000000)(b1:List V):∀ (n i:Nat),i≤l.length→l.length-i<n →
  ze8 zg L kr kx n (l.map zaL) (l.length:Int) (i:Int) b1=ifb ((l.drop i).all okO) (kx b1) (kr false)
 | 0,i,h1,h2=>by omega
 | n+1,i,h1,h2=>by
  simp only [ze8,zlQ,zk]
  by_cases h:i<l.length
  ·rw [zG (by omega),zbX (zyD h)]
   rw [zAs,ztP,zAo]
   simp only [zAF,zwc,y7]
   rw [up (by omega),zGw kr kx l hl b1 n (i+1) (by omega) (by omega),zpH h]
   by_cases hv:0≤l[i].val
   ·rw [xz (by omega)]
    by_cases hb:l[i].scr.length≤520
    ·rw [xz (by omega)]; simp [okO,hb,hv]
    ·rw [zG (by omega)]
     have:okO l[i]=false:=by simp [okO,hb]
     rw [this]; rfl
   ·rw [zG (by omega)]
    have:okO l[i]=false:=by simp [okO,hv]
    rw [this]; rfl
  ·rw [xz (by omega),WI (by omega)]; rfl
theorem zD3{L:Nat}(kr:Bool→Option β)(kx:List (List V)→Int→Int→List V→Option β)(wt:List (List Int))(hw:wt.length≤1000000)(p37:List (List V))(p38 p39:Int)(b1:List V):∀ (n i:Nat),i≤wt.length→wt.length-i<n →
  zbS zg L kr kx n p37 p38 p39 (zak wt) (wt.length:Int) (i:Int) b1=ifb ((wt.drop i).all fun y=>decide (y.length≤520)) (kx p37 p38 p39 b1) (kr false)
 | 0,i,h1,h2=>by omega
 | n+1,i,h1,h2=>by
  simp only [zbS,zeC,zk]
  by_cases h:i<wt.length
  ·rw [zG (by omega),zbX (zyy h),zws rfl]
   rw [up (by omega),zD3 kr kx wt hw p37 p38 p39 b1 n (i+1) (by omega) (by omega),zpH h,y7]
   by_cases hb:wt[i].length≤520
   ·rw [xz (by omega)]; simp [hb]
   ·rw [zG (by omega)]; simp [hb,ifb]
  ·rw [xz (by omega),WI (by omega)]; rfl
theorem zLK{L:Nat}(hL:2000≤L)(kr:Bool→Option β)(kx:List V→Option β)(l:List Inp)(hl:l.length≤1000000)(b1:List V):∀ (n i:Nat),i≤l.length→l.length-i<n →
  zeJ zg L kr kx n (l.map zbh) (l.length:Int) (i:Int) b1=ifb ((l.drop i).all okI) (kx b1) (kr false):=by
 intro n
 induction n with
 | zero=>intro i h1 h2; omega
 | succ n ih=>
  intro i h1 h2
  simp only [zeJ,zgg,zkp,zk]
  by_cases h:i<l.length
  ·rw [zG (by omega),zbX (ztl h)]
   rw [zqv,zkZ,ztv]
   simp only [zqy,zm0,zyb]
   rw [zpH h]
   by_cases hw:l[i].wit.length≤32
   ·rw [xz (by omega),show ((0:Int))=((0:Nat):Int) from rfl,zD3 _ _ _ (by omega) _ _ _ _ L 0 (by omega) (by omega)]
    simp only [zd0,zdG,zk,XX]
    rw [up (by omega),ih (i+1) (by omega) (by omega)]
    have:okI l[i]=l[i].wit.all fun y=>decide (y.length≤520):=by simp [okI,hw]
    rw [this]
    cases l[i].wit.all fun y=>decide (y.length≤520) <;> rfl
   ·rw [zG (by omega)]
    have:okI l[i]=false:=by simp [okI,hw]
    rw [this]; rfl
  ·rw [xz (by omega),WI (by omega)]; rfl
theorem zIH{L:Nat}(hL:2000≤L){t:TxT}(h:KeptP t)(k:Bool→Option β):zaA β L (zbR t) k=k (zhT t):=by
 have hi:=h.ni
 have ho:=h.no
 simp only [zaA,znW,ztt,zhv,zub]
 simp only [zna,zkA,zvA,zpA,QA]
 by_cases h1:t.ins.length≤64
 ·rw [xz (by omega)]
  by_cases h2:t.outs.length≤64
  ·rw [xz (by omega),show ((0:Int))=((0:Nat):Int) from rfl,zGw _ _ _ (by omega) _ L 0 (by omega) (by omega)]
   simp only [zfx,zjI,zje,zna,zkA,QA,XX]
   cases e1:t.outs.all okO
   ·have e:zhT t=false:=by simp [zhT,e1]
    rw [e]; rfl
   ·rw [zxf,show ((0:Int))=((0:Nat):Int) from rfl,zLK hL _ _ _ (by omega) _ L 0 (by omega) (by omega)]
    simp only [zi3,zis,zna,zkA,XX,zKI,zKf]
    cases e2:t.ins.all okI
    ·have e:zhT t=false:=by simp [zhT,e2]
     rw [e]; rfl
    ·rw [zxf,zA7 hL h,y7]
     have e:decide (((zkj t true).length:Int)≤20000)=zhT t:=by
      simp only [zhT,h1,h2,e1,e2,decide_true,X8]
      exact decide_eq_decide.2 (by omega)
     rw [e]
  ·have e:zhT t=false:=by simp [zhT,h2]
   rw [zG (by omega),e]
 ·have e:zhT t=false:=by simp [zhT,h1]
  rw [zG (by omega),e]
def zL1:List V:=We 32 (Qa (0:Int))++[(Qc (4294967295:Int))]
def eqP(x y:Inp):Bool:=(zeZ (zsr x) (zsr y)).getD false
def eqN(x:Inp):Bool:=(zeZ (zsr x) zL1).getD false
end
section
set_option linter.unusedSectionVars false
set_option maxRecDepth 100000
variable {β:Type}
def leB(n:Nat):Nat→List Int
 | 0=>[]
 | w+1=>((n % 256:Nat):Int)::leB (n / 256) w
theorem zfK:∀ (w n:Nat),(leB n w).length=w
 | 0,n=>rfl
 | w+1,n=>by simp [leB,zfK w]
theorem zMc(n i:Nat)(hi:i≤7):QF .u8 (zAA .u64 ((n:Nat):Int) (8*(i:Int)))=((n / 256 ^ i % 256:Nat):Int):=by
 have e1:(8*(i:Int)).toNat=8*i:=by omega
 have e2:min (8*i) (IntKind.bits .u64)=8*i:=Nat.min_eq_left (by show 8*i≤64; omega)
 unfold zAA
 rw [e1,e2]
 have e3:((2:Int) ^ (8*i))=((256 ^ i:Nat):Int):=by rw [zGv,Int.natCast_pow]; rfl
 rw [e3,Int.fdiv_eq_ediv_of_nonneg _ (Int.natCast_nonneg _),← Int.natCast_ediv]
 have:=zHg (n:=((n / 256 ^ i % 256:Nat):Int)) (by omega) (by omega)
 rw [← this]
 unfold QF
 simp only [IntKind.signed,IntKind.bits]
 have h8:(2:Int) ^ 8=256:=by decide
 have hh:(((n / 256 ^ i:Nat):Int) % 256)=(((n / 256 ^ i % 256:Nat):Int) % 256):=by omega
 simp [h8,hh]
theorem zBw:∀ (w n:Nat),(Wy w).map (fun i=>((n / 256 ^ i % 256:Nat):Int))=leB n w
 | 0,n=>rfl
 | w+1,n=>by
  rw [List.range_succ_eq_map,QV,List.map_map,leB,← zBw w (n / 256)]
  simp only [Nat.pow_zero,Nat.div_one]
  congr 1
  apply X5
  intro i _
  simp only [Function.comp_apply,Nat.pow_succ,Nat.div_div_eq_div_mul,Nat.mul_comm]
theorem zzo(n w:Nat)(hw:w≤8):ziZ ((n:Nat):Int) w=leB n w:=by
 rw [← zBw]
 unfold ziZ
 apply X5
 intro i hi
 exact zMc n i (by have:=List.mem_range.1 hi; omega)
theorem zvJ{n:Nat}(h:n<4294967296):zwy ((n:Nat):Int)=leB n 4:=by
 unfold zwy
 rw [zbY (by omega) (by omega),zzo _ _ (by decide)]
theorem zHt(n:Nat):zIy ((n:Nat):Int)=leB n 8:=zzo _ _ (by decide)
theorem zLv{n:Nat}(h:n<253):szB ((n:Nat):Int)=leB n 1:=by
 unfold szB
 rw [if_pos (by omega),zHg (by omega) (by omega)]
 simp only [leB]
 rw [Nat.mod_eq_of_lt (by omega)]
theorem zLl{n:Nat}(h:¬ n<253)(h2:n<65536):szB ((n:Nat):Int)=leB 253 1++leB n 2:=by
 unfold szB
 rw [if_neg (by omega),if_pos (by omega),zzo _ _ (by decide)]
 rfl
theorem zLq{n:Nat}(h:¬ n<253)(h2:¬ n<65536)(h3:n<4294967296):szB ((n:Nat):Int)=leB 254 1++leB n 4:=by
 unfold szB
 rw [if_neg (by omega),if_neg (by omega),if_pos (by omega),zzo _ _ (by decide)]
 rfl
theorem zkV{j x r:List Int}{a:Nat}(h:j.drop a=x++r):j.drop (a+x.length)=r:=by
 rw [← List.drop_drop,h,List.drop_left]
theorem zkN{j x r:List Int}{a:Nat}(h:j.drop a=x++r)(ha:a≤j.length):a+x.length≤j.length:=by
 have:=congrArg XM h
 rw [List.length_drop,Wm] at this
 omega
theorem zxt:∀ (w n a:Nat) {j r:List Int},n<256 ^ w→j.drop a=leB n w++r→le j a w=n
 | 0,n,a,j,r,hn,h=>by simp [le] at hn ⊢; omega
 | w+1,n,a,j,r,hn,h=>by
  rw [leB,List.cons_append] at h
  have hlt:a<j.length:=by
   rcases Nat.lt_or_ge a j.length with h1 | h1
   ·exact h1
   ·rw [List.drop_eq_nil_of_le h1] at h; cases h
  rw [WP hlt] at h
  have h0:=(List.cons.inj h).1
  have h1:=(List.cons.inj h).2
  have hb:zoR j a=n % 256:=by
   unfold zoR
   rw [Ws,Wc hlt,Option.getD_some,h0]
   omega
  rw [zC7,zxt w (n / 256) (a+1) (by rw [Nat.pow_succ] at hn; exact Nat.div_lt_of_lt_mul (by omega)) h1,hb]
  omega
theorem wrN{j r:List Int}{w n a:Nat}(ha:a≤j.length)(hn:n<256 ^ w)(h:j.drop a=leB n w++r):gN j w a=.ok (n,a+w)∧j.drop (a+w)=r:=by
 have h1:=zkN h ha
 rw [zfK] at h1
 have h2:=zkV h
 rw [zfK] at h2
 unfold gN
 rw [if_pos h1,zxt w n a hn h]
 exact ⟨rfl,h2⟩
theorem wrS{j r:List Int}{n a most:Nat}(ha:a≤j.length)(hn:n≤most)(hm:most≤1000000)(h:j.drop a=szB ((n:Nat):Int)++r):∃ a',zbP j most a=.ok (n,a')∧a'≤j.length∧j.drop a'=r:=by
 by_cases h1:n<253
 ·rw [zLv h1] at h
  have hl:=zkN h ha
  rw [zfK] at hl
  have hd:=zkV h
  rw [zfK] at hd
  have hv:=zxt 1 n a (by omega) h
  refine ⟨a+1,?_,hl,hd⟩
  unfold zbP
  rw [if_pos hl,hv,if_pos h1,if_neg (by omega)]
 ·by_cases h2:n<65536
  ·rw [zLl h1 h2,Wu] at h
   have hl:=zkN h ha
   rw [zfK] at hl
   have hd:=zkV h
   rw [zfK] at hd
   have hv:=zxt 1 253 a (by decide) h
   have hl2:=zkN hd hl
   rw [zfK] at hl2
   have hd2:=zkV hd
   rw [zfK] at hd2
   have hv2:=zxt 2 n (a+1) h2 hd
   refine ⟨a+1+2,?_,hl2,hd2⟩
   unfold zbP zst
   rw [if_pos hl,hv,if_neg (by decide),if_pos rfl,if_pos hl2,hv2,if_neg h1,if_neg (by omega)]
  ·rw [zLq h1 h2 (by omega),Wu] at h
   have hl:=zkN h ha
   rw [zfK] at hl
   have hd:=zkV h
   rw [zfK] at hd
   have hv:=zxt 1 254 a (by decide) h
   have hl2:=zkN hd hl
   rw [zfK] at hl2
   have hd2:=zkV hd
   rw [zfK] at hd2
   have hv2:=zxt 4 n (a+1) (by omega) hd
   refine ⟨a+1+4,?_,hl2,hd2⟩
   unfold zbP zst
   rw [if_pos hl,hv,if_neg (by decide),if_neg (by decide),if_pos rfl,if_pos hl2,hv2,if_neg h2,if_neg (by omega)]
theorem wrB{j r s:List Int}{a most:Nat}(ha:a≤j.length)(hn:s.length≤most)(hm:most≤1000000)(h:j.drop a=bsB s++r):∃ a',zc7 j most a=.ok (s,a')∧a'≤j.length∧j.drop a'=r:=by
 unfold bsB at h
 rw [Wu] at h
 obtain ⟨a1,e1,h1,d1⟩:=wrS ha hn hm h
 have hl:=zkN d1 h1
 refine ⟨a1+s.length,?_,hl,zkV d1⟩
 unfold zc7
 rw [e1]
 simp only [if_pos hl]
 rw [d1,List.take_left]
end
end Go.Proofs.Ytoeobffjdbdpgaa
