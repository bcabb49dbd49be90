/- TxReads: for every input the call returns true, and each argument reads afterwards as it read before. No condition. -/
import Derived.Test.YtoeobffjdbdpgaaMTxReads12
namespace Go.Proofs.Ytoeobffjdbdpgaa
section
set_option linter.unusedVariables false
set_option linter.unusedSimpArgs false
set_option linter.unusedSectionVars false
set_option maxRecDepth 100000
variable {β:Type}
section
variable {L:Nat} (hL:20≤L) {j:List Int} (hb:Byt j) (hj:j.length≤100000000) {a:Nat} (ha:a≤j.length)
include hL hb hj ha
theorem zII (k:Int→List (List V)→Int→Int→Option β):xe β L (64:Int) (zj .u8 j) a 0 k=zda (zbY j 64 a) (fun v a'=>k v (zj .u8 j) a' 0) (fun e=>k 0 (zj .u8 j) a e):=zHz hL hb hj ha 64 (by decide) k
theorem zJA (k:Int→List (List V)→Int→Int→Option β):xe β L (32:Int) (zj .u8 j) a 0 k=zda (zbY j 32 a) (fun v a'=>k v (zj .u8 j) a' 0) (fun e=>k 0 (zj .u8 j) a e):=zHz hL hb hj ha 32 (by decide) k
theorem zHu (k1 k2:List (List V)→List (List V)→Int→Int→Option β):ye β L (520:Int) (zj .u8 j) a 0 k1 k2=zda (zcO j 520 a) (fun v a'=>k2 (zj .u8 v) (zj .u8 j) a' 0) (fun e=>k1 [] (zj .u8 j) a e):=zJm hL hb hj ha 520 (by decide) k1 k2
theorem zIL (k:Int→List (List V)→Int→Int→Option β):yb β L (64:Int) (zj .u8 j) a 0 k=zda (zbY j 64 a) (fun v a'=>k v (zj .u8 j) a' 0) (fun e=>k 0 (zj .u8 j) 0 e):=zHI hL hb hj ha 64 (by decide) k
theorem zJE (k:Int→List (List V)→Int→Int→Option β):yb β L (32:Int) (zj .u8 j) a 0 k=zda (zbY j 32 a) (fun v a'=>k v (zj .u8 j) a' 0) (fun e=>k 0 (zj .u8 j) 0 e):=zHI hL hb hj ha 32 (by decide) k
theorem zHF (k1 k2:List (List V)→List (List V)→Int→Int→Option β):za β L (520:Int) (zj .u8 j) a 0 k1 k2=zda (zcO j 520 a) (fun v a'=>k2 (zj .u8 v) (zj .u8 j) a' 0) (fun e=>k2 [] (zj .u8 j) 0 e):=zJj hL hb hj ha 520 (by decide) k1 k2
end
section
variable {L:Nat} (hL:20≤L) {j:List Int} (hb:Byt j) (hj:j.length≤100000000)
variable (p1 zJV:Int) (zJW zJX:List (List V)) (zJY zJZ:Int) (zJ1:List (List V)) (zJ0:Int)
include hL hb hj
theorem zFW {n:Nat} (hn:n≤64) (kx:zhr β):∀ (m i a:Nat) (xs:List Inp),xs.length=i→i≤n→n - i < m→a≤j.length →
  (∃ ys a',zgX j (n - i) a=.ok (ys,a')∧xY yc xe xb xa ye L kx m p1 (n:Int) (i:Int) zJV zJW zJX zJY zJZ (xs.map zaA) zJ1 zJ0 (zj .u8 j) (a:Int) 0=kx p1 zJV zJW zJX zJY zJZ ((xs++ys).map zaA) zJ1 zJ0 (zj .u8 j) (a':Int) 0) ∨
  (∃ e R at_,zgX j (n - i) a=.error e∧e≠0∧R.length=n∧xY yc xe xb xa ye L kx m p1 (n:Int) (i:Int) zJV zJW zJX zJY zJZ (xs.map zaA) zJ1 zJ0 (zj .u8 j) (a:Int) 0=kx p1 zJV zJW zJX zJY zJZ R zJ1 zJ0 (zj .u8 j) at_ e)
 | 0,i,a,xs,h1,h2,h3,ha=>by omega
 | m+1,i,a,xs,h1,h2,h3,ha=>by
  by_cases hi:i < n
  ·have hn1:n - i=(n - (i+1))+1:=by omega
   rw [hn1,xY,zCJ (hi:=hi) (hn:=hn) (hR:=by rw [List.length_map]; omega),zJh hL hb hj ha]
   have bad:∀ (e:Int) (he:e≠0) (at_:Int) (r:List V),∃ R':List (List V),R'.length=n∧xY yc xe xb xa ye L kx m p1 (n:Int) ((i+1:Nat):Int) zJV zJW zJX zJY zJZ (xs.map zaA++[r]) zJ1 zJ0 (zj .u8 j) at_ e=kx p1 zJV zJW zJX zJY zJZ R' zJ1 zJ0 (zj .u8 j) at_ e:=fun e he at_ r =>
    zvM p1 zJV zJW zJX zJY zJZ zJ1 zJ0 hn (zj .u8 j) at_ he kx m (i+1) _ (by simp [h1]) (by omega) (by omega)
   cases e1:zgR j a with
   | error e =>
    have he:=zxd e1
    obtain ⟨R',q1,q2⟩:=bad e he (a:Int) (zbJ zbf 0 0 zgs)
    refine .inr ⟨e,R',(a:Int),by simp only [zgX,gIn,e1],he,q1,?_⟩
    rw [z4,zh zxZ,zpn L _ he,zpn L _ he]
    exact q2
   | ok p =>
    obtain ⟨h,a1⟩:=p
    obtain ⟨k1,k2⟩:=zpb e1
    rw [z0,zh (by rw [zbW]; omega),zBr hL hb hj k1]
    cases e2:gN j 4 a1 with
    | error e =>
     have he:=zm2 e2
     obtain ⟨R',q1,q2⟩:=bad e he (a1:Int) (zbJ (row .u8 h) 0 0 zgs)
     refine .inr ⟨e,R',(a1:Int),by simp only [zgX,gIn,e1,e2],he,q1,?_⟩
     rw [z4,zpn L _ he]
     exact q2
    | ok p =>
     obtain ⟨ix,a2⟩:=p
     have k3:=zlx e2
     rw [z0,zBr hL hb hj k3]
     cases e3:gN j 4 a2 with
     | error e =>
      have he:=zm2 e3
      obtain ⟨R',q1,q2⟩:=bad e he (a2:Int) (zbJ (row .u8 h) ix 0 zgs)
      refine .inr ⟨e,R',(a2:Int),by simp only [zgX,gIn,e1,e2,e3],he,q1,?_⟩
      rw [z4]
      exact q2
     | ok p =>
      obtain ⟨sq,a3⟩:=p
      have k4:=zlx e3
      have hrow:xs.map zaA++[zbJ (row .u8 h) (ix:Int) (sq:Int) zgs]=(xs++[(⟨h++[(ix:Int)],sq,[]⟩:Inp)]).map zaA:=by rw [List.map_append,List.map_cons,List.map_nil,zDI k2]
      rw [z0,hrow]
      rcases zFW hn kx m (i+1) a3 (xs++[(⟨h++[(ix:Int)],sq,[]⟩:Inp)]) (by simp [h1]) (by omega) (by omega) k4 with ⟨ys,a',q1,q2⟩ | ⟨e,R,at_,q1,q2,q3,q4⟩
      ·refine .inl ⟨(⟨h++[(ix:Int)],sq,[]⟩:Inp)::ys,a',by simp only [zgX,gIn,e1,e2,e3,q1],?_⟩
       rw [q2,List.append_assoc]
       rfl
      ·exact .inr ⟨e,R,at_,by simp only [zgX,gIn,e1,e2,e3,q1],q2,q3,q4⟩
  ·have hn0:n - i=0:=by omega
   refine .inl ⟨[],a,by rw [hn0]; rfl,?_⟩
   rw [xY,zDC (hi:=hi),List.append_nil]
end
section
variable {L:Nat} (p1 zJV:Int) (zJW zJX:List (List V)) (zJY zJZ:Int) (zKf:List (List V)) (zJ0:Int)
theorem zz9 {n i:Nat} (hi:i < n) (hn:n≤64) (O J:List (List V)) (hO:O.length≤64) (at_ f:Int) (kh:zes β) (kx:zhq β) :
  zco yc xe xb xa ye L p1 (n:Int) (i:Int) zJV zJW zJX zJY zJZ zKf O zJ0 J at_ f kh kx =
  xa β L J at_ f (fun v29 v30 v31 v32=>ye β L (520:Int) v30 v31 (if v29 ≥ (9223372036854775808:Int) then 90 else v32)
   (fun v34 v35 v36 v37=>kh p1 (n:Int) ((i+1:Nat):Int) zJV zJW zJX zJY zJZ zKf (O++[[(V.sc (.int .i64 (IntKind.wrap .i64 v29))),(V.sl 1 v34)]]) zJ0 v35 v36 v37)
   (fun v34 v35 v36 v37=>kh p1 (n:Int) ((i+1:Nat):Int) zJV zJW zJX zJY zJZ zKf (O++[[(V.sc (.int .i64 (IntKind.wrap .i64 v29))),(V.sl 1 v34)]]) zJ0 v35 v36 v37)):=by
 have hs:(100000000:Nat)≤yn:=by decide
 have hc:∀ (x y:V),xj 2 1 [x,y]=[[x,y]]:=fun x y=>rfl
 unfold zco
 rw [yX (by omega)]
 congr 1
 funext v29 v30 v31 v32
 rw [zaZ]
 by_cases h:v29 ≥ (9223372036854775808:Int)
 ·rw [if_pos h,if_pos h,zi]
  congr 1
  ·funext v34 v35 v36 v37
   rw [hc,zh (by simp only [List.length_cons,List.length_nil]; omega),zi,zax (by omega),zi]
  ·funext v34 v35 v36 v37
   rw [hc,zh (by simp only [List.length_cons,List.length_nil]; omega),zi,zax (by omega),zi]
 ·rw [if_neg h,if_neg h,zi]
  congr 1
  ·funext v34 v35 v36 v37
   rw [hc,zh (by simp only [List.length_cons,List.length_nil]; omega),zi,zax (by omega),zi]
  ·funext v34 v35 v36 v37
   rw [hc,zh (by simp only [List.length_cons,List.length_nil]; omega),zi,zax (by omega),zi]
theorem zCf {n i:Nat} (hi:¬ i < n) (O J:List (List V)) (at_ f:Int) (kh:zes β) (kx:zhq β) :
  zco yc xe xb xa ye L p1 (n:Int) (i:Int) zJV zJW zJX zJY zJZ zKf O zJ0 J at_ f kh kx=kx p1 zJV zJW zJX zJY zJZ zKf O zJ0 J at_ f:=by
 unfold zco
 rw [xL (by omega)]
theorem zpW {n:Nat} (hn:n≤64) (J:List (List V)) (at_:Int) {e:Int} (he:e≠0) (kx:zhq β):∀ (m i:Nat) (O:List (List V)),O.length=i→i≤n→n - i < m →
  ∃ O':List (List V),z9 yc xe xb xa ye L kx m p1 (n:Int) (i:Int) zJV zJW zJX zJY zJZ zKf O zJ0 J at_ e=kx p1 zJV zJW zJX zJY zJZ zKf O' zJ0 J at_ e
 | 0,i,O,h1,h2,h3=>by omega
 | m+1,i,O,h1,h2,h3=>by
  by_cases hi:i < n
  ·obtain ⟨O',e2⟩:=zpW hn J at_ he kx m (i+1) (O++[[(V.sc (.int .i64 (IntKind.wrap .i64 0))),(V.sl 1 [])]]) (by simp [h1]) (by omega) (by omega)
   refine ⟨O',?_⟩
   rw [z9,zz9 (hi:=hi) (hn:=hn) (hO:=by omega),zIG L J he,if_neg (by decide),zxG L J he]
   exact e2
  ·refine ⟨O,?_⟩
   rw [z9,zCf (hi:=hi)]
end
section
variable {L:Nat} (hL:20≤L) {j:List Int} (hb:Byt j) (hj:j.length≤100000000)
variable (p1 zJV:Int) (zJW zJX:List (List V)) (zJY zJZ:Int) (zKf:List (List V)) (zJ0:Int)
include hL hb hj
theorem zDE {n:Nat} (hn:n≤64) (kx:zhq β):∀ (m i a:Nat) (xs:List Outp),xs.length=i→i≤n→n - i < m→a≤j.length →
  (∃ ys a',zdP j (n - i) a=.ok (ys,a')∧z9 yc xe xb xa ye L kx m p1 (n:Int) (i:Int) zJV zJW zJX zJY zJZ zKf (xs.map zcg) zJ0 (zj .u8 j) (a:Int) 0=kx p1 zJV zJW zJX zJY zJZ zKf ((xs++ys).map zcg) zJ0 (zj .u8 j) (a':Int) 0) ∨
  (∃ e O at_,zdP j (n - i) a=.error e∧e≠0∧z9 yc xe xb xa ye L kx m p1 (n:Int) (i:Int) zJV zJW zJX zJY zJZ zKf (xs.map zcg) zJ0 (zj .u8 j) (a:Int) 0=kx p1 zJV zJW zJX zJY zJZ zKf O zJ0 (zj .u8 j) at_ e)
 | 0,i,a,xs,h1,h2,h3,ha=>by omega
 | m+1,i,a,xs,h1,h2,h3,ha=>by
  by_cases hi:i < n
  ·have hn1:n - i=(n - (i+1))+1:=by omega
   rw [hn1,z9,zz9 (hi:=hi) (hn:=hn) (hO:=by rw [List.length_map]; omega),zJl hL hb hj ha]
   have bad:∀ (e:Int) (he:e≠0) (at_:Int) (r:List V),∃ O':List (List V),z9 yc xe xb xa ye L kx m p1 (n:Int) ((i+1:Nat):Int) zJV zJW zJX zJY zJZ zKf (xs.map zcg++[r]) zJ0 (zj .u8 j) at_ e=kx p1 zJV zJW zJX zJY zJZ zKf O' zJ0 (zj .u8 j) at_ e:=fun e he at_ r =>
    zpW p1 zJV zJW zJX zJY zJZ zKf zJ0 hn (zj .u8 j) at_ he kx m (i+1) _ (by simp [h1]) (by omega) (by omega)
   cases e1:gN j 8 a with
   | error e =>
    have he:=zm2 e1
    obtain ⟨O',q2⟩:=bad e he (a:Int) [(V.sc (.int .i64 (IntKind.wrap .i64 0))),(V.sl 1 [])]
    refine .inr ⟨e,O',(a:Int),by simp only [zdP,zlI,e1],he,?_⟩
    rw [z4,if_neg (by decide),zxG L _ he]
    exact q2
   | ok p =>
    obtain ⟨v,a1⟩:=p
    have k1:=zlx e1
    rw [z0]
    by_cases hv:v ≥ 9223372036854775808
    ·obtain ⟨O',q2⟩:=bad 90 (by decide) (a1:Int) [(V.sc (.int .i64 (IntKind.wrap .i64 v))),(V.sl 1 [])]
     refine .inr ⟨90,O',(a1:Int),by simp only [zdP,zlI,e1,if_pos hv],by decide,?_⟩
     rw [if_pos (by omega),zxG L _ (by decide)]
     exact q2
    ·rw [if_neg (by omega),zJ (by omega) (by omega),zHu hL hb hj k1]
     cases e2:zcO j 520 a1 with
     | error e =>
      have he:=znD e2
      obtain ⟨O',q2⟩:=bad e he (a1:Int) [(V.sc (.int .i64 v)),(V.sl 1 [])]
      refine .inr ⟨e,O',(a1:Int),by simp only [zdP,zlI,e1,if_neg hv,e2],he,?_⟩
      rw [z4]
      exact q2
     | ok p =>
      obtain ⟨sc,a2⟩:=p
      have k2:=(zny e2).1
      have hrow:xs.map zcg++[[(V.sc (.int .i64 (v:Int))),(V.sl 1 (zj .u8 sc))]]=(xs++[(⟨v,sc⟩:Outp)]).map zcg:=by rw [List.map_append,List.map_cons,List.map_nil]; rfl
      rw [z0,hrow]
      rcases zDE hn kx m (i+1) a2 (xs++[(⟨v,sc⟩:Outp)]) (by simp [h1]) (by omega) (by omega) k2 with ⟨ys,a',q1,q2⟩ | ⟨e,O,at_,q1,q2,q3⟩
      ·refine .inl ⟨(⟨v,sc⟩:Outp)::ys,a',by simp only [zdP,zlI,e1,if_neg hv,e2,q1],?_⟩
       rw [q2,List.append_assoc]
       rfl
      ·exact .inr ⟨e,O,at_,by simp only [zdP,zlI,e1,if_neg hv,e2,q1],q2,q3⟩
  ·have hn0:n - i=0:=by omega
   refine .inl ⟨[],a,by rw [hn0]; rfl,?_⟩
   rw [z9,zCf (hi:=hi),List.append_nil]
end
end
section
set_option linter.unusedVariables false
set_option linter.unusedSimpArgs false
set_option linter.unusedSectionVars false
set_option maxRecDepth 100000
variable {β:Type}
theorem zI1 {h:List V} (hl:h.length=32):yl (List.replicate 32 (V.sc (.int .u8 (0:Int)))++[(V.sc (.int .u32 (0:Int)))]) 0 h=h++[V.sc (.int .u32 0)]:=by
 unfold yl
 rw [hl,List.drop_append,List.length_replicate]
 simp
theorem zI0 {h:List V} (hl:h.length=32) (x:Int):yl (h++[V.sc (.int .u32 0)]) 32 [(V.sc (.int .u32 x))]=h++[V.sc (.int .u32 x)]:=by
 rw [znx (by simp [hl]),List.set_append_right _ _ (by omega),hl]
 rfl
theorem zIz {h:List V} (hl:h.length=32) (x:Int):yl (List.replicate 32 (V.sc (.int .u8 (0:Int)))++[(V.sc (.int .u32 (0:Int))),(V.sc (.int .u32 (0:Int))),(V.gs 1 ([]:List (List V)))]) 0 (h++[V.sc (.int .u32 x)])=zbJ h x 0 zgs:=by
 unfold yl zbJ
 rw [List.length_append,hl,List.drop_append,List.length_replicate]
 simp [zgs]
section
variable {L:Nat} (p1 zJV:Int) (zJW zJX:List (List V)) (zJY zKa:Int) (zKe:List (List V)) (zKb:Int)
theorem zGH (m:Nat) (R J:List (List V)) (hm:m≤64) (hR:R.length≤64) (at_:Int) (kh:zep β) (kx:zgu β) :
  zcp zb yb zc ya za L p1 ((m+1:Nat):Int) zJV zJW zJX zJY zKa R zKe zKb J at_ 0 kh kx =
  zc β L J at_ 0 (fun v10 v11 v12 v13=>zb β L v11 v12 v13 (fun v14 v15 v16 v17=>chk ((List.length v10)=32∧0+32≤33) (zb β L v15 v16 v17 (fun v18 v19 v20 v21 =>
   kh p1 (m:Int) zJV zJW zJX zJY zKa (R++[zbJ v10 v14 v18 zgs]) zKe zKb v19 v20 v21)))):=by
 have hs:(100000000:Nat)≤yn:=by decide
 unfold zcp
 rw [yX (by omega),y7 rfl]
 congr 1
 funext v10 v11 v12 v13
 congr 1
 funext v14 v15 v16 v17
 by_cases h:(List.length v10)=32∧0+32≤33
 ·have hl:=h.1
  rw [zh h,zh h,zI1 hl,zh (by simp [hl]),zI0 hl,zh (by simp [hl]),zIz hl,zh (by rw [zc2 hl]; omega),zFQ hl,zi]
  congr 1
  funext v18 v19 v20 v21
  rw [zh (by rw [zc2 hl]; omega),zFh hl,zi,zvz hl,zBM hl,zym hl,zh (by rw [zc2 hl]; omega),zh (by rw [zc2 hl]; omega),zh (by simp only [List.length_cons,List.length_nil]; omega),zi,zJ (by omega) (by omega),zi,show ((m+1:Nat):Int) - 1=(m:Int) by omega]
 ·simp only [zea,if_neg h]
theorem zyY (R J:List (List V)) (at_ f:Int) (n:Int) (hf:¬ n > 0∨f≠0) (kh:zep β) (kx:zgu β) :
  zcp zb yb zc ya za L p1 n zJV zJW zJX zJY zKa R zKe zKb J at_ f kh kx=kx p1 zJV zJW zJX zJY zKa R zKe zKb J at_ f:=by
 unfold zcp
 by_cases h:n > 0
 ·rw [yX h,z7 (hf.resolve_left (fun hh=>hh h))]
 ·rw [xL h]
theorem zDm:(List.length zbf)=32∧0+32≤33:=by simp [zbf]
variable (hL:20≤L) {j:List Int} (hb:Byt j) (hj:j.length≤100000000)
include hL hb hj
theorem zFI (kx:zgu β):∀ (fu m a:Nat) (xs:List Inp),xs.length+m≤64→m+1 < fu→a≤j.length →
  (∃ ys a',zgX j m a=.ok (ys,a')∧y8 zb yb zc ya za L kx fu p1 (m:Int) zJV zJW zJX zJY zKa (xs.map zaA) zKe zKb (zj .u8 j) (a:Int) 0=kx p1 zJV zJW zJX zJY zKa ((xs++ys).map zaA) zKe zKb (zj .u8 j) (a':Int) 0) ∨
  (∃ e R at_,zgX j m a=.error e∧e≠0∧R.length≤64∧y8 zb yb zc ya za L kx fu p1 (m:Int) zJV zJW zJX zJY zKa (xs.map zaA) zKe zKb (zj .u8 j) (a:Int) 0=kx p1 zJV zJW zJX zJY zKa R zKe zKb (zj .u8 j) at_ e)
 | 0,m,a,xs,h1,h2,ha=>by omega
 | fu+1,0,a,xs,h1,h2,ha=>by
  refine .inl ⟨[],a,rfl,?_⟩
  rw [y8,zyY (hf:=.inl (by decide)),List.append_nil]
 | fu+1,m+1,a,xs,h1,h2,ha=>by
  rw [y8,zGH (hm:=by omega) (hR:=by rw [List.length_map]; omega),zJk hL hb hj ha]
  have bad:∀ (e:Int) (he:e≠0) (at_:Int) (r:List V),y8 zb yb zc ya za L kx fu p1 (m:Int) zJV zJW zJX zJY zKa (xs.map zaA++[r]) zKe zKb (zj .u8 j) at_ e=kx p1 zJV zJW zJX zJY zKa (xs.map zaA++[r]) zKe zKb (zj .u8 j) at_ e:=fun e he at_ r=>by
   obtain ⟨f2,rfl⟩:∃ f2,fu=f2+1:=⟨fu - 1,by omega⟩
   rw [y8,zyY (hf:=.inr he)]
  have hlen:∀ r:List V,(xs.map zaA++[r]).length≤64:=fun r=>by simp; omega
  cases e1:zgR j a with
  | error e =>
   have he:=zxd e1
   refine .inr ⟨e,_,0,by simp only [zgX,gIn,e1],he,hlen (zbJ zbf 0 0 zgs),?_⟩
   rw [z4,zx2 L _ he,zh zDm,zx2 L _ he]
   exact bad e he 0 _
  | ok p =>
   obtain ⟨h,a1⟩:=p
   obtain ⟨k1,k2⟩:=zpb e1
   rw [z0,zBq hL hb hj k1]
   cases e2:gN j 4 a1 with
   | error e =>
    have he:=zm2 e2
    refine .inr ⟨e,_,0,by simp only [zgX,gIn,e1,e2],he,hlen (zbJ (row .u8 h) 0 0 zgs),?_⟩
    rw [z4,zh (by rw [zbW]; omega),zx2 L _ he]
    exact bad e he 0 _
   | ok p =>
    obtain ⟨ix,a2⟩:=p
    have k3:=zlx e2
    rw [z0,zh (by rw [zbW]; omega),zBq hL hb hj k3]
    cases e3:gN j 4 a2 with
    | error e =>
     have he:=zm2 e3
     refine .inr ⟨e,_,0,by simp only [zgX,gIn,e1,e2,e3],he,hlen (zbJ (row .u8 h) ix 0 zgs),?_⟩
     rw [z4]
     exact bad e he 0 _
    | ok p =>
     obtain ⟨sq,a3⟩:=p
     have k4:=zlx e3
     have hrow:xs.map zaA++[zbJ (row .u8 h) (ix:Int) (sq:Int) zgs]=(xs++[(⟨h++[(ix:Int)],sq,[]⟩:Inp)]).map zaA:=by rw [List.map_append,List.map_cons,List.map_nil,zDI k2]
     rw [z0,hrow]
     rcases zFI kx fu m a3 (xs++[(⟨h++[(ix:Int)],sq,[]⟩:Inp)]) (by simp; omega) (by omega) k4 with ⟨ys,a',q1,q2⟩ | ⟨e,R,at_,q1,q2,q3,q4⟩
     ·refine .inl ⟨(⟨h++[(ix:Int)],sq,[]⟩:Inp)::ys,a',by simp only [zgX,gIn,e1,e2,e3,q1],?_⟩
      rw [q2,List.append_assoc]
      rfl
     ·exact .inr ⟨e,R,at_,by simp only [zgX,gIn,e1,e2,e3,q1],q2,q3,q4⟩
end
section
variable {L:Nat} (hL:20≤L) {j:List Int} (hb:Byt j) (hj:j.length≤100000000)
include hL hb hj
theorem zIp {a:Nat} (ha:a≤j.length) (k:List V→List (List V)→Int→Int→Option β) :
  (∃ o a',zlI j a=.ok (o,a')∧ya β L (zj .u8 j) (a:Int) 0 k=k (zcg o) (zj .u8 j) (a':Int) 0) ∨
  (∃ e o at_,zlI j a=.error e∧e≠0∧ya β L (zj .u8 j) (a:Int) 0 k=k (zcg o) (zj .u8 j) at_ e):=by
 have hz:∀ (x:Int) (s:List Int) (K:Option β),chk (0=0∧(List.length [(V.sc (.int .i64 x)),(V.sl 1 (zj .u8 s))])=2∧2≠0) K=K:=fun x s K=>zh (by simp) K
 have hn:([]:List (List V))=zj .u8 []:=rfl
 unfold ya zgk
 rw [zJf hL hb hj ha]
 cases e1:gN j 8 a with
 | error e =>
  have he:=zm2 e1
  refine .inr ⟨e,⟨0,[]⟩,0,by simp only [zlI,e1],he,?_⟩
  rw [z4,z7 he,zJ (by decide) (by decide),zi,zFB L _ he,zi,hn,hz]
  rfl
 | ok p =>
  obtain ⟨v,a1⟩:=p
  have k1:=zlx e1
  rw [z0,y7 rfl,zaZ]
  by_cases hv:v ≥ 9223372036854775808
  ·refine .inr ⟨90,⟨IntKind.wrap .i64 v,[]⟩,(a1:Int),by simp only [zlI,e1,if_pos hv],by decide,?_⟩
   rw [if_pos (by omega),zi,zFB L _ (by decide),zi,hn,hz]
   rfl
  ·rw [if_neg (by omega),zJ (by omega) (by omega),zi,zHF hL hb hj k1]
   cases e2:zcO j 520 a1 with
   | error e =>
    refine .inr ⟨e,⟨v,[]⟩,0,by simp only [zlI,e1,if_neg hv,e2],znD e2,?_⟩
    rw [z4,zi,hn,hz]
    rfl
   | ok p =>
    obtain ⟨s,a2⟩:=p
    refine .inl ⟨⟨v,s⟩,a2,by simp only [zlI,e1,if_neg hv,e2],?_⟩
    rw [z0,zi,hz]
    rfl
end
theorem zD3 {j:List Int} {a a':Nat} {o:Outp} (h:zlI j a=.ok (o,a')):a'≤j.length:=by
 unfold zlI at h
 split at h
 ·cases h
 ·split at h
  ·cases h
  ·split at h
   ·cases h
   ·rename_i hz; cases h; exact (zny hz).1
section
variable {L:Nat} (p1 zJV:Int) (zJW zJX:List (List V)) (zJY zKa:Int) (zKk:List (List V)) (zKb:Int)
theorem zGz (m:Nat) (O J:List (List V)) (hm:m≤64) (hO:O.length≤64) (at_:Int) (kh:zdX β) (kx:zgg β) :
  zce zb yb zc ya za L p1 ((m+1:Nat):Int) zJV zJW zJX zJY zKa zKk O zKb J at_ 0 kh kx =
  ya β L J at_ 0 (fun v30 v31 v32 v33=>chk ((List.length v30)=2∧0+2≤2) (kh p1 (m:Int) zJV zJW zJX zJY zKa zKk (O++[v30]) zKb v31 v32 v33)):=by
 have hs:(100000000:Nat)≤yn:=by decide
 unfold zce
 rw [yX (by omega),y7 rfl]
 congr 1
 funext v30 v31 v32 v33
 by_cases h:(List.length v30)=2∧0+2≤2
 ·have hc:xj 2 1 v30=[v30]:=by unfold xj; rw [List.take_of_length_le (by omega)]; rfl
  rw [zh h,zh h,zgE (new:=v30) (by simp [h.1]),hc,zh (by simp only [List.length_cons,List.length_nil]; omega),zi,zJ (by omega) (by omega),zi,show ((m+1:Nat):Int) - 1=(m:Int) by omega]
 ·simp only [zea,if_neg h]
theorem zvO (O J:List (List V)) (at_ f:Int) (n:Int) (hf:¬ n > 0∨f≠0) (kh:zdX β) (kx:zgg β) :
  zce zb yb zc ya za L p1 n zJV zJW zJX zJY zKa zKk O zKb J at_ f kh kx=kx p1 zJV zJW zJX zJY zKa zKk O zKb J at_ f:=by
 unfold zce
 by_cases h:n > 0
 ·rw [yX h,z7 (hf.resolve_left (fun hh=>hh h))]
 ·rw [xL h]
variable (hL:20≤L) {j:List Int} (hb:Byt j) (hj:j.length≤100000000)
include hL hb hj
theorem zFr (kx:zgg β):∀ (fu m a:Nat) (xs:List Outp),xs.length+m≤64→m+1 < fu→a≤j.length →
  (∃ ys a',zdP j m a=.ok (ys,a')∧zX zb yb zc ya za L kx fu p1 (m:Int) zJV zJW zJX zJY zKa zKk (xs.map zcg) zKb (zj .u8 j) (a:Int) 0=kx p1 zJV zJW zJX zJY zKa zKk ((xs++ys).map zcg) zKb (zj .u8 j) (a':Int) 0) ∨
  (∃ e O at_,zdP j m a=.error e∧e≠0∧zX zb yb zc ya za L kx fu p1 (m:Int) zJV zJW zJX zJY zKa zKk (xs.map zcg) zKb (zj .u8 j) (a:Int) 0=kx p1 zJV zJW zJX zJY zKa zKk O zKb (zj .u8 j) at_ e)
 | 0,m,a,xs,h1,h2,ha=>by omega
 | fu+1,0,a,xs,h1,h2,ha=>by
  refine .inl ⟨[],a,rfl,?_⟩
  rw [zX,zvO (hf:=.inl (by decide)),List.append_nil]
 | fu+1,m+1,a,xs,h1,h2,ha=>by
  rw [zX,zGz (hm:=by omega) (hO:=by rw [List.length_map]; omega)]
  rcases zIp hL hb hj ha _ with ⟨o,a1,e1,q⟩ | ⟨e,o,at_,e1,he,q⟩
  ·rw [q,zh ⟨zCC o,by omega⟩]
   have hrow:xs.map zcg++[zcg o]=(xs++[o]).map zcg:=by rw [List.map_append,List.map_cons,List.map_nil]
   rw [hrow]
   rcases zFr kx fu m a1 (xs++[o]) (by simp; omega) (by omega) (zD3 e1) with ⟨ys,a',q1,q2⟩ | ⟨e,O,at_,q1,q2,q3⟩
   ·refine .inl ⟨o::ys,a',by simp only [zdP,e1,q1],?_⟩
    rw [q2,List.append_assoc]
    rfl
   ·exact .inr ⟨e,O,at_,by simp only [zdP,e1,q1],q2,q3⟩
  ·refine .inr ⟨e,xs.map zcg++[zcg o],at_,by simp only [zdP,e1],he,?_⟩
   rw [q,zh ⟨zCC o,by omega⟩]
   obtain ⟨f2,rfl⟩:∃ f2,fu=f2+1:=⟨fu - 1,by omega⟩
   rw [zX,zvO (hf:=.inr he)]
end
end
section
set_option linter.unusedVariables false
set_option linter.unusedSimpArgs false
set_option linter.unusedSectionVars false
set_option maxRecDepth 100000
variable {β:Type}
def zp1 (x:Inp) (w:List (List V)):List V:=zbJ (row .u8 (x.pv.take 32)) (x.pv.getD 32 0) x.seq (V.gs 1 w)
theorem zE0 (x:Inp):zaA x=zp1 x (zbj x.wit):=rfl
def rws (ds:List Inp) (x:Inp) (w:List (List V)) (rs:List Inp):List (List V):=ds.map zaA++zp1 x w::rs.map zaA
def fl (ds:List Inp) (x:Inp) (w:List (List V)) (rs:List Inp):List V:=(rws ds x w rs).flatten
theorem zvu {x:Inp} (h:x.pv.length=33):(row .u8 (x.pv.take 32)).length=32:=by rw [zbW,List.length_take]; omega
theorem ztm {x:Inp} (h:x.pv.length=33) (w:List (List V)):(zp1 x w).length=35:=zc2 (zvu h) _ _ _
theorem zCu {ds:List Inp} {x:Inp} {rs:List Inp} (h:∀ y ∈ ds++x::rs,y.pv.length=33) (w:List (List V)):∀ e ∈ rws ds x w rs,e.length=35:=by
 intro e he
 unfold rws at he
 rcases List.mem_append.1 he with h1 | h1
 ·obtain ⟨y,hy,rfl⟩:=List.mem_map.1 h1
  exact ztm (h y (List.mem_append.2 (.inl hy))) _
 ·rcases List.mem_cons.1 h1 with rfl | h1
  ·exact ztm (h x (by simp)) _
  ·obtain ⟨y,hy,rfl⟩:=List.mem_map.1 h1
   exact ztm (h y (by simp [hy])) _
theorem zGf (ds:List Inp) (x:Inp) (w:List (List V)) (rs:List Inp):(rws ds x w rs)[ds.length]?=some (zp1 x w):=by
 unfold rws
 rw [List.getElem?_append_right (by simp)]
 simp
theorem zHW {x:Inp} (h:x.pv.length=33) (w:List (List V)):(zp1 x w)[34]?=some (V.gs 1 w):=by
 unfold zp1 zbJ
 rw [List.getElem?_append_right (by rw [zvu h]; omega),zvu h]
 rfl
theorem zFa (n:Nat):(0+((Int.toNat ((n:Nat):Int)) * 35))+34=n * 35+34:=by rw [Int.toNat_natCast]; omega
theorem zB1 {ds:List Inp} {x:Inp} {rs:List Inp} (h:∀ y ∈ ds++x::rs,y.pv.length=33) (w:List (List V)):(fl ds x w rs).length=(ds.length+1+rs.length) * 35:=by
 unfold fl
 rw [zBC (zCu h w)]
 simp [rws]
 omega
theorem zF8 {ds:List Inp} {x:Inp} {rs:List Inp} (h:∀ y ∈ ds++x::rs,y.pv.length=33) (w:List (List V)) (k:List (List V)→Option β):cG 1 (fl ds x w rs) (ds.length * 35+34) k=k w:=by
 unfold cG zdg fl
 rw [zHm (by decide) (zCu h w) (by decide:34 < 35) (zGf ds x w rs),zHW (h x (by simp))]
 show chk (1=1) (k w)=k w
 exact zh rfl _
theorem zxq {ds:List Inp} {x:Inp} {rs:List Inp} (h:∀ y ∈ ds++x::rs,y.pv.length=33) (w w':List (List V)) (u:V):List.set (List.set (fl ds x w rs) (ds.length * 35+34) u) (ds.length * 35+34) (V.gs 1 w')=fl ds x w' rs:=by
 have hl:=zB1 h w
 rw [List.set_set,← znx (by omega)]
 unfold fl
 rw [zGw (by decide) (zCu h w) (by decide:34 < 35) (zGf ds x w rs)]
 congr 1
 unfold rws
 rw [List.set_append_right _ _ (by simp),List.length_map,Nat.sub_self,List.set_cons_zero]
 congr 2
 unfold zp1 zbJ
 rw [List.set_append_right _ _ (by rw [zvu (h x (by simp))]; omega),zvu (h x (by simp))]
 rfl
theorem zIP (d:Nat→Bool) (x:Inp) (w:List (List V)):∀ c ∈ zp1 x w,ziK d c=c:=by
 intro c hc
 unfold zp1 zbJ at hc
 rcases List.mem_append.1 hc with h | h
 ·unfold row at h
  obtain ⟨y,_,rfl⟩:=List.mem_map.1 h
  rfl
 ·simp only [List.mem_cons,List.not_mem_nil,or_false] at h
  rcases h with rfl | rfl | rfl <;> rfl
theorem zBy (kb:List Bool) {es:List (List V)} (h:∀ e ∈ es,∃ x w,e=zp1 x w):zba kb es.flatten=es.flatten:=by
 unfold zba
 have:∀ c ∈ es.flatten,ziK (fun id=>!(kb.getD id false)) c=c:=by
  intro c hc
  obtain ⟨e,he,hc⟩:=List.mem_flatten.1 hc
  obtain ⟨x,w,rfl⟩:=h e he
  exact zIP _ x w c hc
 rw [List.map_congr_left this,List.map_id']
theorem zhn (kb:List Bool) (ds:List Inp) (x:Inp) (w:List (List V)) (rs:List Inp):zba kb (fl ds x w rs)=fl ds x w rs:=by
 refine zBy kb ?_
 intro e he
 unfold rws at he
 rcases List.mem_append.1 he with h1 | h1
 ·obtain ⟨y,hy,rfl⟩:=List.mem_map.1 h1
  exact ⟨y,_,rfl⟩
 ·rcases List.mem_cons.1 h1 with rfl | h1
  ·exact ⟨x,w,rfl⟩
  ·obtain ⟨y,hy,rfl⟩:=List.mem_map.1 h1
   exact ⟨y,_,rfl⟩
theorem zoZ (kb:List Bool) (xs:List Inp):zba kb (xs.map zaA).flatten=(xs.map zaA).flatten:=by
 refine zBy kb ?_
 intro e he
 obtain ⟨y,hy,rfl⟩:=List.mem_map.1 he
 exact ⟨y,_,rfl⟩
section
variable {L:Nat} (p1:Int) (pl:Nat) (p72 p73 zJV:Int) (zJW zJX:List (List V)) (zJY zJZ:Int) (nl:Nat) (zJ1:List (List V)) (zJ0:Int)
variable {ds:List Inp} {x:Inp} {rs:List Inp} (hW:∀ y ∈ ds++x::rs,y.pv.length=33) (hnl:nl=ds.length+1+rs.length)
include hW hnl
theorem zCn {c i:Nat} (hi:i < c) (hc:c≤32) (w J:List (List V)) (hw:w.length≤64) (at_ f:Int) (kh:zbQ β) (kx:zfU β) :
  z6 yc xe xb xa ye L p1 ((ds.length:Nat):Int) pl p72 p73 (c:Int) (i:Int) zJV zJW zJX zJY zJZ nl zJ1 zJ0 J at_ f (fl ds x w rs) kh kx =
  ye β L (520:Int) J at_ f
   (fun v83 v84 v85 v86=>kh p1 ((ds.length:Nat):Int) pl p72 p73 (c:Int) ((i+1:Nat):Int) zJV zJW zJX zJY zJZ nl zJ1 zJ0 v84 v85 v86 (fl ds x (w++[[(V.sl 1 v83)]]) rs))
   (fun v83 v84 v85 v86=>kh p1 ((ds.length:Nat):Int) pl p72 p73 (c:Int) ((i+1:Nat):Int) zJV zJW zJX zJY zJZ nl zJ1 zJ0 v84 v85 v86 (fl ds x (w++[[(V.sl 1 v83)]]) rs)):=by
 have hs:(100000000:Nat)≤yn:=by decide
 have hl:=zB1 hW w
 have hch:∀ v:V,xj 1 1 [v]=[[v]]:=fun v=>rfl
 unfold z6
 rw [yX (by omega),zh (by omega),zFa,zF8 hW]
 congr 1
 ·funext v83 v84 v85 v86
  rw [hch,zh (by simp only [List.length_cons,List.length_nil]; omega),zi,zh (by omega),zh (by rw [List.length_set]; omega),zi,zax (by omega),zxq hW,zhn]
 ·funext v83 v84 v85 v86
  rw [hch,zh (by simp only [List.length_cons,List.length_nil]; omega),zi,zh (by omega),zh (by rw [List.length_set]; omega),zi,zax (by omega),zxq hW,zhn]
theorem zDV {c i:Nat} (hi:¬ i < c) (w J:List (List V)) (at_ f:Int) (kh:zbQ β) (kx:zfU β) :
  z6 yc xe xb xa ye L p1 ((ds.length:Nat):Int) pl p72 p73 (c:Int) (i:Int) zJV zJW zJX zJY zJZ nl zJ1 zJ0 J at_ f (fl ds x w rs) kh kx=kx p1 pl p72 p73 zJV zJW zJX zJY zJZ nl zJ1 zJ0 J at_ f (fl ds x w rs):=by
 unfold z6
 rw [xL (by omega),zhn]
theorem zze {c:Nat} (hc:c≤32) (J:List (List V)) (at_:Int) {e:Int} (he:e≠0) (kx:zfU β):∀ (m i:Nat) (w:List (List V)),w.length=i→i≤c→c - i < m →
  ∃ b':List V,yG yc xe xb xa ye L kx m p1 ((ds.length:Nat):Int) pl p72 p73 (c:Int) (i:Int) zJV zJW zJX zJY zJZ nl zJ1 zJ0 J at_ e (fl ds x w rs)=kx p1 pl p72 p73 zJV zJW zJX zJY zJZ nl zJ1 zJ0 J at_ e b'
 | 0,i,w,h1,h2,h3=>by omega
 | m+1,i,w,h1,h2,h3=>by
  by_cases hi:i < c
  ·obtain ⟨b',e2⟩:=zze hc J at_ he kx m (i+1) (w++[[(V.sl 1 [])]]) (by simp [h1]) (by omega) (by omega)
   refine ⟨b',?_⟩
   rw [yG,zCn (hW:=hW) (hnl:=hnl) (hi:=hi) (hc:=hc) (hw:=by omega),zxG L J he]
   exact e2
  ·refine ⟨fl ds x w rs,?_⟩
   rw [yG,zDV (hW:=hW) (hnl:=hnl) (hi:=hi)]
variable (hL:20≤L) {j:List Int} (hb:Byt j) (hj:j.length≤100000000)
include hL hb hj
theorem zGl {c:Nat} (hc:c≤32) (kx:zfU β):∀ (m i a:Nat) (ws:List (List Int)),ws.length=i→i≤c→c - i < m→a≤j.length →
  (∃ ys a',zhF j (c - i) a=.ok (ys,a')∧yG yc xe xb xa ye L kx m p1 ((ds.length:Nat):Int) pl p72 p73 (c:Int) (i:Int) zJV zJW zJX zJY zJZ nl zJ1 zJ0 (zj .u8 j) (a:Int) 0 (fl ds x (zbj ws) rs)=kx p1 pl p72 p73 zJV zJW zJX zJY zJZ nl zJ1 zJ0 (zj .u8 j) (a':Int) 0 (fl ds x (zbj (ws++ys)) rs)) ∨
  (∃ e at_ b',zhF j (c - i) a=.error e∧e≠0∧yG yc xe xb xa ye L kx m p1 ((ds.length:Nat):Int) pl p72 p73 (c:Int) (i:Int) zJV zJW zJX zJY zJZ nl zJ1 zJ0 (zj .u8 j) (a:Int) 0 (fl ds x (zbj ws) rs)=kx p1 pl p72 p73 zJV zJW zJX zJY zJZ nl zJ1 zJ0 (zj .u8 j) at_ e b')
 | 0,i,a,ws,h1,h2,h3,ha=>by omega
 | m+1,i,a,ws,h1,h2,h3,ha=>by
  by_cases hi:i < c
  ·have hn1:c - i=(c - (i+1))+1:=by omega
   have hwl:(zbj ws).length=i:=by simp [zbj,h1]
   rw [hn1,yG,zCn (hW:=hW) (hnl:=hnl) (hi:=hi) (hc:=hc) (hw:=by omega),zHu hL hb hj ha]
   cases e1:zcO j 520 a with
   | error e =>
    have he:=znD e1
    obtain ⟨b',q2⟩:=zze p1 pl p72 p73 zJV zJW zJX zJY zJZ nl zJ1 zJ0 hW hnl hc (zj .u8 j) (a:Int) he kx m (i+1) (zbj ws++[[(V.sl 1 [])]]) (by simp [hwl]) (by omega) (by omega)
    refine .inr ⟨e,(a:Int),b',by simp only [zhF,e1],he,?_⟩
    rw [z4]
    exact q2
   | ok p =>
    obtain ⟨s,a1⟩:=p
    have k1:=(zny e1).1
    have hrow:zbj ws++[[(V.sl 1 (zj .u8 s))]]=zbj (ws++[s]):=by simp [zbj]
    rw [z0,hrow]
    rcases zGl hc kx m (i+1) a1 (ws++[s]) (by simp [h1]) (by omega) (by omega) k1 with ⟨ys,a',q1,q2⟩ | ⟨e,at_,b',q1,q2,q3⟩
    ·refine .inl ⟨s::ys,a',by simp only [zhF,e1,q1],?_⟩
     rw [q2,List.append_assoc]
     rfl
    ·exact .inr ⟨e,at_,b',by simp only [zhF,e1,q1],q2,q3⟩
  ·have hn0:c - i=0:=by omega
   refine .inl ⟨[],a,by rw [hn0]; rfl,?_⟩
   rw [yG,zDV (hW:=hW) (hnl:=hnl) (hi:=hi),List.append_nil]
end
end
section
set_option linter.unusedVariables false
set_option linter.unusedSimpArgs false
set_option linter.unusedSectionVars false
set_option maxRecDepth 100000
variable {β:Type}
theorem zyi (ds:List Inp) (x:Inp) (w:List (List Int)) (rs:List Inp):fl ds x (zbj w) rs=((ds++{ x with wit:=w }::rs).map zaA).flatten:=by
 simp [fl,rws,zE0,zp1]
theorem zE8 (ds:List Inp) (x:Inp) (hx:x.wit=[]) (rs:List Inp):((ds++x::rs).map zaA).flatten=fl ds x (zbj []) rs:=by
 rw [zyi,← hx]
theorem zvI {j:List Int}:∀ (n a:Nat) {a':Nat} {ys:List (List Int)},a≤j.length→zhF j n a=.ok (ys,a')→a'≤j.length
 | 0,a,a',ys,ha,h=>by simp only [zhF] at h; cases h; exact ha
 | n+1,a,a',ys,ha,h=>by
  rw [zhF] at h
  split at h
  ·cases h
  ·rename_i x a1 hz
   split at h
   ·cases h
   ·rename_i xs a2 hz2
    cases h
    exact zvI n a1 (zny hz).1 hz2
section
variable {L:Nat} (p1:Int) (pl:Nat) (zJV:Int) (zJW zJX:List (List V)) (zJY zJZ:Int) (nl:Nat) (zJ1:List (List V)) (zJ0:Int)
theorem zyE {n:Nat} (hL:20≤L) (hn:n≤64) (J:List (List V)) (at_:Int) {e:Int} (he:e≠0) (kx:zjw β):∀ (m i:Nat) (F:List V),i≤n→n - i < m →
  ∃ b':List V,yI yc xe xb xa ye L kx m p1 pl (n:Int) (i:Int) zJV zJW zJX zJY zJZ nl zJ1 zJ0 J at_ e F=kx p1 pl zJV zJW zJX zJY zJZ nl zJ1 zJ0 J at_ e b'
 | 0,i,F,h2,h3=>by omega
 | m+1,i,F,h2,h3=>by
  rw [yI]
  unfold zbE zcC
  by_cases hi:i < n
  ·obtain ⟨l,hl⟩:∃ l,L=l+1:=⟨L - 1,by omega⟩
   rw [yX (by omega),zuN L J he]
   have key:∀ (kx6:zfU β) (F:List V),∃ b',yG yc xe xb xa ye L kx6 L p1 (i:Int) pl (n:Int) (i:Int) 0 0 zJV zJW zJX zJY zJZ nl zJ1 zJ0 J at_ e F=kx6 p1 pl (n:Int) (i:Int) zJV zJW zJX zJY zJZ nl zJ1 zJ0 J at_ e b':=by
    intro kx6 F
    generalize hg:L=L'
    rw [hl] at hg
    subst hg
    rw [yG]
    unfold z6
    rw [xL (by omega)]
    exact ⟨_,rfl⟩
   obtain ⟨b1,q1⟩:=key (fun p1 p71l p72 p73 zJV zJW zJX zJY zJZ zJ9 zJ1 zJ0 zJ4 zJ2 zJ3 b71=>zH yc xe xb xa ye L p1 p71l p72 p73 zJV zJW zJX zJY zJZ zJ9 zJ1 zJ0 zJ4 zJ2 zJ3 b71 (fun p1 p71l p72 p73 zJV zJW zJX zJY zJZ zJ9 zJ1 zJ0 zJ4 zJ2 zJ3 b71=>yI yc xe xb xa ye L kx m p1 p71l p72 p73 zJV zJW zJX zJY zJZ zJ9 zJ1 zJ0 zJ4 zJ2 zJ3 b71)) (zba (bl 680564733833211346651751552939242551295 129) F)
   have r:∀ F:List V,∃ b',zH yc xe xb xa ye L p1 pl (n:Int) (i:Int) zJV zJW zJX zJY zJZ nl zJ1 zJ0 J at_ e F (fun p1 p71l p72 p73 zJV zJW zJX zJY zJZ zJ9 zJ1 zJ0 zJ4 zJ2 zJ3 b71=>yI yc xe xb xa ye L kx m p1 p71l p72 p73 zJV zJW zJX zJY zJZ zJ9 zJ1 zJ0 zJ4 zJ2 zJ3 b71)=kx p1 pl zJV zJW zJX zJY zJZ nl zJ1 zJ0 J at_ e b':=by
    intro F
    unfold zH
    rw [zax (by omega),zi]
    exact zyE hL hn J at_ he kx m (i+1) _ (by omega) (by omega)
   obtain ⟨b2,q2⟩:=r b1
   exact ⟨b2,q1.trans q2⟩
  ·rw [xL (by omega)]
   exact ⟨_,rfl⟩
variable (hL:1000≤L) {j:List Int} (hb:Byt j) (hj:j.length≤100000000)
include hL hb hj
theorem zHC (hnl:nl≤64) (kx:zjw β):∀ (m a:Nat) (rs ds:List Inp),(∀ y ∈ ds++rs,y.pv.length=33)→(∀ y ∈ rs,y.wit=[])→nl=ds.length+rs.length→rs.length < m→a≤j.length →
  (∃ ys a',zdM j rs a=.ok (ys,a')∧yI yc xe xb xa ye L kx m p1 pl (nl:Int) ((ds.length:Nat):Int) zJV zJW zJX zJY zJZ nl zJ1 zJ0 (zj .u8 j) (a:Int) 0 ((ds++rs).map zaA).flatten=kx p1 pl zJV zJW zJX zJY zJZ nl zJ1 zJ0 (zj .u8 j) (a':Int) 0 ((ds++ys).map zaA).flatten) ∨
  (∃ e at_ b',zdM j rs a=.error e∧e≠0∧yI yc xe xb xa ye L kx m p1 pl (nl:Int) ((ds.length:Nat):Int) zJV zJW zJX zJY zJZ nl zJ1 zJ0 (zj .u8 j) (a:Int) 0 ((ds++rs).map zaA).flatten=kx p1 pl zJV zJW zJX zJY zJZ nl zJ1 zJ0 (zj .u8 j) at_ e b')
 | 0,a,rs,ds,hW,hw,h1,h2,ha=>by omega
 | m+1,a,[],ds,hW,hw,h1,h2,ha=>by
  refine .inl ⟨[],a,rfl,?_⟩
  rw [yI]
  unfold zbE zcC
  rw [xL (by simp only [List.length_nil] at h1; omega),zoZ]
 | m+1,a,x::rs,ds,hW,hw,h1,h2,ha=>by
  simp only [List.length_cons] at h1 h2
  have hx:=hw x (by simp)
  have hL20:20≤L:=by omega
  rw [yI]
  unfold zbE zcC
  rw [yX (by omega),zJA hL20 hb hj ha,zoZ,zE8 ds x hx rs]
  have bad:∀ {e:Int} (he:e≠0) (at_:Int) (F:List V),∃ b':List V,zH yc xe xb xa ye L p1 pl (nl:Int) ((ds.length:Nat):Int) zJV zJW zJX zJY zJZ nl zJ1 zJ0 (zj .u8 j) at_ e F (fun p1 p71l p72 p73 zJV zJW zJX zJY zJZ zJ9 zJ1 zJ0 zJ4 zJ2 zJ3 b71=>yI yc xe xb xa ye L kx m p1 p71l p72 p73 zJV zJW zJX zJY zJZ zJ9 zJ1 zJ0 zJ4 zJ2 zJ3 b71)=kx p1 pl zJV zJW zJX zJY zJZ nl zJ1 zJ0 (zj .u8 j) at_ e b':=by
   intro e he at_ F
   unfold zH
   rw [zax (by omega),zi]
   exact zyE p1 pl zJV zJW zJX zJY zJZ nl zJ1 zJ0 hL20 hnl _ at_ he kx m _ _ (by omega) (by omega)
  cases e1:zbY j 32 a with
  | error e =>
   have he:=zf4 e1
   rw [z4]
   obtain ⟨b',q⟩:=zze p1 pl (nl:Int) ((ds.length:Nat):Int) zJV zJW zJX zJY zJZ nl zJ1 zJ0 hW (by omega) (c:=0) (by decide) (zj .u8 j) (a:Int) he (fun p1 p71l p72 p73 zJV zJW zJX zJY zJZ zJ9 zJ1 zJ0 zJ4 zJ2 zJ3 b71=>zH yc xe xb xa ye L p1 p71l p72 p73 zJV zJW zJX zJY zJZ zJ9 zJ1 zJ0 zJ4 zJ2 zJ3 b71 (fun p1 p71l p72 p73 zJV zJW zJX zJY zJZ zJ9 zJ1 zJ0 zJ4 zJ2 zJ3 b71=>yI yc xe xb xa ye L kx m p1 p71l p72 p73 zJV zJW zJX zJY zJZ zJ9 zJ1 zJ0 zJ4 zJ2 zJ3 b71)) L 0 (zbj []) rfl (by omega) (by omega)
   obtain ⟨b2,q2⟩:=bad he (a:Int) b'
   refine .inr ⟨e,(a:Int),b2,by simp only [zdM,e1],he,?_⟩
   exact q.trans q2
  | ok p =>
   obtain ⟨n,a1⟩:=p
   obtain ⟨k1,k2⟩:=zch e1
   rw [z0]
   rcases zGl p1 pl (nl:Int) ((ds.length:Nat):Int) zJV zJW zJX zJY zJZ nl zJ1 zJ0 hW (by omega) hL20 hb hj k2 (fun p1 p71l p72 p73 zJV zJW zJX zJY zJZ zJ9 zJ1 zJ0 zJ4 zJ2 zJ3 b71=>zH yc xe xb xa ye L p1 p71l p72 p73 zJV zJW zJX zJY zJZ zJ9 zJ1 zJ0 zJ4 zJ2 zJ3 b71 (fun p1 p71l p72 p73 zJV zJW zJX zJY zJZ zJ9 zJ1 zJ0 zJ4 zJ2 zJ3 b71=>yI yc xe xb xa ye L kx m p1 p71l p72 p73 zJV zJW zJX zJY zJZ zJ9 zJ1 zJ0 zJ4 zJ2 zJ3 b71)) L 0 a1 [] rfl (by omega) (by omega) k1 with ⟨ws,a2,q1,q2⟩ | ⟨e,at_,b',q1,q2,q3⟩
   ·have k3:a2≤j.length:=zvI _ _ k1 q1
    rw [List.nil_append] at q2
    rw [Nat.sub_zero] at q1
    have hW':∀ y ∈ (ds++[{ x with wit:=ws }])++rs,y.pv.length=33:=by
     intro y hy
     rw [List.append_assoc] at hy
     rcases List.mem_append.1 hy with h | h
     ·exact hW y (by simp [h])
     ·rcases List.mem_cons.1 h with rfl | h
      ·exact hW x (by simp)
      ·exact hW y (by simp at h; simp [h])
    rcases zHC hnl kx m a2 rs (ds++[{ x with wit:=ws }]) hW' (fun y hy=>hw y (by simp [hy])) (by simp; omega) (by omega) k3 with ⟨ys,a',r1,r2⟩ | ⟨e,at_,b',r1,r2,r3⟩
    ·refine .inl ⟨{ x with wit:=ws }::ys,a',by simp only [zdM,e1,q1,r1],?_⟩
     refine q2.trans ?_
     unfold zH
     rw [zax (by omega),zi,zhn,zyi]
     rw [List.append_assoc,List.append_assoc] at r2
     refine Eq.trans ?_ r2
     simp only [List.length_append,List.length_cons,List.length_nil,List.singleton_append,Nat.zero_add]
    ·refine .inr ⟨e,at_,b',by simp only [zdM,e1,q1,r1],r2,?_⟩
     refine q2.trans ?_
     unfold zH
     rw [zax (by omega),zi,zhn,zyi]
     rw [List.append_assoc] at r3
     refine Eq.trans ?_ r3
     simp only [List.length_append,List.length_cons,List.length_nil,List.singleton_append,Nat.zero_add]
   ·obtain ⟨b2,r2⟩:=bad q2 at_ b'
    rw [Nat.sub_zero] at q1
    exact .inr ⟨e,at_,b2,by simp only [zdM,e1,q1],q2,q3.trans r2⟩
end
end
section
set_option linter.unusedVariables false
set_option linter.unusedSimpArgs false
set_option linter.unusedSectionVars false
set_option maxRecDepth 100000
variable {β:Type}
def zfs:List V:=[(V.sc (.int .u32 (0:Int))),(V.sl 35 ([]:List (List V))),(V.sl 2 ([]:List (List V))),(V.sc (.int .u32 (0:Int)))]
theorem zfV (k:Option β):chk (0=0∧(List.length zfs)=4∧4≠0) k=k:=zh (by simp [zfs]) k
theorem zHh {l:List Int} (h:32≤l.length):List.take 32 l=(List.range 32).map (fun i=>l.getD i 0):=by
 apply List.ext_getElem
 ·simp; omega
 ·intro i h1 h2
  simp at h1 h2 ⊢
  rw [List.getElem?_eq_getElem (by omega)]
  rfl
theorem zEg {x:Inp} (h:x.pv.length=33):(zaA x).mapM V.plain=some (zdn x):=by
 unfold zaA
 rw [zHh (by omega)]
 rfl
theorem zFA {f:V→Option V}:∀ {l m l' m':List V},l.mapM f=some l'→m.mapM f=some m'→(l++m).mapM f=some (l'++m'):=by
 intro l m l' m' h1 h2
 rw [List.mapM_append,h1,h2]
 rfl
theorem ztk:∀ {xs:List Inp},(∀ y ∈ xs,y.pv.length=33)→((xs.map zaA).flatten).mapM V.plain=some (xs.map zdn).flatten
 | [],_=>rfl
 | x::xs,h=>by
  rw [List.map_cons,List.flatten_cons,List.map_cons,List.flatten_cons]
  exact zFA (zEg (h x (by simp))) (ztk (fun y hy=>h y (by simp [hy])))
theorem zwt (xs:List Inp):xj 35 xs.length (xs.map zdn).flatten=xs.map zdn:=by
 have:=zwJ (sz:=35) (es:=xs.map zdn) (fun e he=>by obtain ⟨y,_,rfl⟩:=List.mem_map.1 he; exact ztT y)
 rwa [List.length_map] at this
theorem zB9 {xs:List Inp} (h:(xs.map zaA).flatten=[]) (hW:∀ y ∈ xs,y.pv.length=33):xs=[]:=by
 cases xs with
 | nil=>rfl
 | cons x xs =>
  rw [List.map_cons,List.flatten_cons] at h
  have:=ztm (hW x (by simp)) (zbj x.wit)
  rw [List.append_eq_nil_iff] at h
  rw [← zE0,h.1] at this
  cases this
theorem zvK {j:List Int}:∀ (n a:Nat) {a':Nat} {ys:List Inp},a≤j.length→zgX j n a=.ok (ys,a')→a'≤j.length∧ys.length=n∧(∀ y ∈ ys,y.pv.length=33)∧∀ y ∈ ys,y.wit=[]
 | 0,a,a',ys,ha,h=>by simp only [zgX] at h; cases h; exact ⟨ha,rfl,by simp,by simp⟩
 | n+1,a,a',ys,ha,h=>by
  rw [zgX] at h
  split at h
  ·cases h
  ·rename_i x a1 hz
   split at h
   ·cases h
   ·rename_i xs a2 hz2
    cases h
    unfold gIn at hz
    split at hz
    ·cases hz
    ·rename_i hh b1 z1
     split at hz
     ·cases hz
     ·rename_i ix b2 z2
      split at hz
      ·cases hz
      ·rename_i sq b3 z3
       cases hz
       obtain ⟨r1,r2,r3,r4⟩:=zvK n _ (zlx z3) hz2
       have hl:=(zpb z1).2
       refine ⟨r1,by simp [r2],?_,?_⟩
       ·intro y hy
        rcases List.mem_cons.1 hy with rfl | hy
        ·simp [hl]
        ·exact r3 y hy
       ·intro y hy
        rcases List.mem_cons.1 hy with rfl | hy
        ·rfl
        ·exact r4 y hy
theorem zw3 {j:List Int}:∀ (n a:Nat) {a':Nat} {ys:List Outp},a≤j.length→zdP j n a=.ok (ys,a')→a'≤j.length
 | 0,a,a',ys,ha,h=>by simp only [zdP] at h; cases h; exact ha
 | n+1,a,a',ys,ha,h=>by
  rw [zdP] at h
  split at h
  ·cases h
  ·rename_i x a1 hz
   split at h
   ·cases h
   ·rename_i xs a2 hz2
    cases h
    exact zw3 n a1 (zD3 hz) hz2
theorem zxh {j:List Int}:∀ (xs:List Inp) (a:Nat) {a':Nat} {ys:List Inp},a≤j.length→(∀ y ∈ xs,y.pv.length=33)→zdM j xs a=.ok (ys,a')→a'≤j.length∧ys.length=xs.length∧∀ y ∈ ys,y.pv.length=33
 | [],a,a',ys,ha,hW,h=>by simp only [zdM] at h; cases h; exact ⟨ha,rfl,by simp⟩
 | x::xs,a,a',ys,ha,hW,h=>by
  rw [zdM] at h
  split at h
  ·cases h
  ·rename_i n a1 hz
   split at h
   ·cases h
   ·rename_i w a2 hz2
    split at h
    ·cases h
    ·rename_i zs a3 hz3
     cases h
     obtain ⟨r1,r2,r3⟩:=zxh xs a2 (zvI _ _ (zch hz).1 hz2) (fun y hy=>hW y (by simp [hy])) hz3
     refine ⟨r1,by simp [r2],?_⟩
     intro y hy
     rcases List.mem_cons.1 hy with rfl | hy
     ·exact hW x (by simp)
     ·exact r3 y hy
section
variable {L:Nat} (p1:Int) (pl:Nat) (zJV:Int) (zJW zJX:List (List V)) (zJY zJZ:Int) (nl:Nat) (zJ1:List (List V)) (zJ0:Int)
theorem zxk (J:List (List V)) (at_:Int) {e:Int} (he:e≠0) (F:List V) (k:List V→Int→Int→Option β) :
  zV yc xe xb xa ye L p1 pl zJV zJW zJX zJY zJZ nl zJ1 zJ0 J at_ e F k=k zfs 0 e:=by
 unfold zV
 rw [z7 he,zu,if_neg he,zi]
 exact zfV _
theorem zH0 (a0 a:Nat) (h0:a0≤100000000) (h1:a≤100000000) (J:List (List V)) (xs:List Inp) (os:List Outp) (hn:nl=xs.length) (hW:∀ y ∈ xs,y.pv.length=33) (k:List V→Int→Int→Option β) :
  zV yc xe xb xa ye L (a0:Int) pl zJV zJW zJX zJY zJZ nl (os.map zcg) zJ0 J (a:Int) 0 (xs.map zaA).flatten k=if a - a0 > 20000 then k zfs 0 4 else k (zcJ ⟨zJZ,xs,os,zJ0⟩) (a:Int) 0:=by
 unfold zV
 rw [y7 rfl,zJ (by omega) (by omega),zi,zaZ]
 by_cases h:a - a0 > 20000
 ·rw [if_pos (by omega),if_pos h,zi]
  exact zfV _
 ·rw [if_neg (by omega),if_neg h,zu,if_pos rfl]
  have hp:=ztk hW
  cases hF:(xs.map zaA).flatten with
  | nil =>
   have hx:=zB9 hF hW
   subst hx
   have:nl=0:=hn
   show chk (nl=0) _=_
   rw [zh this,zi,zh (by simp)]
   rfl
  | cons c cs =>
   rw [hF] at hp
   show zc4 (c::cs) _=_
   unfold zc4
   rw [hp]
   show lt _ _=_
   rw [zi,zh (by simp),hn,zwt,zCS ⟨zJZ,xs,os,zJ0⟩]
end
section
variable {L:Nat} (hL:1000≤L) {j:List Int} (hb:Byt j) (hj:j.length≤100000000)
include hL hb hj
theorem zCl {a:Nat} (ha:a≤j.length) (k:List V→Int→Int→Option β):yS β L (zj .u8 j) (a:Int) k=zda (gTx j a) (fun t a'=>k (zcJ t) (a':Int) 0) (fun e=>k zfs 0 e):=by
 have hL20:20≤L:=by omega
 have t4:∀ {e:Int} (he:e≠0) (pl:Nat) (zJV:Int) (zJW zJX:List (List V)) (zJY zJZ:Int) (nl:Nat) (zJ1:List (List V)) (zJ0 at_:Int) (F:List V),nl≤64→yI yc xe xb xa ye L (fun p1 p71l zJV zJW zJX zJY zJZ zJ9 zJ1 zJ0 zJ4 zJ2 zJ3 b71=>zV yc xe xb xa ye L p1 p71l zJV zJW zJX zJY zJZ zJ9 zJ1 zJ0 zJ4 zJ2 zJ3 b71 k) L (a:Int) pl (nl:Int) ((0:Nat):Int) zJV zJW zJX zJY zJZ nl zJ1 zJ0 (zj .u8 j) at_ e F=k zfs 0 e:=by
  intro e he pl zJV zJW zJX zJY zJZ nl zJ1 zJ0 at_ F hn
  obtain ⟨b',q⟩:=zyE (β:=β) (a:Int) pl zJV zJW zJX zJY zJZ nl zJ1 zJ0 hL20 hn (zj .u8 j) at_ he (fun p1 p71l zJV zJW zJX zJY zJZ zJ9 zJ1 zJ0 zJ4 zJ2 zJ3 b71=>zV yc xe xb xa ye L p1 p71l zJV zJW zJX zJY zJZ zJ9 zJ1 zJ0 zJ4 zJ2 zJ3 b71 k) L 0 F (by omega) (by omega)
  exact q.trans (zxk _ _ _ _ _ _ _ _ _ _ _ _ he _ k)
 have t2:∀ {e:Int} (he:e≠0) (zJV:Int) (zJW zJX:List (List V)) (zJY zJZ:Int) (R zJ1:List (List V)) (zJ0 at_:Int),R.length≤64→xS yc xe xb xa ye L (a:Int) zJV zJW zJX zJY zJZ R zJ1 zJ0 (zj .u8 j) at_ e k=k zfs 0 e:=by
  intro e he zJV zJW zJX zJY zJZ R zJ1 zJ0 at_ hR
  unfold xS zcz
  rw [zpn L _ he,zi]
  exact t4 he _ _ _ _ _ _ _ _ _ _ _ hR
 have t0:∀ {e:Int} (he:e≠0) (zJV:Int) (zJW zJX:List (List V)) (zJY zJZ:Int) (R:List (List V)) (zJ0 at_:Int),R.length≤64→zR yc xe xb xa ye L (a:Int) zJV zJW zJX zJY zJZ R [] zJ0 (zj .u8 j) at_ e k=k zfs 0 e:=by
  intro e he zJV zJW zJX zJY zJZ R zJ0 at_ hR
  unfold zR zcR
  rw [zuN L _ he]
  obtain ⟨O',q⟩:=zpW (β:=β) (L:=L) (a:Int) zJV zJW zJX zJY zJZ R zJ0 (n:=0) (by decide) (zj .u8 j) at_ he (fun p1 zJV zJW zJX zJY zJZ zKf zJ1 zJ0 zJ4 zJ2 zJ3=>xS yc xe xb xa ye L p1 zJV zJW zJX zJY zJZ zKf zJ1 zJ0 zJ4 zJ2 zJ3 k) L 0 [] rfl (by omega) (by omega)
  exact q.trans (t2 he _ _ _ _ _ _ _ _ _ hR)
 have tI:∀ {e:Int} (he:e≠0) (v at_:Int),xY yc xe xb xa ye L (fun p1 zJV zJW zJX zJY zJZ zKf zJ1 zJ0 zJ4 zJ2 zJ3=>zR yc xe xb xa ye L p1 zJV zJW zJX zJY zJZ zKf zJ1 zJ0 zJ4 zJ2 zJ3 k) L (a:Int) 0 0 0 [] [] 0 v [] [] 0 (zj .u8 j) at_ e=k zfs 0 e:=by
  intro e he v at_
  obtain ⟨R',q0,q⟩:=zvM (β:=β) (L:=L) (a:Int) 0 [] [] 0 v [] 0 (n:=0) (by decide) (zj .u8 j) at_ he (fun p1 zJV zJW zJX zJY zJZ zKf zJ1 zJ0 zJ4 zJ2 zJ3=>zR yc xe xb xa ye L p1 zJV zJW zJX zJY zJZ zKf zJ1 zJ0 zJ4 zJ2 zJ3 k) L 0 [] rfl (by omega) (by omega)
  exact q.trans (t0 he _ _ _ _ _ _ _ _ (by omega))
 unfold yS znu zqD
 rw [zBr hL20 hb hj ha]
 unfold gTx
 cases e1:gN j 4 a with
 | error e =>
  have he:=zm2 e1
  rw [z4,zuN L _ he]
  exact tI he _ _
 | ok p =>
  obtain ⟨ver,a1⟩:=p
  have h1:=zlx e1
  rw [z0,zII hL20 hb hj h1]
  cases e2:zbY j 64 a1 with
  | error e =>
   have he:=zf4 e2
   rw [z4]
   simp only [e2]
   exact tI he _ _
  | ok p =>
   obtain ⟨n,a2⟩:=p
   obtain ⟨h2,hn⟩:=zch e2
   rw [z0]
   simp only [e2]
   rcases zFW hL20 hb hj (a:Int) 0 [] [] 0 (ver:Int) [] 0 hn (fun p1 zJV zJW zJX zJY zJZ zKf zJ1 zJ0 zJ4 zJ2 zJ3=>zR yc xe xb xa ye L p1 zJV zJW zJX zJY zJZ zKf zJ1 zJ0 zJ4 zJ2 zJ3 k) L 0 a2 [] rfl (by omega) (by omega) h2 with ⟨xs,a3,q1,q2⟩ | ⟨e,R,at_,q1,q2,q3,q4⟩
   ·rw [Nat.sub_zero] at q1
    rw [List.nil_append] at q2
    obtain ⟨h3,hx1,hx2,hx3⟩:=zvK n a2 h2 q1
    refine Eq.trans q2 ?_
    simp only [q1]
    unfold zR zcR
    rw [zII hL20 hb hj h3]
    cases e4:zbY j 64 a3 with
    | error e =>
     have he:=zf4 e4
     rw [z4]
     obtain ⟨O',q⟩:=zpW (β:=β) (L:=L) (a:Int) 0 [] [] 0 (ver:Int) (xs.map zaA) 0 (n:=0) (by decide) (zj .u8 j) (a3:Int) he (fun p1 zJV zJW zJX zJY zJZ zKf zJ1 zJ0 zJ4 zJ2 zJ3=>xS yc xe xb xa ye L p1 zJV zJW zJX zJY zJZ zKf zJ1 zJ0 zJ4 zJ2 zJ3 k) L 0 [] rfl (by omega) (by omega)
     exact q.trans (t2 he _ _ _ _ _ _ _ _ _ (by rw [List.length_map]; omega))
    | ok p =>
     obtain ⟨m,a4⟩:=p
     obtain ⟨h4,hm⟩:=zch e4
     rw [z0]
     simp only []
     rcases zDE hL20 hb hj (a:Int) 0 [] [] 0 (ver:Int) (xs.map zaA) 0 hm (fun p1 zJV zJW zJX zJY zJZ zKf zJ1 zJ0 zJ4 zJ2 zJ3=>xS yc xe xb xa ye L p1 zJV zJW zJX zJY zJZ zKf zJ1 zJ0 zJ4 zJ2 zJ3 k) L 0 a4 [] rfl (by omega) (by omega) h4 with ⟨os,a5,r1,r2⟩ | ⟨e,O,at_,r1,r2,r3⟩
     ·rw [Nat.sub_zero] at r1
      rw [List.nil_append] at r2
      have h5:=zw3 m a4 h4 r1
      refine Eq.trans r2 ?_
      simp only [r1]
      unfold xS zcz
      rw [zBr hL20 hb hj h5]
      cases e6:gN j 4 a5 with
      | error e =>
       have he:=zm2 e6
       rw [z4,zi]
       exact t4 he _ _ _ _ _ _ _ _ _ _ _ (by rw [List.length_map]; omega)
      | ok p =>
       obtain ⟨lk,a6⟩:=p
       have h6:=zlx e6
       rw [z0,zi,zoZ]
       simp only []
       rcases zHC (β:=β) (a:Int) (xs.map zaA).length 0 [] [] 0 (ver:Int) (xs.map zaA).length (os.map zcg) (lk:Int) hL hb hj (by rw [List.length_map]; omega) (fun p1 p71l zJV zJW zJX zJY zJZ zJ9 zJ1 zJ0 zJ4 zJ2 zJ3 b71=>zV yc xe xb xa ye L p1 p71l zJV zJW zJX zJY zJZ zJ9 zJ1 zJ0 zJ4 zJ2 zJ3 b71 k) L a6 xs [] (by simpa using hx2) hx3 (by simp) (by omega) h6 with ⟨ys,a7,s1,s2⟩ | ⟨e,at_,b',s1,s2,s3⟩
       ·obtain ⟨h7,hy1,hy2⟩:=zxh xs a6 h6 hx2 s1
        refine Eq.trans s2 ?_
        simp only [s1]
        rw [List.nil_append,zH0 _ _ _ _ _ _ _ _ _ _ (by omega) (by omega) _ ys os (by rw [List.length_map,hy1]) hy2]
        by_cases hh:a7 - a > 20000
        ·rw [if_pos hh,if_pos hh]; rfl
        ·rw [if_neg hh,if_neg hh]; rfl
       ·refine Eq.trans s3 ?_
        simp only [s1]
        exact zxk _ _ _ _ _ _ _ _ _ _ _ _ s2 _ k
     ·rw [Nat.sub_zero] at r1
      refine Eq.trans r3 ?_
      simp only [r1]
      exact t2 r2 _ _ _ _ _ _ _ _ _ (by rw [List.length_map]; omega)
   ·rw [Nat.sub_zero] at q1
    refine Eq.trans q4 ?_
    simp only [q1]
    exact t0 q2 _ _ _ _ _ _ _ _ (by omega)
end
end
section
set_option linter.unusedVariables false
set_option linter.unusedSimpArgs false
set_option linter.unusedSectionVars false
set_option maxRecDepth 100000
variable {β:Type}
section
variable {L:Nat} (p1:Int) (pl:Nat) (p72 p73 zJV:Int) (zJW zJX:List (List V)) (zJY zJZ:Int) (nl:Nat) (zJ1:List (List V)) (zJ0:Int)
theorem zvR (i n:Int) (F:List V) (J:List (List V)) (at_ f:Int) (hf:¬ n > 0∨f≠0) (kh:zbC β) (kx:zdo β) :
  zar zb yb zc ya za L p1 i n pl p72 p73 zJV zJW zJX zJY zJZ nl zJ1 zJ0 J at_ f F kh kx=kx p1 pl p72 p73 zJV zJW zJX zJY zJZ nl zJ1 zJ0 J at_ f (zba (bl 356811923167403450762135544012445415519542271 148) F):=by
 unfold zar
 by_cases h:n > 0
 ·rw [yX h,z7 (hf.resolve_left (fun hh=>hh h))]
 ·rw [xL h]
variable {ds:List Inp} {x:Inp} {rs:List Inp} (hW:∀ y ∈ ds++x::rs,y.pv.length=33) (hnl:nl=ds.length+1+rs.length)
include hW hnl
theorem zHk (m:Nat) (hm:m≤64) (w J:List (List V)) (hw:w.length≤64) (at_:Int) (kh:zbC β) (kx:zdo β) :
  zar zb yb zc ya za L p1 ((ds.length:Nat):Int) ((m+1:Nat):Int) pl p72 p73 zJV zJW zJX zJY zJZ nl zJ1 zJ0 J at_ 0 (fl ds x w rs) kh kx =
  za β L (520:Int) J at_ 0
   (fun v83 v84 v85 v86=>kh p1 ((ds.length:Nat):Int) (m:Int) pl p72 p73 zJV zJW zJX zJY zJZ nl zJ1 zJ0 v84 v85 v86 (fl ds x (w++[[(V.sl 1 v83)]]) rs))
   (fun v83 v84 v85 v86=>kh p1 ((ds.length:Nat):Int) (m:Int) pl p72 p73 zJV zJW zJX zJY zJZ nl zJ1 zJ0 v84 v85 v86 (fl ds x (w++[[(V.sl 1 v83)]]) rs)):=by
 have hs:(100000000:Nat)≤yn:=by decide
 have hl:=zB1 hW w
 have hch:∀ v:V,xj 1 1 [v]=[[v]]:=fun v=>rfl
 unfold zar
 rw [yX (by omega),y7 rfl,zh (by omega),zFa,zF8 hW]
 congr 1
 ·funext v83 v84 v85 v86
  rw [hch,zh (by simp only [List.length_cons,List.length_nil]; omega),zi,zh (by omega),zh (by rw [List.length_set]; omega),zi,zJ (by omega) (by omega),zxq hW,zhn,show ((m+1:Nat):Int) - 1=(m:Int) by omega]
 ·funext v83 v84 v85 v86
  rw [hch,zh (by simp only [List.length_cons,List.length_nil]; omega),zi,zh (by omega),zh (by rw [List.length_set]; omega),zi,zJ (by omega) (by omega),zxq hW,zhn,show ((m+1:Nat):Int) - 1=(m:Int) by omega]
variable (hL:20≤L) {j:List Int} (hb:Byt j) (hj:j.length≤100000000)
include hL hb hj
theorem zFg (kx:zdo β):∀ (fu m a:Nat) (ws:List (List Int)),ws.length+m≤32→m+1 < fu→a≤j.length →
  (∃ ys a',zhF j m a=.ok (ys,a')∧yD zb yb zc ya za L kx fu p1 ((ds.length:Nat):Int) (m:Int) pl p72 p73 zJV zJW zJX zJY zJZ nl zJ1 zJ0 (zj .u8 j) (a:Int) 0 (fl ds x (zbj ws) rs)=kx p1 pl p72 p73 zJV zJW zJX zJY zJZ nl zJ1 zJ0 (zj .u8 j) (a':Int) 0 (fl ds x (zbj (ws++ys)) rs)) ∨
  (∃ e at_ b',zhF j m a=.error e∧e≠0∧yD zb yb zc ya za L kx fu p1 ((ds.length:Nat):Int) (m:Int) pl p72 p73 zJV zJW zJX zJY zJZ nl zJ1 zJ0 (zj .u8 j) (a:Int) 0 (fl ds x (zbj ws) rs)=kx p1 pl p72 p73 zJV zJW zJX zJY zJZ nl zJ1 zJ0 (zj .u8 j) at_ e b')
 | 0,m,a,ws,h1,h2,ha=>by omega
 | fu+1,0,a,ws,h1,h2,ha=>by
  refine .inl ⟨[],a,rfl,?_⟩
  rw [yD,zvR (hf:=.inl (by decide)),zhn,List.append_nil]
 | fu+1,m+1,a,ws,h1,h2,ha=>by
  have hwl:(zbj ws).length=ws.length:=by simp [zbj]
  rw [yD,zHk (hW:=hW) (hnl:=hnl) (hm:=by omega) (hw:=by omega),zHF hL hb hj ha]
  cases e1:zcO j 520 a with
  | error e =>
   have he:=znD e1
   obtain ⟨f2,rfl⟩:∃ f2,fu=f2+1:=⟨fu - 1,by omega⟩
   refine .inr ⟨e,0,zba (bl 356811923167403450762135544012445415519542271 148) (fl ds x (zbj ws++[[(V.sl 1 [])]]) rs),by simp only [zhF,e1],he,?_⟩
   rw [z4,yD,zvR (hf:=.inr he)]
  | ok p =>
   obtain ⟨s,a1⟩:=p
   have k1:=(zny e1).1
   have hrow:zbj ws++[[(V.sl 1 (zj .u8 s))]]=zbj (ws++[s]):=by simp [zbj]
   rw [z0,hrow]
   rcases zFg kx fu m a1 (ws++[s]) (by simp; omega) (by omega) k1 with ⟨ys,a',q1,q2⟩ | ⟨e,at_,b',q1,q2,q3⟩
   ·refine .inl ⟨s::ys,a',by simp only [zhF,e1,q1],?_⟩
    rw [q2,List.append_assoc]
    rfl
   ·exact .inr ⟨e,at_,b',by simp only [zhF,e1,q1],q2,q3⟩
end
section
variable {L:Nat} (p1:Int) (pl:Nat) (zJV:Int) (zJW zJX:List (List V)) (zJY zJZ:Int) (nl:Nat) (zJ1:List (List V)) (zJ0:Int)
theorem zzA {n:Nat} (hL:20≤L) (hn:n≤64) (J:List (List V)) (at_:Int) {e:Int} (he:e≠0) (kx:zgA β):∀ (m i:Nat) (F:List V),i≤n→n - i < m →
  ∃ b':List V,xI zb yb zc ya za L kx m p1 pl (n:Int) (i:Int) zJV zJW zJX zJY zJZ nl zJ1 zJ0 J at_ e F=kx p1 pl zJV zJW zJX zJY zJZ nl zJ1 zJ0 J at_ e b'
 | 0,i,F,h2,h3=>by omega
 | m+1,i,F,h2,h3=>by
  rw [xI]
  unfold zbp zcu
  by_cases hi:i < n
  ·obtain ⟨l,hl⟩:∃ l,L=l+1:=⟨L - 1,by omega⟩
   rw [yX (by omega),zBA L J he]
   have key:∀ (kx6:zdo β) (F:List V),∃ b',yD zb yb zc ya za L kx6 L p1 (i:Int) 0 pl (n:Int) (i:Int) zJV zJW zJX zJY zJZ nl zJ1 zJ0 J at_ e F=kx6 p1 pl (n:Int) (i:Int) zJV zJW zJX zJY zJZ nl zJ1 zJ0 J at_ e b':=by
    intro kx6 F
    generalize hg:L=L'
    rw [hl] at hg
    subst hg
    rw [yD,zvR (hf:=.inl (by decide))]
    exact ⟨_,rfl⟩
   obtain ⟨b1,q1⟩:=key (fun p1 p71l p72 p73 zJV zJW zJX zJY zJZ zJ9 zJ1 zJ0 zJ4 zJ2 zJ3 b71=>yE zb yb zc ya za L p1 p71l p72 p73 zJV zJW zJX zJY zJZ zJ9 zJ1 zJ0 zJ4 zJ2 zJ3 b71 (fun p1 p71l p72 p73 zJV zJW zJX zJY zJZ zJ9 zJ1 zJ0 zJ4 zJ2 zJ3 b71=>xI zb yb zc ya za L kx m p1 p71l p72 p73 zJV zJW zJX zJY zJZ zJ9 zJ1 zJ0 zJ4 zJ2 zJ3 b71)) (zba (bl 356811923167403450762135544012445415519550463 148) F)
   have r:∀ F:List V,∃ b',yE zb yb zc ya za L p1 pl (n:Int) (i:Int) zJV zJW zJX zJY zJZ nl zJ1 zJ0 J at_ e F (fun p1 p71l p72 p73 zJV zJW zJX zJY zJZ zJ9 zJ1 zJ0 zJ4 zJ2 zJ3 b71=>xI zb yb zc ya za L kx m p1 p71l p72 p73 zJV zJW zJX zJY zJZ zJ9 zJ1 zJ0 zJ4 zJ2 zJ3 b71)=kx p1 pl zJV zJW zJX zJY zJZ nl zJ1 zJ0 J at_ e b':=by
    intro F
    unfold yE
    rw [zax (by omega),zi]
    exact zzA hL hn J at_ he kx m (i+1) _ (by omega) (by omega)
   obtain ⟨b2,q2⟩:=r b1
   exact ⟨b2,q1.trans q2⟩
  ·rw [xL (by omega)]
   exact ⟨_,rfl⟩
variable (hL:1000≤L) {j:List Int} (hb:Byt j) (hj:j.length≤100000000)
include hL hb hj
theorem zGk (hnl:nl≤64) (kx:zgA β):∀ (m a:Nat) (rs ds:List Inp),(∀ y ∈ ds++rs,y.pv.length=33)→(∀ y ∈ rs,y.wit=[])→nl=ds.length+rs.length→rs.length < m→a≤j.length →
  (∃ ys a',zdM j rs a=.ok (ys,a')∧xI zb yb zc ya za L kx m p1 pl (nl:Int) ((ds.length:Nat):Int) zJV zJW zJX zJY zJZ nl zJ1 zJ0 (zj .u8 j) (a:Int) 0 ((ds++rs).map zaA).flatten=kx p1 pl zJV zJW zJX zJY zJZ nl zJ1 zJ0 (zj .u8 j) (a':Int) 0 ((ds++ys).map zaA).flatten) ∨
  (∃ e at_ b',zdM j rs a=.error e∧e≠0∧xI zb yb zc ya za L kx m p1 pl (nl:Int) ((ds.length:Nat):Int) zJV zJW zJX zJY zJZ nl zJ1 zJ0 (zj .u8 j) (a:Int) 0 ((ds++rs).map zaA).flatten=kx p1 pl zJV zJW zJX zJY zJZ nl zJ1 zJ0 (zj .u8 j) at_ e b')
 | 0,a,rs,ds,hW,hw,h1,h2,ha=>by omega
 | m+1,a,[],ds,hW,hw,h1,h2,ha=>by
  refine .inl ⟨[],a,rfl,?_⟩
  rw [xI]
  unfold zbp zcu
  rw [xL (by simp only [List.length_nil] at h1; omega),zoZ]
 | m+1,a,x::rs,ds,hW,hw,h1,h2,ha=>by
  simp only [List.length_cons] at h1 h2
  have hx:=hw x (by simp)
  have hL20:20≤L:=by omega
  rw [xI]
  unfold zbp zcu
  rw [yX (by omega),zJE hL20 hb hj ha,zoZ,zE8 ds x hx rs]
  have bad:∀ {e:Int} (he:e≠0) (at_:Int) (F:List V),∃ b':List V,yE zb yb zc ya za L p1 pl (nl:Int) ((ds.length:Nat):Int) zJV zJW zJX zJY zJZ nl zJ1 zJ0 (zj .u8 j) at_ e F (fun p1 p71l p72 p73 zJV zJW zJX zJY zJZ zJ9 zJ1 zJ0 zJ4 zJ2 zJ3 b71=>xI zb yb zc ya za L kx m p1 p71l p72 p73 zJV zJW zJX zJY zJZ zJ9 zJ1 zJ0 zJ4 zJ2 zJ3 b71)=kx p1 pl zJV zJW zJX zJY zJZ nl zJ1 zJ0 (zj .u8 j) at_ e b':=by
   intro e he at_ F
   unfold yE
   rw [zax (by omega),zi]
   exact zzA p1 pl zJV zJW zJX zJY zJZ nl zJ1 zJ0 hL20 hnl _ at_ he kx m _ _ (by omega) (by omega)
  cases e1:zbY j 32 a with
  | error e =>
   have he:=zf4 e1
   rw [z4]
   have q:∀ (kx6:zdo β) (F:List V),∃ b',yD zb yb zc ya za L kx6 L p1 ((ds.length:Nat):Int) 0 pl (nl:Int) ((ds.length:Nat):Int) zJV zJW zJX zJY zJZ nl zJ1 zJ0 (zj .u8 j) 0 e F=kx6 p1 pl (nl:Int) ((ds.length:Nat):Int) zJV zJW zJX zJY zJZ nl zJ1 zJ0 (zj .u8 j) 0 e b':=by
    intro kx6 F
    obtain ⟨l,hl⟩:∃ l,L=l+1:=⟨L - 1,by omega⟩
    generalize hg:L=L'
    rw [hl] at hg
    subst hg
    rw [yD,zvR (hf:=.inl (by decide))]
    exact ⟨_,rfl⟩
   obtain ⟨b',q⟩:=q (fun p1 p71l p72 p73 zJV zJW zJX zJY zJZ zJ9 zJ1 zJ0 zJ4 zJ2 zJ3 b71=>yE zb yb zc ya za L p1 p71l p72 p73 zJV zJW zJX zJY zJZ zJ9 zJ1 zJ0 zJ4 zJ2 zJ3 b71 (fun p1 p71l p72 p73 zJV zJW zJX zJY zJZ zJ9 zJ1 zJ0 zJ4 zJ2 zJ3 b71=>xI zb yb zc ya za L kx m p1 p71l p72 p73 zJV zJW zJX zJY zJZ zJ9 zJ1 zJ0 zJ4 zJ2 zJ3 b71)) (fl ds x (zbj []) rs)
   obtain ⟨b2,q2⟩:=bad he 0 b'
   refine .inr ⟨e,0,b2,by simp only [zdM,e1],he,?_⟩
   exact q.trans q2
  | ok p =>
   obtain ⟨n,a1⟩:=p
   obtain ⟨k1,k2⟩:=zch e1
   rw [z0]
   rcases zFg p1 pl (nl:Int) ((ds.length:Nat):Int) zJV zJW zJX zJY zJZ nl zJ1 zJ0 hW (by omega) hL20 hb hj (fun p1 p71l p72 p73 zJV zJW zJX zJY zJZ zJ9 zJ1 zJ0 zJ4 zJ2 zJ3 b71=>yE zb yb zc ya za L p1 p71l p72 p73 zJV zJW zJX zJY zJZ zJ9 zJ1 zJ0 zJ4 zJ2 zJ3 b71 (fun p1 p71l p72 p73 zJV zJW zJX zJY zJZ zJ9 zJ1 zJ0 zJ4 zJ2 zJ3 b71=>xI zb yb zc ya za L kx m p1 p71l p72 p73 zJV zJW zJX zJY zJZ zJ9 zJ1 zJ0 zJ4 zJ2 zJ3 b71)) L n a1 [] (by simp; omega) (by omega) k1 with ⟨ws,a2,q1,q2⟩ | ⟨e,at_,b',q1,q2,q3⟩
   ·have k3:a2≤j.length:=zvI _ _ k1 q1
    rw [List.nil_append] at q2
    have hW':∀ y ∈ (ds++[{ x with wit:=ws }])++rs,y.pv.length=33:=by
     intro y hy
     rw [List.append_assoc] at hy
     rcases List.mem_append.1 hy with h | h
     ·exact hW y (by simp [h])
     ·rcases List.mem_cons.1 h with rfl | h
      ·exact hW x (by simp)
      ·exact hW y (by simp at h; simp [h])
    rcases zGk hnl kx m a2 rs (ds++[{ x with wit:=ws }]) hW' (fun y hy=>hw y (by simp [hy])) (by simp; omega) (by omega) k3 with ⟨ys,a',r1,r2⟩ | ⟨e,at_,b',r1,r2,r3⟩
    ·refine .inl ⟨{ x with wit:=ws }::ys,a',by simp only [zdM,e1,q1,r1],?_⟩
     refine q2.trans ?_
     unfold yE
     rw [zax (by omega),zi,zhn,zyi]
     rw [List.append_assoc,List.append_assoc] at r2
     refine Eq.trans ?_ r2
     simp only [List.length_append,List.length_cons,List.length_nil,List.singleton_append,Nat.zero_add]
    ·refine .inr ⟨e,at_,b',by simp only [zdM,e1,q1,r1],r2,?_⟩
     refine q2.trans ?_
     unfold yE
     rw [zax (by omega),zi,zhn,zyi]
     rw [List.append_assoc] at r3
     refine Eq.trans ?_ r3
     simp only [List.length_append,List.length_cons,List.length_nil,List.singleton_append,Nat.zero_add]
   ·obtain ⟨b2,r2⟩:=bad q2 at_ b'
    exact .inr ⟨e,at_,b2,by simp only [zdM,e1,q1],q2,q3.trans r2⟩
end
section
variable {L:Nat} (p1:Int) (pl:Nat) (zJV:Int) (zJW zJX:List (List V)) (zJY zJZ:Int) (nl:Nat) (zJ1:List (List V)) (zJ0:Int)
theorem zCH (J:List (List V)) (at_:Int) {e:Int} (he:e≠0) (F:List V) (k:List V→Int→Int→Option β) :
  xZ zb yb zc ya za L p1 pl zJV zJW zJX zJY zJZ nl zJ1 zJ0 J at_ e F k=k zfs 0 e:=by
 unfold xZ
 rw [z7 he,zu,if_neg he,zi]
 exact zfV _
theorem zHR (a0 a:Nat) (h0:a0≤100000000) (h1:a≤100000000) (J:List (List V)) (xs:List Inp) (os:List Outp) (hn:nl=xs.length) (hW:∀ y ∈ xs,y.pv.length=33) (k:List V→Int→Int→Option β) :
  xZ zb yb zc ya za L (a0:Int) pl zJV zJW zJX zJY zJZ nl (os.map zcg) zJ0 J (a:Int) 0 (xs.map zaA).flatten k=if a - a0 > 20000 then k zfs 0 4 else k (zcJ ⟨zJZ,xs,os,zJ0⟩) (a:Int) 0:=by
 unfold xZ
 rw [y7 rfl,zJ (by omega) (by omega),zi,zaZ]
 by_cases h:a - a0 > 20000
 ·rw [if_pos (by omega),if_pos h,zi]
  exact zfV _
 ·rw [if_neg (by omega),if_neg h,zu,if_pos rfl]
  have hp:=ztk hW
  cases hF:(xs.map zaA).flatten with
  | nil =>
   have hx:=zB9 hF hW
   subst hx
   have:nl=0:=hn
   show chk (nl=0) _=_
   rw [zh this,zi,zh (by simp)]
   rfl
  | cons c cs =>
   rw [hF] at hp
   show zc4 (c::cs) _=_
   unfold zc4
   rw [hp]
   show lt _ _=_
   rw [zi,zh (by simp),hn,zwt,zCS ⟨zJZ,xs,os,zJ0⟩]
end
section
variable {L:Nat} (hL:1000≤L) {j:List Int} (hb:Byt j) (hj:j.length≤100000000)
include hL hb hj
theorem zBT {a:Nat} (ha:a≤j.length) (k:List V→Int→Int→Option β):xE β L (zj .u8 j) (a:Int) k=zda (gTx j a) (fun t a'=>k (zcJ t) (a':Int) 0) (fun e=>k zfs 0 e):=by
 have hL20:20≤L:=by omega
 have t4:∀ {e:Int} (he:e≠0) (pl:Nat) (zJV:Int) (zJW zJX:List (List V)) (zJY zJZ:Int) (nl:Nat) (zJ1:List (List V)) (zJ0 at_:Int) (F:List V),nl≤64→xI zb yb zc ya za L (fun p1 p71l zJV zJW zJX zJY zJZ zJ9 zJ1 zJ0 zJ4 zJ2 zJ3 b71=>xZ zb yb zc ya za L p1 p71l zJV zJW zJX zJY zJZ zJ9 zJ1 zJ0 zJ4 zJ2 zJ3 b71 k) L (a:Int) pl (nl:Int) ((0:Nat):Int) zJV zJW zJX zJY zJZ nl zJ1 zJ0 (zj .u8 j) at_ e F=k zfs 0 e:=by
  intro e he pl zJV zJW zJX zJY zJZ nl zJ1 zJ0 at_ F hn
  obtain ⟨b',q⟩:=zzA (β:=β) (a:Int) pl zJV zJW zJX zJY zJZ nl zJ1 zJ0 hL20 hn (zj .u8 j) at_ he (fun p1 p71l zJV zJW zJX zJY zJZ zJ9 zJ1 zJ0 zJ4 zJ2 zJ3 b71=>xZ zb yb zc ya za L p1 p71l zJV zJW zJX zJY zJZ zJ9 zJ1 zJ0 zJ4 zJ2 zJ3 b71 k) L 0 F (by omega) (by omega)
  exact q.trans (zCH _ _ _ _ _ _ _ _ _ _ _ _ he _ k)
 have t2:∀ {e:Int} (he:e≠0) (zJV:Int) (zJW zJX:List (List V)) (zJY zJZ:Int) (R zJ1:List (List V)) (zJ0 at_:Int),R.length≤64→xU zb yb zc ya za L (a:Int) zJV zJW zJX zJY zJZ R zJ1 zJ0 (zj .u8 j) at_ e k=k zfs 0 e:=by
  intro e he zJV zJW zJX zJY zJZ R zJ1 zJ0 at_ hR
  unfold xU zdy
  rw [zx2 L _ he,zi]
  exact t4 he _ _ _ _ _ _ _ _ _ _ _ hR
 have t0:∀ {e:Int} (he:e≠0) (zJV:Int) (zJW zJX:List (List V)) (zJY zJZ:Int) (R:List (List V)) (zJ0 at_:Int),R.length≤64→zaG zb yb zc ya za L (a:Int) zJV zJW zJX zJY zJZ R [] zJ0 (zj .u8 j) at_ e k=k zfs 0 e:=by
  intro e he zJV zJW zJX zJY zJZ R zJ0 at_ hR
  unfold zaG zdU
  rw [zBA L _ he]
  obtain ⟨l,hl⟩:∃ l,L=l+1:=⟨L - 1,by omega⟩
  have q:zX zb yb zc ya za L (fun p1 zJV zJW zJX zJY zJZ zKf zJ1 zJ0 zJ4 zJ2 zJ3=>xU zb yb zc ya za L p1 zJV zJW zJX zJY zJZ zKf zJ1 zJ0 zJ4 zJ2 zJ3 k) L (a:Int) 0 zJV zJW zJX zJY zJZ R [] zJ0 (zj .u8 j) at_ e=xU zb yb zc ya za L (a:Int) zJV zJW zJX zJY zJZ R [] zJ0 (zj .u8 j) at_ e k:=by
   generalize hg:L=L'
   rw [hl] at hg
   subst hg
   rw [zX,zvO (hf:=.inr he)]
  exact q.trans (t2 he zJV zJW zJX zJY zJZ R [] zJ0 at_ hR)
 obtain ⟨l,hl⟩:∃ l,L=l+1:=⟨L - 1,by omega⟩
 have tI:∀ {e:Int} (he:e≠0) (v at_:Int),y8 zb yb zc ya za L (fun p1 zJV zJW zJX zJY zJZ zKf zJ1 zJ0 zJ4 zJ2 zJ3=>zaG zb yb zc ya za L p1 zJV zJW zJX zJY zJZ zKf zJ1 zJ0 zJ4 zJ2 zJ3 k) L (a:Int) 0 0 [] [] 0 v [] [] 0 (zj .u8 j) at_ e=k zfs 0 e:=by
  intro e he v at_
  refine Eq.trans ?_ (t0 he 0 [] [] 0 v [] 0 at_ (by decide))
  generalize hg:L=L'
  rw [hl] at hg
  subst hg
  rw [y8,zyY (hf:=.inr he)]
 unfold xE ziq zk1
 rw [xL (by omega),zbL,xL (by omega),zBq hL20 hb hj ha]
 unfold gTx
 cases e1:gN j 4 a with
 | error e =>
  have he:=zm2 e1
  rw [z4,zBA L _ he]
  exact tI he _ _
 | ok p =>
  obtain ⟨ver,a1⟩:=p
  have h1:=zlx e1
  rw [z0,zIL hL20 hb hj h1]
  cases e2:zbY j 64 a1 with
  | error e =>
   have he:=zf4 e2
   rw [z4]
   simp only [e2]
   exact tI he _ _
  | ok p =>
   obtain ⟨n,a2⟩:=p
   obtain ⟨h2,hn⟩:=zch e2
   rw [z0]
   simp only [e2]
   rcases zFI (a:Int) 0 [] [] 0 (ver:Int) [] 0 hL20 hb hj (fun p1 zJV zJW zJX zJY zJZ zKf zJ1 zJ0 zJ4 zJ2 zJ3=>zaG zb yb zc ya za L p1 zJV zJW zJX zJY zJZ zKf zJ1 zJ0 zJ4 zJ2 zJ3 k) L n a2 [] (by simpa using hn) (by omega) h2 with ⟨xs,a3,q1,q2⟩ | ⟨e,R,at_,q1,q2,q3,q4⟩
   ·rw [List.nil_append] at q2
    obtain ⟨h3,hx1,hx2,hx3⟩:=zvK n a2 h2 q1
    refine Eq.trans q2 ?_
    simp only [q1]
    unfold zaG zdU
    rw [zIL hL20 hb hj h3]
    cases e4:zbY j 64 a3 with
    | error e =>
     have he:=zf4 e4
     rw [z4]
     have q:zX zb yb zc ya za L (fun p1 zJV zJW zJX zJY zJZ zKf zJ1 zJ0 zJ4 zJ2 zJ3=>xU zb yb zc ya za L p1 zJV zJW zJX zJY zJZ zKf zJ1 zJ0 zJ4 zJ2 zJ3 k) L (a:Int) 0 0 [] [] 0 (ver:Int) (xs.map zaA) [] 0 (zj .u8 j) 0 e=xU zb yb zc ya za L (a:Int) 0 [] [] 0 (ver:Int) (xs.map zaA) [] 0 (zj .u8 j) 0 e k:=by
      generalize hg:L=L'
      rw [hl] at hg
      subst hg
      rw [zX,zvO (hf:=.inr he)]
     exact q.trans (t2 he _ _ _ _ _ _ _ _ _ (by rw [List.length_map]; omega))
    | ok p =>
     obtain ⟨m,a4⟩:=p
     obtain ⟨h4,hm⟩:=zch e4
     rw [z0]
     simp only []
     rcases zFr (a:Int) 0 [] [] 0 (ver:Int) (xs.map zaA) 0 hL20 hb hj (fun p1 zJV zJW zJX zJY zJZ zKf zJ1 zJ0 zJ4 zJ2 zJ3=>xU zb yb zc ya za L p1 zJV zJW zJX zJY zJZ zKf zJ1 zJ0 zJ4 zJ2 zJ3 k) L m a4 [] (by simpa using hm) (by omega) h4 with ⟨os,a5,r1,r2⟩ | ⟨e,O,at_,r1,r2,r3⟩
     ·rw [List.nil_append] at r2
      have h5:=zw3 m a4 h4 r1
      refine Eq.trans r2 ?_
      simp only [r1]
      unfold xU zdy
      rw [zBq hL20 hb hj h5]
      cases e6:gN j 4 a5 with
      | error e =>
       have he:=zm2 e6
       rw [z4,zi]
       exact t4 he _ _ _ _ _ _ _ _ _ _ _ (by rw [List.length_map]; omega)
      | ok p =>
       obtain ⟨lk,a6⟩:=p
       have h6:=zlx e6
       rw [z0,zi,zoZ]
       simp only []
       rcases zGk (β:=β) (a:Int) (xs.map zaA).length 0 [] [] 0 (ver:Int) (xs.map zaA).length (os.map zcg) (lk:Int) hL hb hj (by rw [List.length_map]; omega) (fun p1 p71l zJV zJW zJX zJY zJZ zJ9 zJ1 zJ0 zJ4 zJ2 zJ3 b71=>xZ zb yb zc ya za L p1 p71l zJV zJW zJX zJY zJZ zJ9 zJ1 zJ0 zJ4 zJ2 zJ3 b71 k) L a6 xs [] (by simpa using hx2) hx3 (by simp) (by omega) h6 with ⟨ys,a7,s1,s2⟩ | ⟨e,at_,b',s1,s2,s3⟩
       ·obtain ⟨h7,hy1,hy2⟩:=zxh xs a6 h6 hx2 s1
        refine Eq.trans s2 ?_
        simp only [s1]
        rw [List.nil_append,zHR _ _ _ _ _ _ _ _ _ _ (by omega) (by omega) _ ys os (by rw [List.length_map,hy1]) hy2]
        by_cases hh:a7 - a > 20000
        ·rw [if_pos hh,if_pos hh]; rfl
        ·rw [if_neg hh,if_neg hh]; rfl
       ·refine Eq.trans s3 ?_
        simp only [s1]
        exact zCH _ _ _ _ _ _ _ _ _ _ _ _ s2 _ k
     ·refine Eq.trans r3 ?_
      simp only [r1]
      exact t2 r2 _ _ _ _ _ _ _ _ _ (by rw [List.length_map]; omega)
   ·refine Eq.trans q4 ?_
    simp only [q1]
    exact t0 q2 _ _ _ _ _ _ _ _ (by omega)
end
end
section
set_option linter.unusedVariables false
set_option linter.unusedSimpArgs false
set_option linter.unusedSectionVars false
set_option maxRecDepth 100000
variable {β:Type}
theorem zGc {L:Nat} (hL:1000≤L) (j:List Int) (p1:Int) (hp:p1 < 0∨p1 > (j.length:Int)) (k:List V→Int→Int→Option β):yS β L (zj .u8 j) p1 k=k zfs 0 5:=by
 have hL20:20≤L:=by omega
 have t4:∀ {e:Int} (he:e≠0) (pl:Nat) (zJV:Int) (zJW zJX:List (List V)) (zJY zJZ:Int) (nl:Nat) (zJ1:List (List V)) (zJ0 at_:Int) (F:List V),nl≤64→yI yc xe xb xa ye L (fun p1 p71l zJV zJW zJX zJY zJZ zJ9 zJ1 zJ0 zJ4 zJ2 zJ3 b71=>zV yc xe xb xa ye L p1 p71l zJV zJW zJX zJY zJZ zJ9 zJ1 zJ0 zJ4 zJ2 zJ3 b71 k) L p1 pl (nl:Int) ((0:Nat):Int) zJV zJW zJX zJY zJZ nl zJ1 zJ0 (zj .u8 j) at_ e F=k zfs 0 e:=by
  intro e he pl zJV zJW zJX zJY zJZ nl zJ1 zJ0 at_ F hn
  obtain ⟨b',q⟩:=zyE (β:=β) p1 pl zJV zJW zJX zJY zJZ nl zJ1 zJ0 hL20 hn (zj .u8 j) at_ he (fun p1 p71l zJV zJW zJX zJY zJZ zJ9 zJ1 zJ0 zJ4 zJ2 zJ3 b71=>zV yc xe xb xa ye L p1 p71l zJV zJW zJX zJY zJZ zJ9 zJ1 zJ0 zJ4 zJ2 zJ3 b71 k) L 0 F (by omega) (by omega)
  exact q.trans (zxk _ _ _ _ _ _ _ _ _ _ _ _ he _ k)
 have t2:∀ {e:Int} (he:e≠0) (zJV:Int) (zJW zJX:List (List V)) (zJY zJZ:Int) (R zJ1:List (List V)) (zJ0 at_:Int),R.length≤64→xS yc xe xb xa ye L p1 zJV zJW zJX zJY zJZ R zJ1 zJ0 (zj .u8 j) at_ e k=k zfs 0 e:=by
  intro e he zJV zJW zJX zJY zJZ R zJ1 zJ0 at_ hR
  unfold xS zcz
  rw [zpn L _ he,zi]
  exact t4 he _ _ _ _ _ _ _ _ _ _ _ hR
 have t0:∀ {e:Int} (he:e≠0) (zJV:Int) (zJW zJX:List (List V)) (zJY zJZ:Int) (R:List (List V)) (zJ0 at_:Int),R.length≤64→zR yc xe xb xa ye L p1 zJV zJW zJX zJY zJZ R [] zJ0 (zj .u8 j) at_ e k=k zfs 0 e:=by
  intro e he zJV zJW zJX zJY zJZ R zJ0 at_ hR
  unfold zR zcR
  rw [zuN L _ he]
  obtain ⟨O',q⟩:=zpW (β:=β) (L:=L) p1 zJV zJW zJX zJY zJZ R zJ0 (n:=0) (by decide) (zj .u8 j) at_ he (fun p1 zJV zJW zJX zJY zJZ zKf zJ1 zJ0 zJ4 zJ2 zJ3=>xS yc xe xb xa ye L p1 zJV zJW zJX zJY zJZ zKf zJ1 zJ0 zJ4 zJ2 zJ3 k) L 0 [] rfl (by omega) (by omega)
  exact q.trans (t2 he _ _ _ _ _ _ _ _ _ hR)
 have tI:∀ {e:Int} (he:e≠0) (v at_:Int),xY yc xe xb xa ye L (fun p1 zJV zJW zJX zJY zJZ zKf zJ1 zJ0 zJ4 zJ2 zJ3=>zR yc xe xb xa ye L p1 zJV zJW zJX zJY zJZ zKf zJ1 zJ0 zJ4 zJ2 zJ3 k) L p1 0 0 0 [] [] 0 v [] [] 0 (zj .u8 j) at_ e=k zfs 0 e:=by
  intro e he v at_
  obtain ⟨R',q0,q⟩:=zvM (β:=β) (L:=L) p1 0 [] [] 0 v [] 0 (n:=0) (by decide) (zj .u8 j) at_ he (fun p1 zJV zJW zJX zJY zJZ zKf zJ1 zJ0 zJ4 zJ2 zJ3=>zR yc xe xb xa ye L p1 zJV zJW zJX zJY zJZ zKf zJ1 zJ0 zJ4 zJ2 zJ3 k) L 0 [] rfl (by omega) (by omega)
  exact q.trans (t0 he _ _ _ _ _ _ _ _ (by omega))
 unfold yS znu zqD
 have h5:(5:Int)≠0:=by decide
 have hw:∀ k:Int→List (List V)→Int→Int→Option β,yc β L (zj .u8 j) p1 0 k=k 0 (zj .u8 j) p1 5:=by
  intro k
  unfold yc zeJ
  rw [zu,if_pos rfl,zH5 L j hp,zu,if_neg h5]
 rw [hw,zuN L _ h5]
 exact tI h5 _ _
theorem zFL {L:Nat} (j:List Int) (p1:Int) (hp:p1 < 0∨p1 > (j.length:Int)) (k:List V→Int→Int→Option β):xE β L (zj .u8 j) p1 k=k zfs 0 5:=by
 unfold xE ziq zk1
 by_cases h:p1 < 0
 ·rw [yX h,zi]; exact zfV _
 ·rw [xL h,zbL,yX (by omega),zi]; exact zfV _
structure SmallT (t:TxT):Prop where
 i:t.ins.length≤64
 o:t.outs.length≤64
 w:∀ x ∈ t.ins,x.wit.length≤32
def zT:TxT:=⟨0,[],[],0⟩
theorem zts:SmallT zT:=⟨by decide,by decide,fun x hx=>by cases hx⟩
theorem zBS {j:List Int}:∀ (n a:Nat) {a':Nat} {ys:List (List Int)},zhF j n a=.ok (ys,a')→ys.length=n
 | 0,a,a',ys,h=>by simp only [zhF] at h; cases h; rfl
 | n+1,a,a',ys,h=>by
  rw [zhF] at h
  split at h
  ·cases h
  ·split at h
   ·cases h
   ·rename_i hz2; cases h; simp [zBS n _ hz2]
theorem zAa {j:List Int}:∀ (n a:Nat) {a':Nat} {ys:List Outp},zdP j n a=.ok (ys,a')→ys.length=n
 | 0,a,a',ys,h=>by simp only [zdP] at h; cases h; rfl
 | n+1,a,a',ys,h=>by
  rw [zdP] at h
  split at h
  ·cases h
  ·split at h
   ·cases h
   ·rename_i hz2; cases h; simp [zAa n _ hz2]
theorem zwz {j:List Int}:∀ (xs:List Inp) (a:Nat) {a':Nat} {ys:List Inp},zdM j xs a=.ok (ys,a')→ys.length=xs.length∧∀ y ∈ ys,y.wit.length≤32
 | [],a,a',ys,h=>by simp only [zdM] at h; cases h; exact ⟨rfl,by simp⟩
 | x::xs,a,a',ys,h=>by
  rw [zdM] at h
  split at h
  ·cases h
  ·rename_i n a1 hz
   split at h
   ·cases h
   ·rename_i w a2 hz2
    split at h
    ·cases h
    ·rename_i zs a3 hz3
     cases h
     obtain ⟨r2,r3⟩:=zwz xs a2 hz3
     refine ⟨by simp [r2],?_⟩
     intro y hy
     rcases List.mem_cons.1 hy with rfl | hy
     ·have:=(zch hz).2
      have:=zBS _ _ hz2
      simp only; omega
     ·exact r3 y hy
theorem zFD {j:List Int} {a a':Nat} (ha:a≤j.length) {t:TxT} (h:gTx j a=.ok (t,a')):SmallT t:=by
 unfold gTx at h
 split at h
 ·cases h
 ·rename_i ver a1 e1
  split at h
  ·cases h
  ·rename_i n a2 e2
   split at h
   ·cases h
   ·rename_i xs a3 e3
    split at h
    ·cases h
    ·rename_i m a4 e4
     split at h
     ·cases h
     ·rename_i os a5 e5
      split at h
      ·cases h
      ·rename_i lk a6 e6
       split at h
       ·cases h
       ·rename_i ys a7 e7
        split at h
        ·cases h
        ·cases h
         obtain ⟨w1,w2⟩:=zwz _ _ e7
         have hx:=(zvK n a2 (zch e2).1 e3).2.1
         have:=(zch e2).2
         have:=(zch e4).2
         have ho:=zAa m a4 e5
         exact ⟨by simp only; omega,by simp only; omega,w2⟩
section
variable {L:Nat} (hL:1000≤L) {j:List Int} (hb:Byt j) (hj:j.length≤100000000)
include hL hb hj
theorem zAh (p1:Int):∃ t q e,SmallT t∧(∀ k:List V→Int→Int→Option β,yS β L (zj .u8 j) p1 k=k (zcJ t) q e)∧(∀ k:List V→Int→Int→Option β,xE β L (zj .u8 j) p1 k=k (zcJ t) q e):=by
 by_cases hp:p1 < 0∨p1 > (j.length:Int)
 ·exact ⟨zT,0,5,zts,fun k=>zGc hL j p1 hp k,fun k=>zFL j p1 hp k⟩
 ·obtain ⟨a,rfl⟩:∃ a:Nat,p1=(a:Int):=⟨p1.toNat,by omega⟩
  have ha:a≤j.length:=by omega
  cases e1:gTx j a with
  | error e =>
   refine ⟨zT,0,e,zts,fun k=>?_,fun k=>?_⟩
   ·rw [zCl hL hb hj ha,e1]; rfl
   ·rw [zBT hL hb hj ha,e1]; rfl
  | ok p =>
   obtain ⟨t,a'⟩:=p
   refine ⟨t,a',0,zFD ha e1,fun k=>?_,fun k=>?_⟩
   ·rw [zCl hL hb hj ha,e1]; rfl
   ·rw [zBT hL hb hj ha,e1]; rfl
omit hL hb hj in
theorem zG9 (J:List (List V)) (q:Int):∃ v:Int,(∀ k:Int→Option β,zaC β L J q k=k v)∧(∀ k:Int→Option β,zaD β L J q k=k v):=by
 unfold zaC zrD zaD zrI
 by_cases h1:q < 0
 ·exact ⟨5,fun k=>yX h1 _ _,fun k=>yX h1 _ _⟩
 ·by_cases h2:q > ((List.length J:Nat):Int)
  ·exact ⟨5,fun k=>by rw [xL h1,yX h2],fun k=>by rw [xL h1,yX h2]⟩
  ·by_cases h3:q < ((List.length J:Nat):Int)
   ·exact ⟨2,fun k=>by rw [xL h1,xL h2,yX h3],fun k=>by rw [xL h1,xL h2,yX h3]⟩
   ·exact ⟨0,fun k=>by rw [xL h1,xL h2,xL h3],fun k=>by rw [xL h1,xL h2,xL h3]⟩
omit hL hb hj in
theorem zd4 (t:TxT):yl [(V.sc (.int .u32 (0:Int))),(V.gs 35 ([]:List (List V))),(V.gs 2 ([]:List (List V))),(V.sc (.int .u32 (0:Int)))] 0 (zcJ t)=zcJ t:=zgE (by rw [zpR]; rfl)
omit hL hb hj in
theorem zDH (t:TxT):List.take 4 (zcJ t)=zcJ t:=List.take_of_length_le (by rw [zpR]; exact Nat.le_refl _)
theorem zDa:∃ t e,SmallT t∧(∀ k:List V→Int→Option β,yV β L (zj .u8 j) k=k (zcJ t) e)∧(∀ k:List V→Int→Option β,yY β L (zj .u8 j) k=k (zcJ t) e):=by
 obtain ⟨t,q,e,ht,r1,r2⟩:=zAh (β:=β) hL hb hj 0
 obtain ⟨v,v1,v2⟩:=zG9 (β:=β) (L:=L) (zj .u8 j) q
 have l4:=zpR t
 unfold yV zrs yY zmz
 by_cases he:e=0
 ·subst he
  by_cases hv:v=0
  ·subst hv
   refine ⟨t,0,ht,fun k=>?_,fun k=>?_⟩
   ·rw [r1,zh (by omega),zd4,zi,y7 rfl,v1,zu,if_pos rfl,zh (by omega),zDH,zh (by omega),zd4,zi,zh (by omega)]
   ·rw [r2,zh (by omega),zd4,zi,y7 rfl,v2,zu,if_pos rfl,zh (by omega),zDH,zh (by omega),zd4,zi,zh (by omega)]
  ·refine ⟨zT,v,zts,fun k=>?_,fun k=>?_⟩
   ·rw [r1,zh (by omega),zd4,zi,y7 rfl,v1,zu,if_neg hv,zi]; exact zfV _
   ·rw [r2,zh (by omega),zd4,zi,y7 rfl,v2,zu,if_neg hv,zi]; exact zfV _
 ·refine ⟨zT,e,zts,fun k=>?_,fun k=>?_⟩
  ·rw [r1,zh (by omega),zd4,zi,z7 he,zu,if_neg he,zi]; exact zfV _
  ·rw [r2,zh (by omega),zd4,zi,z7 he,zu,if_neg he,zi]; exact zfV _
end
theorem zCX:∀ (l:List Int),zeB (zj .u8 l)=some (l.map fun n=>UInt8.ofNat n.toNat)
 | []=>rfl
 | n::l=>by
  have:=zCX l
  simp only [zj] at this
  simp [zj,zeB,this]
theorem zz1 {L:Nat} (l:List Int) (k:Bool→Option β):yf β L (zj .u8 l) (zj .u8 l) k=k true:=by
 simp only [yf,zps,zzL,zCX,BEq.rfl]
theorem zsk (x:TxT) (k:List (List V)→Option β):cLd 35 (zcJ x) 1 k=k (x.ins.map zdn):=ztr rfl k
theorem zsG (x:TxT) (k:List (List V)→Option β):cLd 2 (zcJ x) 2 k=k (x.outs.map zcg):=ztr rfl k
theorem zp4 (x:Inp) (k:List (List V)→Option β):cLd 1 (zdn x) 34 k=k (zbj x.wit):=ztr rfl k
theorem zDz (x:Outp) (k:List (List V)→Option β):cLd 1 (zcg x) 1 k=k (zj .u8 x.scr):=ztr rfl k
theorem zAd (x:TxT):List.map V.dem (List.take 4 (zcJ x))=zcJ x:=Eq.trans rfl rfl
theorem zGa (x:Outp):List.map V.dem (List.take 2 (zcg x))=zcg x:=Eq.trans rfl rfl
theorem zE1 (x:Inp):yl (List.replicate 32 (V.sc (.int .u8 (0:Int)))++[(V.sc (.int .u32 (0:Int))),(V.sc (.int .u32 (0:Int))),(V.gs 1 ([]:List (List V)))]) 0 (zdn x)=zdn x:=zgE (by rw [ztT]; rfl)
theorem zD1 {l:List Inp} {i:Nat} (h:i < l.length):(l.map zdn)[i]?=some (zdn l[i]):=by simp [h]
theorem zCR {l:List Outp} {i:Nat} (h:i < l.length):(l.map zcg)[i]?=some (zcg l[i]):=by simp [h]
theorem zDt {w:List (List Int)} {i:Nat} (h:i < w.length):(zbj w)[i]?=some [V.sl 1 (zj .u8 w[i])]:=by simp [zbj,h]
theorem zxt:∀ (l:List V),(∀ c ∈ l,∃ k n,c=V.sc (.int k n))→zfw l l=some true
 | [],_=>rfl
 | c::l,h=>by
  obtain ⟨k,n,rfl⟩:=h c (by simp)
  have:=zxt l (fun c hc=>h c (by simp [hc]))
  simp only [zfw,if_true,this,Option.map_some,BEq.rfl,Bool.and_true]
theorem zGK (x:Inp) (k:Bool→Option β):eqC 33 (List.take 33 (zdn x)) (List.take 33 (zdn x)) k=k true:=by
 have h:zfw (List.take 33 (zdn x)) (List.take 33 (zdn x))=some true:=by
  apply zxt
  intro c hc
  simp only [zdn,List.take_succ_cons,List.take_zero,List.mem_cons,List.not_mem_nil,or_false] at hc
  rcases hc with rfl | rfl | rfl | rfl | rfl | rfl | rfl | rfl | rfl | rfl | rfl | rfl | rfl | rfl | rfl | rfl | rfl | rfl | rfl | rfl | rfl | rfl | rfl | rfl | rfl | rfl | rfl | rfl | rfl | rfl | rfl | rfl | rfl <;> exact ⟨_,_,rfl⟩
 have hl:(List.take 33 (zdn x)).length=33:=by rw [List.length_take,ztT]; rfl
 unfold eqC
 rw [zh ⟨hl,hl⟩,h]
theorem zHP {L:Nat} (o:Outp) (k:Bool→Option β):zf β L (zcg o) (zcg o) k=k true:=by
 unfold zf zlc
 rw [zDv,zDv,y7 rfl,zDz,zDz,zz1]
theorem zz3 {L:Nat} (x:Inp) (hw:x.wit.length≤64) (b2 b3:List V) (p42 p43:Int) (kr:Bool→Option β) (kx:Int→Int→List V→List V→Option β):∀ (m i:Nat),i≤x.wit.length→x.wit.length - i < m →
  za2 yf zf L kr kx m p42 p43 (x.wit.length:Int) (i:Int) b2 b3 (zdn x) (zdn x)=kx p42 p43 b2 b3
 | 0,i,h1,h2=>by omega
 | m+1,i,h1,h2=>by
  rw [za2]
  unfold zdb
  by_cases hi:i < x.wit.length
  ·rw [yX (by omega),zp4,zgn (zDt hi),zDZ rfl,zp4,zgn (zDt hi),zDZ rfl,zz1]
   simp only [Bool.not_true,zqS]
   rw [zax (by omega),zi]
   exact zz3 x hw b2 b3 p42 p43 kr kx m (i+1) (by omega) (by omega)
  ·rw [xL (by omega)]
theorem zAD {L:Nat} (hL:1000≤L) {t:TxT} (ht:SmallT t) (kr:Bool→Option β) (kx:List V→List V→Option β):∀ (m i:Nat),i≤t.ins.length→t.ins.length - i < m →
  zdh yf zf L kr kx m (t.ins.length:Int) (i:Int) (zcJ t) (zcJ t)=kx (zcJ t) (zcJ t)
 | 0,i,h1,h2=>by omega
 | m+1,i,h1,h2=>by
  have hti:=ht.i
  rw [zdh]
  unfold zel zhG
  by_cases hi:i < t.ins.length
  ·have hw:=ht.w t.ins[i] (List.getElem_mem hi)
   have l35:=ztT t.ins[i]
   rw [yX (by omega),zsk,zgn (zD1 hi),zsk,zgn (zD1 hi),zFq,zh (by omega),zE1,zi,zh (by omega),zi,zh (by omega),zh (by omega),zGK]
   simp only [Bool.not_true,zqS]
   rw [zCq,zCq,zu,if_pos rfl,zp4,zp4,zu,if_pos rfl,zp4,show (zbj t.ins[i].wit).length=t.ins[i].wit.length by simp [zbj]]
   refine (zz3 t.ins[i] (by omega) _ _ _ _ _ _ L 0 (by omega) (by omega)).trans ?_
   unfold zcK
   rw [zax (by omega),zi]
   exact zAD hL ht kr kx m (i+1) (by omega) (by omega)
  ·rw [xL (by omega)]
theorem zyh {L:Nat} {t:TxT} (ht:SmallT t) (kr:Bool→Option β) (kx:Option β):∀ (m i:Nat),i≤t.outs.length→t.outs.length - i < m →
  zcL yf zf L kr kx m (t.outs.length:Int) (i:Int) (zcJ t) (zcJ t)=kx
 | 0,i,h1,h2=>by omega
 | m+1,i,h1,h2=>by
  have hto:=ht.o
  rw [zcL]
  unfold zgI
  by_cases hi:i < t.outs.length
  ·rw [yX (by omega),zsG,zgn (zCR hi),zsG,zgn (zCR hi),zGa,zHP]
   simp only [Bool.not_true,zqS]
   rw [zax (by omega),zi]
   exact zyh ht kr kx m (i+1) (by omega) (by omega)
  ·rw [xL (by omega)]
theorem zFM {L:Nat} (hL:1000≤L) {t:TxT} (ht:SmallT t) (k:Bool→Option β):yM β L (zcJ t) (zcJ t) k=k true:=by
 have h1:=ht.i
 have h2:=ht.o
 unfold yM zi1 zmE
 rw [zDG,zDG,zu,if_pos rfl,zDS,zDS,zu,if_pos rfl,zsk,zsk,zu,if_pos rfl,zsG,zsG,zu,if_pos rfl,zsk,List.length_map]
 refine (zAD hL ht _ _ L 0 (by omega) (by omega)).trans ?_
 unfold zdx zgo
 rw [zsG,List.length_map]
 refine (zyh ht _ _ L 0 (by omega) (by omega)).trans ?_
 rfl
theorem zD8 (L:Nat) (k:Bool→Option β):yL β (L+200) k=k true:=by kernel_rfl
theorem zH1 {L:Nat} (h:200≤L) (k:Bool→Option β):yL β L k=k true:=by
 obtain ⟨m,rfl⟩:∃ m,L=m+200:=⟨L - 200,by omega⟩
 exact zD8 m k
theorem zBe (a0:List (List V)) (a1:Int) (hl0:a0.length≤maxLen) (wf0:∀ e ∈ a0,HasRow [.int .u8] e) (wf1:(Lit.int .i64 a1).wf=true):∃ L,∀ k:Bool→Option Bool,zcl Bool L a0 a1 k=k true:=by
 obtain ⟨j,rfl,hw⟩:=zDO wf0
 obtain ⟨L,hL⟩:∃ L:Nat,1000≤L:=⟨1000,Nat.le_refl _⟩
 refine ⟨L,fun k=>?_⟩
 unfold zcl zkP
 rw [zH1 (by omega)]
 simp only [Bool.not_true,zqS]
 rw [zbL,zaZ]
 by_cases h:(j.length:Int) > 3000
 ·rw [if_pos h]
 ·rw [if_neg h]
  have hb:=zIU hw
  have hj:j.length≤100000000:=by omega
  obtain ⟨t,q,e,ht,r1,r2⟩:=zAh (β:=Bool) hL hb hj a1
  obtain ⟨t',e',ht',d1,d2⟩:=zDa (β:=Bool) hL hb hj
  have l4:=zpR t
  have l4':=zpR t'
  rw [r1,zh (by omega),zd4,zi,r2,zh (by omega),zd4,zi,d1,zh (by omega),zd4,zi,d2,zh (by omega),zd4,zi,y7 rfl,y7 rfl,zh (by omega),zh (by omega),zAd,zFM hL ht,zGU,y7 rfl,zh (by omega),zh (by omega),zAd,zFM hL ht']
end
section
namespace txReadsL
open Go.ChangeShapes Go.WideShapes Go.ChangeAt Go.RowKit
set_option linter.unusedVariables false
theorem own:ownKnob Try.prog.godebug=none:=by kernel_rfl
theorem zDJ:laidOutB Try.prog=true:=by kernel_rfl
set_option maxRecDepth 100000 in
theorem zI2 (os:Os) (started:os.Started) (H:Type) (enc:TypeId × Value→H) :
  ReturnsInHanded {} Try.checked os 7 .any (Rows.txReadsSpec.pre6 enc Try.prog Try.f7 Rows.txReadsRow.domain false) (Rows.txReadsSpec.post enc Try.prog Try.f7 false true false false):=by
 refine returnsInHanded_of_change (C:=Try.checked) own started (by kernel_rfl) Try.func7
  (ChangeSpec.witness6 (enc:=enc) (C:=Try.checked) false ⟨#[],#[.slice none 0 0,.int .i64 0],[]⟩ 8 (by kernel_rfl) (by kernel_rfl) (by kernel_rfl) (by kernel_rfl)) ?_
 intro W base args ds gs before hval0 hW hcnd _
 have hval:∀ (j:Nat) t v,Try.f7.params[j]?=some t→args[j]?=some v→Value.okWide Try.prog W .any base t v:=hval0
 have hW':=hW
 obtain ⟨p,q,hA0,hV,rfl,hfz,hnd⟩:=hW
 have hA:DataW.TrodAll enc Try.prog W 0 (fun _=>true) true Try.f7.params.toList args.toList ds p:=hA0
 rw [Try.params7] at hA hval
 obtain ⟨v0,vs0,d0,ds0,p0,q0,hargs,rfl,rfl,h0,r0⟩:=trodAll_cons hA
 obtain ⟨v1,vs1,d1,ds1,p1,q1,rfl,rfl,rfl,h1,r1⟩:=trodAll_cons r0
 obtain ⟨rfl,rfl,rfl⟩:=trodAll_nil r1
 obtain rfl:args=#[v0,v1]:=by cases args; simp_all
 obtain ⟨rfl,rfl⟩:=trodVars_none hV
 have k0:=h0
 have lt0:∀ x ∈ p0,x.block < W.heap.size:=by obtain ⟨m,hm⟩:=k0; exact DataW.trod_lt m _ _ _ hm
 have k1:=h1
 have lt1:∀ x ∈ p1,x.block < W.heap.size:=by obtain ⟨m,hm⟩:=k1; exact DataW.trod_lt m _ _ _ hm
 obtain ⟨A0,len0,cap0,rfl⟩:=okWide_slice Try.underlying30 (hval 0 30 v0 rfl rfl)
 obtain ⟨x0,hx0,rp0⟩:=zIq (r:=.any) (b0:=base) (ren:=xH fg gls) (d:=20) (ct:=.sl ([.int .u8])) rfl h0 (by kernel_rfl)
 obtain ⟨a0,rfl,hl0,wf0⟩:=hx0.sl_inv
 obtain ⟨a1,rfl,rfl,rfl,wf1⟩:=open_int Try.underlying3 (hval 1 3 v1 rfl rfl) h1
 clear hA0 hval0
 obtain ⟨L,hL⟩:=zBe a0 a1 hl0 wf0 wf1
 have hd:zh0 zcl L Bool [(V.sl 1 a0),(V.sc (.int .i64 a1))] [] zvP=some true:=by
  show (aL 1 (V.sl 1 a0) fun x0=>aI .i64 (V.sc (.int .i64 a1)) fun x1=>zcl Bool L x0 x1 (fun p=>zvP (V.sc (.bool p)) []))=some true
  rw [zI5,zJn]
  exact (hL (fun p=>zvP (V.sc (.bool p)) [])).trans rfl
 obtain ⟨v,b,hev,hk⟩:=zvZ L 100 (by decide) Bool [(V.sl 1 a0),(V.sc (.int .i64 a1))] [] zvP true hd
 have hv:=zE7 hk
 subst hv
 refine (zEv (us:=[.slice A0 len0 cap0,.int .i64 a1]) (w:=W) (fun _ _ h=>by cases h) (zI7 L 100) (f:=7) (by kernel_rfl) rfl (fun i x u hx hu=>?_) hev).mono fun e W' ⟨he,bel0⟩=>?_
 ·match i,hx,hu with
  | 0,hx,hu=>cases hx; cases hu; exact rp0
  | 1,hx,hu=>cases hx; cases hu; exact .sc _ rfl
  | n+2,hx,hu=>simp at hx
 ·have bel:=Kept.below bel0
  subst he
  exact ⟨_,rfl,_,_,_,[],_,[],hW',trodAll_mk1 (shut_bool Try.underlying4 _),(trodAll_cons_mk (Below.trod zDJ (by kernel_rfl) (of_decide_eq_true (by kernel_rfl)) k0 bel lt0) (trodAll_cons_mk (Below.trod zDJ (by kernel_rfl) (of_decide_eq_true (by kernel_rfl)) k1 bel lt1) trodAll_mk0)),rfl,bel.frame _,fun h=>by cases h⟩
theorem over:Rows.txReadsRow.holds Try.pinned (OpenSpec.ofChange Rows.txReadsSpec) :=
 OpenClaim.holds_of_wide 7 Try.f7 rfl rfl rfl rfl rfl rfl rfl ⟨rfl,rfl,rfl,rfl,rfl⟩ rfl rfl rfl rfl rfl (by kernel_rfl) Try.func7 (by kernel_rfl)
  (of_decide_eq_true (by kernel_rfl)) (by unfold Func.isWrapper; first | (rw [if_pos (by decide +kernel)]; kernel_rfl) | (rw [if_neg (by decide +kernel)]; exact ⟨rfl,rfl⟩))
  (fun os started H enc _=>zI2 os started H enc)
end txReadsL
theorem txReads_holds:Rows.TxReadsSaid:=txReadsL.over
end
end Go.Proofs.Ytoeobffjdbdpgaa
