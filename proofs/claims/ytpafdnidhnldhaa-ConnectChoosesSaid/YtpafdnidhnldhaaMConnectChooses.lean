/- ConnectChooses: for every input the call returns true, and each argument reads afterwards as it read before. No condition. -/
import Derived.Test.YtpafdnidhnldhaaMConnectChooses12
namespace Go.Proofs.Ytpafdnidhnldhaa
section
set_option linter.unusedVariables false
set_option linter.unusedSimpArgs false
set_option maxRecDepth 100000
variable {β:Type}
theorem zB5 {l:List Plc} {a:Adr} (h:zf7 (fun x=>zP x.a a) l 0 ≥ 0):∃ j:Nat,j < l.length∧zf7 (fun x=>zP x.a a) l 0=(j:Int):=by
 rcases zsB (fun x:Plc=>zP x.a a) l 0 with ⟨h1,h2⟩ | ⟨j,hj,h1,h2,h3⟩
 ·omega
 ·exact ⟨j,hj,by rw [h1,Nat.zero_add]⟩
theorem at3 (j:Nat):0+Int.toNat (j:Int) * 5+1+2=j * 5+3:=by rw [Int.toNat_natCast]; omega
theorem cT {l:List Plc} {j:Nat} (h:j < l.length) (k:Int→Option β):cI .u32 (zcu l) (j * 5+3) k=k l[j].a.t:=by
 refine xM ?_ k
 rw [zJb h (by omega)]; rfl
theorem zzy {l:List Plc} {j:Nat} (h:j < l.length):zzK l j=l[j].a.t:=by
 unfold zzK; rw [List.getElem?_eq_getElem h]
theorem zMW (v:Int) (a:Adr) (s:Int):yk [(V.sc (.int .i64 (0:Int))),(V.sc (.int .u32 (0:Int))),(V.sc (.int .u16 (0:Int))),(V.sc (.int .u32 (0:Int))),(V.sc (.int .u32 (0:Int)))] 0 (yk (yk [(V.sc (.int .i64 v)),(V.sc (.int .u32 (0:Int))),(V.sc (.int .u16 (0:Int))),(V.sc (.int .u32 (0:Int))),(V.sc (.int .u32 (0:Int)))] 1 a.v) 4 [(V.sc (.int .u32 s))])=(⟨v,a,s⟩:Plc).v:=rfl
theorem zxa (p:Plc):List.take 5 p.v=p.v:=rfl
theorem zIn (L:Nat) (b:Bk) (hH:b.H.length≤1000000) (z:Nat) (hz:z≤b.H.length) (b4 p:List V) (tl:Nat) (tf:List V) (kx:zo0 β):∀ (m i c:Nat),i≤z→z - i < m→c < b.H.length →
  zcL xj xl yd zh xg xh L kx m (z:Int) (c:Int) (i:Int) b4 0 0 0 0 0 0 0 0 0 0 0 0 0 0 0 0 0 0 0 0 0 0 0 0 0 0 0 0 0 0 0 0 [] [] (b.salt.getD 0 0) (b.salt.getD 1 0) (b.salt.getD 2 0) (b.salt.getD 3 0) (b.salt.getD 4 0) (b.salt.getD 5 0) (b.salt.getD 6 0) (b.salt.getD 7 0) (b.salt.getD 8 0) (b.salt.getD 9 0) (b.salt.getD 10 0) (b.salt.getD 11 0) (b.salt.getD 12 0) (b.salt.getD 13 0) (b.salt.getD 14 0) (b.salt.getD 15 0) (b.salt.getD 16 0) (b.salt.getD 17 0) (b.salt.getD 18 0) (b.salt.getD 19 0) (b.salt.getD 20 0) (b.salt.getD 21 0) (b.salt.getD 22 0) (b.salt.getD 23 0) (b.salt.getD 24 0) (b.salt.getD 25 0) (b.salt.getD 26 0) (b.salt.getD 27 0) (b.salt.getD 28 0) (b.salt.getD 29 0) (b.salt.getD 30 0) (b.salt.getD 31 0) b.H.length tl p (zcu b.H) tf
   = kx ((zow b.H (z - i) i c:Nat):Int) b4 0 0 0 0 0 0 0 0 0 0 0 0 0 0 0 0 0 0 0 0 0 0 0 0 0 0 0 0 0 0 0 0 [] [] (b.salt.getD 0 0) (b.salt.getD 1 0) (b.salt.getD 2 0) (b.salt.getD 3 0) (b.salt.getD 4 0) (b.salt.getD 5 0) (b.salt.getD 6 0) (b.salt.getD 7 0) (b.salt.getD 8 0) (b.salt.getD 9 0) (b.salt.getD 10 0) (b.salt.getD 11 0) (b.salt.getD 12 0) (b.salt.getD 13 0) (b.salt.getD 14 0) (b.salt.getD 15 0) (b.salt.getD 16 0) (b.salt.getD 17 0) (b.salt.getD 18 0) (b.salt.getD 19 0) (b.salt.getD 20 0) (b.salt.getD 21 0) (b.salt.getD 22 0) (b.salt.getD 23 0) (b.salt.getD 24 0) (b.salt.getD 25 0) (b.salt.getD 26 0) (b.salt.getD 27 0) (b.salt.getD 28 0) (b.salt.getD 29 0) (b.salt.getD 30 0) (b.salt.getD 31 0) b.H.length tl p (zcu b.H) tf:=by
 intro m
 induction m with
 | zero=>intro i c h1 h2 h3; omega
 | succ m IH =>
  intro i c h1 h2 h3
  unfold zcL zfW
  by_cases h:i < z
  ·have hi:i < b.H.length:=by omega
   rw [y6 (by omega),zf (by omega),at3,cT hi,zf (by omega),at3,cT h3,zap,show z - i=(z - (i+1))+1 by omega,zow,zzy hi,zzy h3]
   by_cases ht:b.H[i].a.t < b.H[c].a.t
   ·rw [if_pos ht,if_pos ht,yC,xQ (by omega)]
    exact IH (i+1) i (by omega) (by omega) hi
   ·rw [if_neg ht,if_neg ht,yC,xQ (by omega)]
    exact IH (i+1) c (by omega) (by omega) h3
  ·rw [zao (by omega),show z - i=0 by omega]; rfl
theorem Bk.v_mk (b:Bk) (H T:List Plc):row .u8 b.salt++[V.sl 5 (xT H),V.sl 5 (xT T)]=(⟨b.salt,H,T,b.hs⟩:Bk).v:=rfl
theorem zHE (L:Nat) (hL:200000 < L) (b:Bk) (hH:b.H.length≤100000) (hT:b.T.length≤100000) (a:Adr) (src:Int) (k:List V→Bool→Option β):zG β (L+100) b.v a.v src k=k (znk b a src).1.v (znk b a src).2:=by
 unfold zG zqM zum
 rw [zf (by rw [b.len]; omega),b.take,b.dem,zEY _ b (by omega) (by omega),zf (by show 0+3≤3; omega),zm7,zGg _ b.T (by omega) (by omega),zf rfl,zap]
 unfold znk
 by_cases h:zf7 (fun x=>zP x.a a) b.T 0 ≥ 0
 ·obtain ⟨j,hj,e⟩:=zB5 h
  rw [if_pos h,if_pos h,e,zf (by omega),at3,cT hj,xM (n:=a.t) rfl,yC,zf (by omega),zf ⟨rfl,by rw [zmB]; omega⟩,yC,zFb hj,zgg,zG4 (zGO _ _ _).symm,b.mk_v,b.v_mk,Int.toNat_natCast]
 ·rw [if_neg h,if_neg h,zf (by show 0+3≤3; omega),zGg _ b.H (by omega) (by omega),zf rfl,zap]
  by_cases h':zf7 (fun x=>zP x.a a) b.H 0 ≥ 0
  ·obtain ⟨j,hj,e⟩:=zB5 h'
   rw [if_pos h',if_pos h',e,zf (by omega),at3,cT hj,xM (n:=a.t) rfl,yC,zf (by omega),zf ⟨rfl,by rw [zmB]; omega⟩,yC,zFb hj,zgg,zG4 (zGO _ _ _).symm,b.mk_v,b.v_mk,Int.toNat_natCast]
  ·rw [if_neg h',if_neg h',zf (by rw [b.len]; omega),zf (by show 0+3≤3; omega),b.t32,zKP L b.salt b.hs]
   generalize hbk b.salt a src=v
   have hr:=zAI b.H v
   rw [zf (by show 0+3≤3; omega),zf ⟨rfl,by omega⟩,zf (by show 1=1∧4+1≤5; omega),zf ⟨rfl,by omega⟩,zMW,yC,xM (n:=v) rfl,zwB]
   cases he:b.H.isEmpty with
   | true =>
    have hn:b.H=[]:=by simpa using he
    have hlen:b.H.length=0:=by rw [hn]; rfl
    rw [zdp,zgg,zsv _ b.H (by omega) (by omega),yC,zZ (by omega) (by omega),zap,if_neg (by omega),if_neg (by omega),zf (by show 0+5≤5; omega),zdp,zxa,zpI _ b.H (by omega) (by omega),zgg,b.mk_v,b.v_mk]
   | false =>
    rw [zaK,zgg,zsv _ b.H (by omega) (by omega),yC,zZ (by omega) (by omega),zap]
    by_cases h8:toN b.H v - zaJ b.H v ≥ 8
    ·rw [if_pos (by omega),if_pos h8]
     refine (zIn (L+100) b (by omega) (toN b.H v) hr.2 a.v _ _ _ _ (L+100) (zaJ b.H v) (zaJ b.H v) hr.1 (by omega) (by omega)).trans ?_
     have hm:=zpV b.H (zaJ b.H v) (toN b.H v) (toN b.H v - zaJ b.H v) (zaJ b.H v) (zaJ b.H v) (Nat.le_refl _) (by omega) (Nat.le_refl _) (by omega)
     generalize zow b.H (toN b.H v - zaJ b.H v) (zaJ b.H v) (zaJ b.H v)=m at hm ⊢
     have hml:m < b.H.length:=by omega
     unfold zeP
     rw [zf (by omega),at3,cT hml,xM (n:=a.t) rfl,zap,zzy hml]
     by_cases ht:b.H[m].a.t ≥ a.t
     ·rw [if_pos ht,if_pos ht,zgg,zgg,b.mk_v,b.v_mk]
     ·have hlr:(zid b.H m).length≤b.H.length:=(zgF _ _).length_le
      rw [if_neg ht,if_neg ht,zgg,zz9 _ b.H (by omega) m hml,zf (by show 0+5≤5; omega),zxa,zpI _ (zid b.H m) (by omega) (by omega),zgg,b.mk_v,b.v_mk]
    ·rw [if_neg (by omega),if_neg h8,zf (by show 0+5≤5; omega),zxa,zpI _ b.H (by omega) (by omega),zgg,b.mk_v,b.v_mk]
end
section
set_option linter.unusedVariables false
set_option linter.unusedSimpArgs false
set_option maxRecDepth 100000
variable {β:Type}
def bk0:Bk:=⟨List.replicate 32 0,[],[],by rfl⟩
theorem zNe:List.replicate 32 (V.sc (.int .u8 (0:Int)))++[(V.sl 5 ([]:List (List V))),(V.sl 5 ([]:List (List V)))]=bk0.v:=rfl
theorem zI7 (b:Bk) (k:List V→Int→Option β):chk (List.length b.v=34) (cI .u8 b.v 0 fun v0=>cI .u8 b.v 1 fun v1=>cI .u8 b.v 2 fun v2=>cI .u8 b.v 3 fun v3=>cI .u8 b.v 4 fun v4=>cI .u8 b.v 5 fun v5=>cI .u8 b.v 6 fun v6=>cI .u8 b.v 7 fun v7=>cI .u8 b.v 8 fun v8=>cI .u8 b.v 9 fun v9=>cI .u8 b.v 10 fun v10=>cI .u8 b.v 11 fun v11=>cI .u8 b.v 12 fun v12=>cI .u8 b.v 13 fun v13=>cI .u8 b.v 14 fun v14=>cI .u8 b.v 15 fun v15=>cI .u8 b.v 16 fun v16=>cI .u8 b.v 17 fun v17=>cI .u8 b.v 18 fun v18=>cI .u8 b.v 19 fun v19=>cI .u8 b.v 20 fun v20=>cI .u8 b.v 21 fun v21=>cI .u8 b.v 22 fun v22=>cI .u8 b.v 23 fun v23=>cI .u8 b.v 24 fun v24=>cI .u8 b.v 25 fun v25=>cI .u8 b.v 26 fun v26=>cI .u8 b.v 27 fun v27=>cI .u8 b.v 28 fun v28=>cI .u8 b.v 29 fun v29=>cI .u8 b.v 30 fun v30=>cI .u8 b.v 31 fun v31=>cL 5 b.v 32 fun v32=>cL 5 b.v 33 fun v33=>k [V.sc (.int .u8 v0),V.sc (.int .u8 v1),V.sc (.int .u8 v2),V.sc (.int .u8 v3),V.sc (.int .u8 v4),V.sc (.int .u8 v5),V.sc (.int .u8 v6),V.sc (.int .u8 v7),V.sc (.int .u8 v8),V.sc (.int .u8 v9),V.sc (.int .u8 v10),V.sc (.int .u8 v11),V.sc (.int .u8 v12),V.sc (.int .u8 v13),V.sc (.int .u8 v14),V.sc (.int .u8 v15),V.sc (.int .u8 v16),V.sc (.int .u8 v17),V.sc (.int .u8 v18),V.sc (.int .u8 v19),V.sc (.int .u8 v20),V.sc (.int .u8 v21),V.sc (.int .u8 v22),V.sc (.int .u8 v23),V.sc (.int .u8 v24),V.sc (.int .u8 v25),V.sc (.int .u8 v26),V.sc (.int .u8 v27),V.sc (.int .u8 v28),V.sc (.int .u8 v29),V.sc (.int .u8 v30),V.sc (.int .u8 v31),(V.sl 5 v32),(V.sl 5 v33)] (0:Int))=k b.v 0:=by
 rw [zf b.len,zam b 0 (by omega),zam b 1 (by omega),zam b 2 (by omega),zam b 3 (by omega),zam b 4 (by omega),zam b 5 (by omega),zam b 6 (by omega),zam b 7 (by omega),zam b 8 (by omega),zam b 9 (by omega),zam b 10 (by omega),zam b 11 (by omega),zam b 12 (by omega),zam b 13 (by omega),zam b 14 (by omega),zam b 15 (by omega),zam b 16 (by omega),zam b 17 (by omega),zam b 18 (by omega),zam b 19 (by omega),zam b 20 (by omega),zam b 21 (by omega),zam b 22 (by omega),zam b 23 (by omega),zam b 24 (by omega),zam b 25 (by omega),zam b 26 (by omega),zam b 27 (by omega),zam b 28 (by omega),zam b 29 (by omega),zam b 30 (by omega),zam b 31 (by omega)]
 have g1:∀ k:List (List V)→Option β,cL 5 b.v 32 k=k (xT b.H):=zwX b.g32
 have g2:∀ k:List (List V)→Option β,cL 5 b.v 33 k=k (xT b.T):=zwX b.g33
 rw [g1,g2,b.mk_v,b.v_mk]
theorem zMa (e:Plc) (v:Int):yk e.v 0 [V.sc (.int .i64 v)]=(⟨v,e.a,e.s⟩:Plc).v:=rfl
theorem zMH (b:Bk) (e:Plc):yk e.v 0 [V.sc (.int .i64 (tbk b.salt e.a))]=(zhx b e).v:=by
 unfold zhx
 exact zMa e _
theorem z3 (a:Adr):yk [(V.sc (.int .u32 (0:Int))),(V.sc (.int .u16 (0:Int))),(V.sc (.int .u32 (0:Int)))] 0 a.v=a.v:=zeE rfl
theorem z5 (p:Plc):yk [(V.sc (.int .i64 (0:Int))),(V.sc (.int .u32 (0:Int))),(V.sc (.int .u16 (0:Int))),(V.sc (.int .u32 (0:Int))),(V.sc (.int .u32 (0:Int)))] 0 p.v=p.v:=zeE rfl
theorem at0 (j:Nat):0+Int.toNat (j:Int) * 5=j * 5:=by rw [Int.toNat_natCast]; omega
theorem p13 (p:Plc):List.take 3 (List.drop 1 p.v)=p.a.v:=rfl
theorem cB0 (p:Plc) (k:Int→Option β):cI .i64 p.v 0 k=k p.b:=xM rfl k
theorem zLx (L:Nat) (hL:200000 < L) (b:Bk) (hS:SndB b) (a:Adr) (j:Nat) (hj:j < b.H.length) (hf:zf7 (fun x=>zP x.a a) b.H 0=(j:Int)) (k:List V→Int→Option β):yD β (L+100) b.v a.v k=k (zx5 b j b.H[j]).v 0:=by
 have hH:=hS.lenH
 have hT:=hS.lenT
 have hrl:(zid b.H j).length≤b.H.length:=(zgF _ _).length_le
 have hne:b.H.isEmpty=false:=by
  cases he:b.H with
  | nil=>rw [he] at hj; simp at hj
  | cons x l=>rfl
 unfold yD zuu
 rw [zf (by rw [b.len]; omega),b.take,b.dem,zGA _ b (by omega) (by omega) (by omega),(zBv b).2 hS,Bool.not_true,zaK,zdb b.g32,zf (by show 0+3≤3; omega),zm7,zEv _ b.H (by omega) (by omega),hf,zap,if_neg (by omega),zf (by rw [b.len]; omega),zEY _ b (by omega) (by omega),zf (by omega),at0,zf (by rw [zmB]; omega),zKF hj,zf ⟨rfl,by omega⟩,z5,yC,zwB,hne,zaK,zgg,zz9 _ b.H (by omega) j hj,zf (by rw [b.len]; omega),zf (by show 1+3≤5; omega),b.t32,p13,zID L b.salt b.hs,zf (by show 1=1∧0+1≤5; omega),yC,zMH,cB0,zCg,zwB]
 unfold zx5
 have hb:(zhx b b.H[j]).b=tbk b.salt b.H[j].a:=zCg _ _
 generalize zhx b b.H[j]=p at hb ⊢
 generalize tbk b.salt b.H[j].a=v at hb ⊢
 have hr:=zAI b.T v
 cases he:b.T.isEmpty with
 | true =>
  have hn:b.T=[]:=by simpa using he
  have hlen:b.T.length=0:=by rw [hn]; rfl
  rw [zdp,zgg,zsv _ b.T (by omega) (by omega),yC,zZ (by omega) (by omega),zap,if_neg (by omega),if_neg (by omega),zf (by show 0+5≤5; omega),zdp,zxa,zpI _ b.T (by omega) (by omega),zap,if_neg (by omega),b.mk_v,b.v_mk]
 | false =>
  rw [zaK,zgg,zsv _ b.T (by omega) (by omega),yC,zZ (by omega) (by omega),zap]
  by_cases h8:toN b.T v - zaJ b.T v ≥ 8
  ·have hl:zaJ b.T v < b.T.length:=by omega
   have hrt:(zid b.T (zaJ b.T v)).length≤b.T.length:=(zgF _ _).length_le
   have hil:(znM (zid b.T (zaJ b.T v)) p).length≤b.T.length+1:=by
    unfold znM
    simp only [List.length_append,List.length_take,List.length_drop,List.length_singleton]
    omega
   rw [if_pos (by omega),if_pos h8,zf (by omega),at0,zf (by rw [zmB]; omega),zHd hl,zf ⟨rfl,by omega⟩,z3,yC,zz9 _ b.T (by omega) _ hl,zf (by show 0+5≤5; omega),zxa,zpI _ (zid b.T (zaJ b.T v)) (by omega) (by omega),zap,if_pos (by omega),zf (by show 0+3≤3; omega),zf (by show 0+3≤3; omega),zm7,zuZ,b.mk_v,b.v_mk,zHE L hL _ (by show (zid b.H j).length≤100000; omega) (by show (znM (zid b.T (zaJ b.T v)) p).length≤100000; omega)]
   rw [List.getElem?_eq_getElem hl]
   exact zI7 _ k
  ·rw [if_neg (by omega),if_neg h8,zf (by show 0+5≤5; omega),zxa,zpI _ b.T (by omega) (by omega),zap,if_neg (by omega),b.mk_v,b.v_mk]
theorem z34 (z:List V) (hz:z.length=34) (b:Bk):yk z 0 b.v=b.v:=zeE (by rw [b.len,hz])
theorem zJU (L:Nat) (hL:200000 < L) (b:Bk) (hS:SndB b) (a:Adr) (src:Int) (k:List V→Bool→Int→Option β):yA β (L+100) b.v a.v src k=k (znk b a src).1.v (znk b a src).2 0:=by
 have hH:=hS.lenH
 have hT:=hS.lenT
 unfold yA zta
 rw [zf (by rw [b.len]; omega),b.take,b.dem,zGA _ b (by omega) (by omega) (by omega),(zBv b).2 hS,Bool.not_true,zaK,zf (by rw [b.len]; omega),zf (by show 0+3≤3; omega),zm7,zHE L hL b (by omega) (by omega)]
 generalize (znk b a src).1=b'
 generalize (znk b a src).2=r
 rw [zf ⟨b'.len,by omega⟩,z34 _ (by simp),yC,zf (by rw [b'.len]; omega),b'.take,zf ⟨b'.len,by omega⟩,z34 _ (by simp),yC,zf ⟨rfl,b'.len,by omega⟩]
end
section
set_option linter.unusedVariables false
set_option linter.unusedSimpArgs false
set_option maxRecDepth 100000
theorem zJd (L:Nat) (v n:Int) (hn:1≤n) (hn2:n≤1000000000000):∃ r,0≤r∧r < n∧∀ (β:Type) (k:Int→Option β),yf β L v n k=k r:=by
 by_cases h:Int.tmod v n < 0
 ·have h1:=Int.lt_tmod_of_pos v (show 0 < n by omega)
  refine ⟨Int.tmod v n+n,by omega,by omega,fun β k=>?_⟩
  simp only [yf,zt8,yC]
  rw [zf (by omega),y6 h,zZ (by omega) (by omega)]
 ·have h1:=Int.tmod_lt_of_pos v (show 0 < n by omega)
  refine ⟨Int.tmod v n,by omega,h1,fun β k=>?_⟩
  simp only [yf,zt8,yC]
  rw [zf (by omega),zao h]
structure Dk where
 l:List Int
 a:Int
 h0:0≤a
 h1:a≤l.length
 hl:l.length≤9223372036854775807
def Dk.es (d:Dk):List (List V):=zbm .i64 d.l
theorem zft (L:Nat) (d:Dk) (n:Int) (hn:1≤n) (hn2:n≤1000000000000):∃ (r:Int) (d':Dk),d'.l=d.l∧0≤r∧r < n∧∀ (β:Type) (k:Int→List (List V)→Int→Option β),za β L n d.es d.a k=k r d'.es d'.a:=by
 obtain ⟨l,a,h0,h1,hl⟩:=d
 simp only [Dk.es]
 by_cases h:a < l.length
 ·obtain ⟨i,rfl⟩:∃ i:Nat,a=i:=⟨a.toNat,by omega⟩
  have hi:i < l.length:=by omega
  obtain ⟨r,q1,q2,q3⟩:=zJd L l[i] n hn hn2
  refine ⟨r,⟨l,i+1,by omega,by omega,hl⟩,rfl,q1,q2,fun β k=>?_⟩
  simp only [za,zkP,xY,zkH,yC,zgA]
  have w1:IntKind.wrap .i64 ((i:Int)+1)=(i:Int)+1:=zZ (by omega) (by omega)
  have w2:IntKind.wrap .i64 ((i:Int)+1 - 1)=(i:Int):=by rw [zZ (by omega) (by omega)]; omega
  rw [zCl,if_pos (by omega),w1,w2,y4 (zyd _ hi),xM (by rfl),q3]
 ·refine ⟨0,⟨l,a,h0,h1,hl⟩,rfl,by omega,by omega,fun β k=>?_⟩
  simp only [za,zkP,xY,zkH,yC,zgA]
  rw [zCl,if_neg (by omega)]
theorem zKS (L:Nat) (d:Dk):∃ (id:List Int) (d':Dk),d'.l=d.l∧id.length=32∧∀ (β:Type) (k:List V→List (List V)→Int→Option β),yF β L d.es d.a k=k (row .u8 id) d'.es d'.a:=by
 obtain ⟨r,d1,e1,_,_,q1⟩:=zft L d 5 (by omega) (by omega)
 obtain ⟨s,d2,e2,_,_,q2⟩:=zft L d1 7 (by omega) (by omega)
 refine ⟨IntKind.wrap .u8 r::(List.replicate 30 0++[IntKind.wrap .u8 s]),d2,by rw [e2,e1],by simp,fun β k=>?_⟩
 simp only [yF,zv7,q1,q2,yC]
 rw [zf (by simp)]
 rfl
theorem zKT (n:Int):0≤IntKind.wrap .u32 n:=by
 unfold IntKind.wrap
 simp only [IntKind.signed,Bool.false_and,Bool.false_eq_true,if_false,IntKind.bits]
 exact Int.emod_nonneg n (by decide)
theorem zHN (L:Nat) (d:Dk):∃ (a:Adr) (d':Dk),d'.l=d.l∧0≤a.h∧∀ (β:Type) (k:List V→List (List V)→Int→Option β),xc β L d.es d.a k=k a.v d'.es d'.a:=by
 obtain ⟨r1,d1,e1,_,_,q1⟩:=zft L d 6 (by omega) (by omega)
 obtain ⟨r2,d2,e2,_,_,q2⟩:=zft L d1 5 (by omega) (by omega)
 obtain ⟨r3,d3,e3,_,_,q3⟩:=zft L d2 2 (by omega) (by omega)
 obtain ⟨r4,d4,e4,_,_,q4⟩:=zft L d3 50 (by omega) (by omega)
 refine ⟨⟨IntKind.wrap .u32 (zsX .u32 (IntKind.wrap .u32 r1) 16+IntKind.wrap .u32 r2),IntKind.wrap .u16 r3,IntKind.wrap .u32 r4⟩,d4,by rw [e4,e3,e2,e1],zKT _,fun β k=>?_⟩
 simp only [xc,zwu,q1,q2,q3,q4,yC]
 rw [zf (by simp)]
 rfl
theorem zKg (L:Nat) (d:Dk) (a b:Int) (ha:0≤a) (hb:a≤b) (hb2:b≤1000000000):∃ (r:Int) (d':Dk),d'.l=d.l∧a≤r∧r≤b∧∀ (β:Type) (k:Int→List (List V)→Int→Option β),zt β L a b d.es d.a k=k r d'.es d'.a:=by
 obtain ⟨r1,d1,e1,h1,h2,q1⟩:=zft L d (b - a+1) (by omega) (by omega)
 refine ⟨a+r1,d1,e1,by omega,by omega,fun β k=>?_⟩
 simp only [zt,znV,yC]
 rw [zZ (n:=b - a) (by omega) (by omega),zZ (n:=b - a+1) (by omega) (by omega),q1,zZ (by omega) (by omega)]
theorem zKB (L:Nat) (hL:100 < L) (d:Dk):∃ (ls:List Lnk) (d':Dk),d'.l=d.l∧ls.length≤8∧∀ (β:Type) (k:List (List V)→List (List V)→Int→Option β),yh β L d.es d.a k=k (za2 ls) d'.es d'.a:=by
 have loop:∀ (m g:Nat) (ls:List Lnk) (d:Dk),g≤8→8 - g < m→ls.length≤g→∃ (ls':List Lnk) (d':Dk),d'.l=d.l∧ls'.length≤8∧∀ (β:Type) (kx:List (List V)→List (List V)→Int→Option β),zdP za zt L kx m (za2 ls) (g:Int) d.es d.a=kx (za2 ls') d'.es d'.a:=by
  intro m
  induction m with
  | zero=>intro g ls d h1 h2 h3; omega
  | succ m IH =>
   intro g ls d h1 h2 h3
   by_cases h:g < 8
   ·obtain ⟨r0,d0,e0,g1,g2,q0⟩:=zft L d 2 (by omega) (by omega)
    by_cases h0:r0=0
    ·obtain ⟨r1,d1,e1,_,_,q1⟩:=zKg L d0 1 3 (by omega) (by omega) (by omega)
     obtain ⟨r2,d2,e2,_,_,q2⟩:=zft L d1 3 (by omega) (by omega)
     obtain ⟨r3,d3,e3,_,_,q3⟩:=zft L d2 2 (by omega) (by omega)
     obtain ⟨ls',d',e',hl',q'⟩:=IH (g+1) (ls++[⟨r1,⟨IntKind.wrap .u32 (zsX .u32 (IntKind.wrap .u32 (g:Int)) 16+IntKind.wrap .u32 r2),IntKind.wrap .u16 r3,0⟩⟩]) d3 (by omega) (by omega) (by simp; omega)
     refine ⟨ls',d',by rw [e',e3,e2,e1,e0],hl',fun β kx=>?_⟩
     have hq:=q' β kx
     simp only [za2,List.map_append,List.map_cons,List.map_nil] at hq
     simp only [zdP,zgU,q0,q1,q2,q3,yC]
     rw [y6 (by omega),zd7,if_pos h0,zdc,zf (by simp only [yu]; show (ls.length+1) * 24≤_∧ls.length+1≤_; omega),xQ (by omega)]
     exact hq
    ·obtain ⟨ls',d',e',hl',q'⟩:=IH (g+1) ls d0 (by omega) (by omega) (by omega)
     refine ⟨ls',d',by rw [e',e0],hl',fun β kx=>?_⟩
     simp only [zdP,zgU,q0,yC]
     rw [y6 (by omega),zd7,if_neg h0,xQ (by omega)]
     exact q' β kx
   ·refine ⟨ls,d,rfl,by omega,fun β kx=>?_⟩
    simp only [zdP,zgU]
    rw [zao (by omega)]
 obtain ⟨ls',d',e',hl',q'⟩:=loop L 0 [] d (by omega) (by omega) (by simp)
 refine ⟨ls',d',e',hl',fun β k=>?_⟩
 simp only [yh,zqE,zup]
 exact q' β _
theorem zJG (A B r:List V) (h:A.length=r.length):yk (A++B) 0 r=r++B:=by
 unfold yk
 rw [List.take_zero,Nat.zero_add,List.drop_left' h,List.nil_append]
def Bk.new (s:List Int) (h:s.length=32):Bk:=⟨s,[],[],h⟩
theorem zLw (s:List Int) (h:s.length=32):SndB (Bk.new s h):=⟨TOk.nil _ _,TOk.nil _ _,fun x hx=>by cases hx⟩
def z34g:List V:=List.replicate 32 (V.sc (.int .u8 (0:Int)))++[(V.gs 5 ([]:List (List V))),(V.gs 5 ([]:List (List V)))]
theorem zHa:z34g.length=34:=by simp [z34g]
theorem zJu {b:Bk} {i:Nat} (hi:i < b.H.length):∃ j:Nat,j < b.H.length∧zf7 (fun x=>zP x.a b.H[i].a) b.H 0=(j:Int):=by
 refine zB5 ?_
 have:=zEO (fun x:Plc=>zP x.a b.H[i].a) b.H 0
 have h2:b.H.any (fun x=>zP x.a b.H[i].a)=true:=List.any_eq_true.2 ⟨b.H[i],List.getElem_mem hi,zxZ _⟩
 rw [h2] at this
 exact of_decide_eq_true this
theorem zI3 (L:Nat) (hL:200000 < L):∀ (c m:Nat) (b:Bk) (d:Dk),c < m→c≤1000→SndB b→NnB b→∃ (b':Bk) (d':Dk),d'.l=d.l∧SndB b'∧NnB b'∧∀ (β:Type) (kx:List (List V)→Int→List V→List V→Option β),zdo yF za yD xc yA (L+100) kx m (c:Int) d.es d.a z34g b.v=kx d'.es d'.a z34g b'.v:=by
 intro c
 induction c with
 | zero =>
  intro m b d hm hc hS hN
  refine ⟨b,d,rfl,hS,hN,fun β kx=>?_⟩
  obtain ⟨m,rfl⟩:∃ q,m=q+1:=⟨m - 1,by omega⟩
  simp only [zdo,zfy]
  rw [zao (by omega)]
 | succ c IH =>
  intro m b d hm hc hS hN
  obtain ⟨m,rfl⟩:∃ q,m=q+1:=⟨m - 1,by omega⟩
  have hH:=hS.lenH
  have w:IntKind.wrap .i64 (((c+1:Nat):Int) - 1)=(c:Int):=by rw [zZ (by omega) (by omega)]; omega
  obtain ⟨r0,d0,e0,g1,g2,q0⟩:=zft (L+100) d 4 (by omega) (by omega)
  by_cases h0:r0=0
  ·by_cases hp:0 < b.H.length
   ·obtain ⟨r1,d1,e1,g3,g4,q1⟩:=zft (L+100) d0 (b.H.length:Int) (by omega) (by omega)
    obtain ⟨i,rfl⟩:∃ i:Nat,r1=i:=⟨r1.toNat,by omega⟩
    have hi:i < b.H.length:=by omega
    obtain ⟨j,hj,hf⟩:=zJu hi
    obtain ⟨b',d',e',hS',hN',q'⟩:=IH m (zx5 b j b.H[j]) d1 (by omega) (by omega) (zI9 hS hj) (zJX hN hj)
    refine ⟨b',d',by rw [e',e1,e0],hS',hN',fun β kx=>?_⟩
    simp only [zdo,zfy,q0]
    rw [y6 (by omega),zd7,if_pos h0,zdb b.g32,y9,y6 (by omega),zf (by rw [b.len]; omega),zdb b.g32,zdb b.g32,y9,q1,y4 (zcs hi),b.take,b.dem,p13,zLx L hL b hS _ j hj hf,zf ⟨Bk.len _,by rw [b.len]; omega⟩,z34 _ b.len,yC,yC,w]
    exact q' β kx
   ·obtain ⟨b',d',e',hS',hN',q'⟩:=IH m b d0 (by omega) (by omega) hS hN
    refine ⟨b',d',by rw [e',e0],hS',hN',fun β kx=>?_⟩
    simp only [zdo,zfy,q0]
    rw [y6 (by omega),zd7,if_pos h0,zdb b.g32,y9,zao (by omega),yC,w]
    exact q' β kx
  ·obtain ⟨a,d1,e1,ha,q1⟩:=zHN (L+100) d0
   obtain ⟨r2,d2,e2,_,_,q2⟩:=zft (L+100) d1 4 (by omega) (by omega)
   obtain ⟨b',d',e',hS',hN',q'⟩:=IH m (znk b a (IntKind.wrap .u32 r2)).1 d2 (by omega) (by omega) (zFa hS _ _) (zGx hN ha _)
   refine ⟨b',d',by rw [e',e2,e1,e0],hS',hN',fun β kx=>?_⟩
   simp only [zdo,zfy,q0,q1,q2]
   rw [y6 (by omega),zd7,if_neg h0,zf (by rw [b.len]; omega),yC,b.take,b.dem,zJU L hL b hS,zf ⟨Bk.len _,by rw [b.len]; omega⟩,z34 _ b.len,yC,yC,w]
   exact q' β kx
theorem zKZ (L:Nat) (hL:200000 < L) (d:Dk):∃ (b:Bk) (d':Dk),d'.l=d.l∧SndB b∧NnB b∧∀ (β:Type) (k:List V→List (List V)→Int→Option β),zc β (L+100) d.es d.a k=k b.v d'.es d'.a:=by
 obtain ⟨s,d1,e1,hs,q1⟩:=zKS (L+100) d
 obtain ⟨r,d2,e2,g1,g2,q2⟩:=zft (L+100) d1 40 (by omega) (by omega)
 obtain ⟨c,rfl⟩:∃ c:Nat,r=c:=⟨r.toNat,by omega⟩
 obtain ⟨b',d',e',hS',hN',q'⟩:=zI3 L hL c (L+100) (Bk.new s hs) d2 (by omega) (by omega) (zLw s hs) ⟨fun e he=>(by cases he),fun e he=>(by cases he)⟩
 refine ⟨b',d',by rw [e',e2,e1],hS',hN',fun β k=>?_⟩
 simp only [zc,zsj,zwo,q1,q2]
 have es:yk (List.replicate 32 (V.sc (.int .u8 (0:Int)))++[(V.sl 5 ([]:List (List V))),(V.sl 5 ([]:List (List V)))]) 0 (row .u8 s)=(Bk.new s hs).v:=by
  rw [zJG _ _ _ (by simp [zdl,hs])]; rfl
 rw [zf (by rw [zdl,hs]; omega),es,zf ⟨Bk.len _,by omega⟩,z34 _ (by simp),yC]
 refine (q' β _).trans ?_
 unfold zmz
 rw [zf (by rw [b'.len]; omega),b'.take,zf ⟨b'.len,by rw [zHa]; omega⟩,z34 _ zHa,yC,zf ⟨rfl,b'.len,by omega⟩]
end
section
set_option linter.unusedVariables false
set_option linter.unusedSimpArgs false
variable {β:Type}
theorem zKM (L:Nat) (b:Bk) (hH:b.H.length≤1000000) (hT:b.T.length≤1000000) (hL:2000000 < L) (ls:List Lnk) (h8:ls.length < 8) (draw:Int) (hd:0≤draw) (kd:Int) (hk:kd=if (ls.length:Int) - (cnt 3 ls:Int) < 7 then 2 else 3) (k:List V→Int→Option β) :
  zcM xu xk xt ze yc L (za2 ls) draw kd b.v 0 0 0 0 k=zAN k (zpp b ls draw):=by
 have hc:=zDN 3 ls
 unfold zcM
 rw [zdc,zao (by omega),zd7,zpp]
 by_cases h7:(ls.length:Int) - (cnt 3 ls:Int) ≥ 7
 ·rw [if_neg (by omega)] at hk
  subst hk
  rw [if_pos rfl,if_pos h7,zzW L ls 3 (by omega) (by omega),zap]
  by_cases hf:(cnt 3 ls:Int) > 0
  ·rw [if_pos hf,if_pos hf,zs0]; rfl
  ·rw [if_neg hf,if_neg hf,zf (by rw [b.len]; omega),b.take,b.dem,zHf L ls (by omega) (by omega) b.v b.H b.T hH hT (by omega) b.g32 b.g33]
   refine (zHc _ (zsu b ls 3 hH hT) draw hd _ _).trans ?_
   rw [zxC]
   by_cases h:zoN b.H b.T ls 3=[]
   ·rw [if_pos h,if_pos h,zs0]; rfl
   ·rw [if_neg h,if_neg h,zIB]; rfl
 ·rw [if_pos (by omega)] at hk
  subst hk
  rw [if_neg (by omega),if_neg h7,zf (by rw [b.len]; omega),b.take,b.dem,zHf L ls (by omega) (by omega) b.v b.H b.T hH hT (by omega) b.g32 b.g33]
  refine (zHc _ (zsu b ls 2 hH hT) draw hd _ _).trans ?_
  rw [zxC]
  by_cases h:zoN b.H b.T ls 2=[]
  ·rw [if_pos h,if_pos h,zs0]; rfl
  ·rw [if_neg h,if_neg h,zIB]; rfl
theorem zGY (L:Nat) (b:Bk) (ls:List Lnk) (hl:ls.length≤1000000) (hL:ls.length < L) (an:List Adr) (ha:an.length≤1000000) (draw kd:Int) (kr:Int→List V→Option β) (kx:zo2 β) :
  ∀ (m i:Nat),i≤an.length→an.length - i < m→zdm xu xk xt ze yc L kr kx m (zcH an) (za2 ls) draw kd (i:Int) b.v 0 0 0 0 =
   if cnt 1 ls < 2∧ls.length < 8 then (match ziM ls (an.drop i) with | some a=>kr 0 (⟨1,a⟩:Lnk).v | none=>kx (za2 ls) draw kd b.v 0 0 0 0) else kx (za2 ls) draw kd b.v 0 0 0 0
 | 0,i,h1,h2=>by omega
 | m+1,i,h1,h2=>by
  simp only [zdm,zjL,yC,zkf,zdc]
  by_cases h:i < an.length
  ·have e1:List.take 3 an[i].v=an[i].v:=rfl
   rw [y6 (by omega),zzW L ls 1 hl hL,zap]
   by_cases hc:cnt 1 ls < 2
   ·rw [if_pos (by omega),zap]
    by_cases h8:ls.length < 8
    ·rw [if_pos (by omega),if_pos ⟨hc,h8⟩,y4 (zrY h),e1,zyc L ls hl hL,List.drop_eq_getElem_cons h,ziM]
     cases hb:tkn ls an[i] with
     | true=>rw [Bool.not_true,zaK,xQ (by omega),zGY L b ls hl hL an ha draw kd kr kx m (i+1) (by omega) (by omega),if_pos ⟨hc,h8⟩,if_pos rfl]
     | false =>
      rw [Bool.not_false,zdp,y4 (zrY h),zf ⟨rfl,by omega⟩,zf ⟨rfl,by omega⟩,if_neg (by simp)]
      rfl
    ·rw [if_neg (by omega),if_neg (fun q=>h8 q.2)]
   ·rw [if_neg (by omega),if_neg (fun q=>hc q.1)]
  ·rw [zao (by omega),List.drop_of_length_le (by omega)]
   split <;> rfl
theorem zLv (L:Nat) (b:Bk) (hH:b.H.length≤1000000) (hT:b.T.length≤1000000) (hL:2000000 < L) (bs:Bool) (hB:∀ k:Bool→Option β,xk β L b.v k=k bs) (an:List Adr) (ha:an.length≤1000000) (ls:List Lnk) (hl:ls.length≤1000000) (draw:Int) (hd:0≤draw) (k:List V→Int→Option β) :
  xf β L b.v (zcH an) (za2 ls) draw k=zAN k (zxx bs b an ls draw):=by
 unfold xf znt zrA
 rw [zJr L ls hl (by omega),zxx]
 cases hs:zqV ls with
 | false=>rw [Bool.not_false,zdp,zs0,if_pos rfl]; rfl
 | true =>
  have hc:=zDN 3 ls
  have h8':ls.length≤8:=by
   have h:=hs
   rw [zqV,Bool.and_eq_true] at h
   exact of_decide_eq_true h.1
  rw [Bool.not_true,zaK,zf (by rw [b.len]; omega),b.take,b.dem,hB,if_neg (show ¬ ((true:Bool)=false) by simp)]
  cases bs with
  | false=>rw [Bool.not_false,zdp,zs0,if_pos rfl]; rfl
  | true =>
   rw [Bool.not_true,zaK,zzW L ls 3 hl (by omega),yC,zdc,zZ (by omega) (by omega),zap,if_neg (show ¬ ((true:Bool)=false) by simp)]
   have key:∀ kd:Int,(kd=if (ls.length:Int) - (cnt 3 ls:Int) < 7 then 2 else 3)→zdm xu xk xt ze yc L (fun p9 b8=>ze0 xu xk xt ze yc L p9 b8 k) (fun p2 p3 p10 b4 zNo zNp zNq zNr=>zcM xu xk xt ze yc L p2 p3 p10 b4 zNo zNp zNq zNr k) L (zcH an) (za2 ls) draw kd ((0:Nat):Int) b.v 0 0 0 0 =
     zAN k (if 8≤ls.length then (Lnk0,380) else if cnt 1 ls < 2 then (match ziM ls an with | some a=>(⟨1,a⟩,0) | none=>zpp b ls draw) else zpp b ls draw):=by
    intro kd hk
    refine (zGY L b ls hl (by omega) an ha draw kd _ _ L 0 (by omega) (by omega)).trans ?_
    rw [List.drop_zero]
    by_cases h8:8≤ls.length
    ·rw [if_neg (by omega),if_pos h8]
     unfold zcM
     rw [zdc,y6 (by omega),zs0]; rfl
    ·rw [if_neg h8]
     by_cases h2:cnt 1 ls < 2
     ·rw [if_pos ⟨h2,by omega⟩,if_pos h2]
      cases ziM ls an with
      | some a=>unfold ze0; exact zf ⟨rfl,rfl,by omega⟩ _
      | none=>exact zKM L b hH hT hL ls (by omega) draw hd kd hk k
     ·rw [if_neg (fun q=>h2 q.1),if_neg h2]
      exact zKM L b hH hT hL ls (by omega) draw hd kd hk k
   by_cases h7:(ls.length:Int) - (cnt 3 ls:Int) < 7
   ·rw [if_pos h7]; exact key 2 (by rw [if_pos h7])
   ·rw [if_neg h7]; exact key 3 (by rw [if_neg h7])
end
section
set_option linter.unusedVariables false
set_option linter.unusedSimpArgs false
set_option maxRecDepth 100000
theorem zKY {β:Type} (L:Nat) (k:Bool→Option β):yb β (L+100) k=k true:=by kernel_rfl
theorem zLM {β:Type} (L:Nat) (p:List (List V)) (k:List (List V)→Int→Option β):xb β L p k=k p 0:=rfl
theorem zJa (L:Nat) (b:Bk) (x:List (List V)) (p1 p2:Int):∀ (c m:Nat) (an:List Adr) (d:Dk),c < m→an.length+c≤10→∃ (an':List Adr) (d':Dk),d'.l=d.l∧an'.length≤10∧∀ (β:Type) (kx:zhA β),zaZ yb xb zc yh za xc xa xf yf ya yc ye L kx m p1 p2 x (zcH an) (c:Int) b.v d.es d.a=kx p1 p2 x (zcH an') b.v d'.es d'.a:=by
 intro c
 induction c with
 | zero =>
  intro m an d h1 h2
  obtain ⟨m,rfl⟩:∃ q,m=q+1:=⟨m - 1,by omega⟩
  refine ⟨an,d,rfl,by omega,fun β kx=>?_⟩
  simp only [zaZ,zc2]
  rw [zao (by omega)]
 | succ c IH =>
  intro m an d h1 h2
  obtain ⟨m,rfl⟩:∃ q,m=q+1:=⟨m - 1,by omega⟩
  obtain ⟨a,d1,e1,_,q1⟩:=zHN L d
  obtain ⟨an',d',e',hl',q'⟩:=IH m (an++[a]) d1 (by omega) (by simp; omega)
  refine ⟨an',d',by rw [e',e1],hl',fun β kx=>?_⟩
  simp only [zaZ,zc2,q1,yC]
  rw [y6 (by omega),zf ⟨rfl,by omega⟩,zAR,zkf,zf (by simp only [yu,List.length_singleton]; omega),zvF,show IntKind.wrap .i64 (((c+1:Nat):Int) - 1)=(c:Int) by rw [zZ (by omega) (by omega)]; omega]
  exact q' β kx
variable {β:Type}
theorem zGK (k:List V→Int→Option β) (r:Lnk × Int):zAN k r=k r.1.v r.2:=rfl
theorem zLD (a:Adr) (k:Bool→Option β):eqC 3 (List.take 3 a.v) (List.take 3 a.v) k=k true:=by
 have e:ze7 a.v a.v=some true:=by simp [ze7,Adr.v]
 rw [zm7]
 unfold eqC
 rw [if_pos ⟨rfl,rfl⟩,e]
theorem zLQ (l:Lnk):List.take 4 l.v=l.v:=rfl
theorem zK7 (l:Lnk) (k:Bool→Option β):eqC 4 (List.take 4 l.v) (List.take 4 l.v) k=k true:=by
 have e:ze7 l.v l.v=some true:=by simp [ze7,Lnk.v]
 rw [zLQ]
 unfold eqC
 rw [if_pos ⟨rfl,rfl⟩,e]
theorem z4 (l:Lnk):yk [(V.sc (.int .i64 (0:Int))),(V.sc (.int .u32 (0:Int))),(V.sc (.int .u16 (0:Int))),(V.sc (.int .u32 (0:Int)))] 0 l.v=l.v:=zeE rfl
theorem zH2 (L:Nat) (c:List Adr) (hc:c.length≤10000000) (kr:Bool→Option β) (kx:Option β):∀ (m i:Nat),i≤c.length→c.length - i < m→zef L kr kx m (zcH c) (zcH c) (i:Int)=kx:=by
 intro m
 induction m with
 | zero=>intro i h1 h2; omega
 | succ m IH =>
  intro i h1 h2
  unfold zef zi5
  rw [zkf]
  by_cases h:i < c.length
  ·rw [y6 (by omega),y4 (zrY h),y4 (zrY h),zLD,Bool.not_true,zaK,yC,xQ (by omega)]
   exact IH (i+1) (by omega) (by omega)
  ·rw [zao (by omega)]
theorem zG2 (L:Nat) (c:List Adr) (hc:c.length≤10000000) (hL:c.length < L) (k:Bool→Option β):ye β L (zcH c) (zcH c) k=k true:=by
 unfold ye zju zog
 rw [zpr,if_pos rfl,show ((0:Int))=((0:Nat):Int) from rfl]
 exact zH2 L c hc _ _ L 0 (by omega) (by omega)
theorem zIe (L:Nat) (hL:5000000 < L) (b:Bk) (hS:SndB b) (y:List Lnk) (hy:y.length≤8) (p1 p2:Int) (p10 p45:List (List V)) (p46 p47:Int) (ks:List Int) (hk:ks.length≤1000) (e0:List (List V)) (e1:Int) (kr:Bool→List (List V)→Int→Option β) (kx:zhz β):∀ (m i:Nat),i≤ks.length→ks.length - i < m →
  zaq yb xb zc yh za xc xa xf yf ya yc ye L kr kx m p1 p2 p10 (za2 y) p45 p46 p47 (zbm .i64 ks) ((ks.length:Nat):Int) (i:Int) b.v e0 e1=kx p1 p2 p10 p45 p46 p47 b.v e0 e1:=by
 have hH:=hS.lenH
 have hT:=hS.lenT
 intro m
 induction m with
 | zero=>intro i h1 h2; omega
 | succ m IH =>
  intro i h1 h2
  unfold zaq zb6
  by_cases h:i < ks.length
  ·have hcl:=zsu b y ks[i] (by omega) (by omega)
   rw [y6 (by omega),y4 (zyd _ h),xM (n:=ks[i]) rfl,zf (by rw [b.len]; omega),b.take,b.dem,zGm L y (by omega) (by omega) b.v b.H b.T (by omega) (by omega) (by omega) (by omega) b.g32 b.g33,zf (by rw [b.len]; omega),zHf L y (by omega) (by omega) b.v b.H b.T (by omega) (by omega) (by omega) b.g32 b.g33,zG2 L _ (by omega) (by omega),Bool.not_true,zaK,yC,xQ (by omega)]
   exact IH (i+1) (by omega) (by omega)
  ·rw [zao (by omega)]
def zIz (Y:List (List Lnk)):List (List V):=Y.map fun y=>[V.sl 4 (za2 y)]
theorem zKv {Y:List (List Lnk)} {i:Nat} (h:i < Y.length):(zIz Y)[i]?=some [V.sl 4 (za2 Y[i])]:=by simp [zIz,h]
theorem zJe (L:Nat) (hL:5000000 < L) (b:Bk) (hS:SndB b) (an:List Adr) (ha:an.length≤10) (p1 p2:Int) (hd:0≤p2) (Y:List (List Lnk)) (hY:Y.length≤10) (hY8:∀ y ∈ Y,y.length≤8) (e0:List (List V)) (e1:Int) (kr:Bool→List (List V)→Int→Option β) (kx:List (List V)→Int→Option β):∀ (m i:Nat),i≤Y.length→Y.length - i < m →
  zbz yb xb zc yh za xc xa xf yf ya yc ye (L+100) kr kx m p1 p2 (zcH an) (zIz Y) ((Y.length:Nat):Int) (i:Int) b.v e0 e1=kx e0 e1:=by
 have hH:=hS.lenH
 have hT:=hS.lenT
 have hA:∀ k:Bool→Option β,xp β (L+100) b.v k=k (znx b):=fun k=>by rw [zLX L b (by omega) (by omega) (by omega),zKl]
 have hR:∀ k:Bool→Option β,xk β (L+100) b.v k=k (znx b):=fun k=>zGA L b (by omega) (by omega) (by omega) k
 intro m
 induction m with
 | zero=>intro i h1 h2; omega
 | succ m IH =>
  intro i h1 h2
  unfold zbz zcv zew
  by_cases h:i < Y.length
  ·have hy:=hY8 _ (List.getElem_mem h)
   rw [y6 (by omega),y4 (zKv h),zwX (es:=za2 Y[i]) rfl,zf (by rw [b.len]; omega),b.take,b.dem,zLl (L+100) b (by omega) (by omega) (by omega) _ hA an (by omega) Y[i] (by omega) p2 hd,zGK,zf ⟨rfl,by omega⟩,z4,yC,zf (by rw [b.len]; omega),zLv (L+100) b (by omega) (by omega) (by omega) _ hR an (by omega) Y[i] (by omega) p2 hd,zGK]
   generalize zxx (znx b) b an Y[i] p2=r
   rw [zf ⟨rfl,by omega⟩,z4,yC,zpr,if_pos rfl,zf (by show 0+4≤4; omega),zf (by show 0+4≤4; omega),zK7,Bool.not_true,zaK]
   obtain ⟨q,_,_,hq⟩:=zJd (L+100) p1 5 (by omega) (by omega)
   rw [hq]
   refine (zIe (L+100) (by omega) b hS Y[i] hy p1 p2 _ _ _ _ [p1,q] (by simp) e0 e1 _ _ (L+100) 0 (by omega) (by simp <;> omega)).trans ?_
   unfold zbW
   rw [yC,xQ (by omega)]
   exact IH (i+1) (by omega) (by omega)
  ·rw [zao (by omega)]
theorem zx1 (a0:List (List V)) (a1 a2:Int) (hl0:a0.length≤maxLen) (wf0:∀ e ∈ a0,HasRow [.int .i64] e) (wf1:(Lit.int .i64 a1).wf=true) (wf2:(Lit.int .u64 a2).wf=true) :
  ∃ L,∀ k:Bool→Option Bool,zc7 Bool L a0 a1 a2 k=k true:=by
 obtain ⟨l,rfl,_⟩:=zHL wf0
 rw [zgA] at hl0
 obtain ⟨L,hL⟩:∃ L:Nat,6000000≤L:=⟨6000000,Nat.le_refl _⟩
 refine ⟨L+100,fun k=>?_⟩
 obtain ⟨b,d1,e1,hS,_,q1⟩:=zKZ L (by omega) ⟨l,0,by omega,by omega,by unfold maxLen at hl0; omega⟩
 obtain ⟨x,d2,e2,hx,q2⟩:=zKB (L+100) (by omega) d1
 obtain ⟨r,d3,e3,g1,g2,q3⟩:=zft (L+100) d2 4 (by omega) (by omega)
 obtain ⟨c,rfl⟩:∃ c:Nat,r=c:=⟨r.toNat,by omega⟩
 obtain ⟨an,d4,e4,ha,q4⟩:=zJa (L+100) b (za2 x) a1 a2 c (L+100) [] d3 (by omega) (by simp; omega)
 unfold zc7 zfU zi7
 rw [zKY,Bool.not_true,zaK,zLM]
 have h1:=q1 Bool
 simp only [Dk.es] at h1 q2 q3 q4
 rw [h1,zf ⟨b.len,by omega⟩,z34 _ (by simp),yC]
 rw [q2,q3]
 refine (q4 _ _).trans ?_
 unfold zb9 zeg
 have hm:zJV 2 ((x.length:Nat):Int)=((min 2 x.length:Nat):Int):=by unfold zJV; split <;> omega
 have hlst:zp 1 3 [(V.sl 4 (za2 x)),(V.sl 4 ([]:List (List V))),(V.sl 4 (List.take ((Int.toNat ((min 2 x.length:Nat):Int)) - 0) (List.drop 0 (za2 x))))]=zIz [x,[],x.take (min 2 x.length)]:=by
  rw [Int.toNat_natCast,Nat.sub_zero,List.drop_zero,zzv]; rfl
 rw [zdc,hm,yC,zf (by omega),hlst]
 refine (zJe L (by omega) b hS an ha a1 a2 (zLP wf2).1 [x,[],x.take (min 2 x.length)] (by simp) (by
  intro y hy
  simp only [List.mem_cons,List.not_mem_nil,or_false] at hy
  rcases hy with rfl | rfl | rfl
  ·exact hx
  ·simp
  ·rw [List.length_take]; omega) _ _ _ _ (L+100) 0 (by omega) (by simp <;> omega)).trans ?_
 rfl
end
section
namespace connectChoosesL
open Go.ChangeShapes Go.WideShapes Go.ChangeAt Go.RowKit
set_option linter.unusedVariables false
theorem own:ownKnob Try.prog.godebug=none:=by kernel_rfl
theorem zES:laidOutB Try.prog=true:=by kernel_rfl
set_option maxRecDepth 100000 in
theorem zLT (os:Os) (started:os.Started) (H:Type) (enc:TypeId × Value→H) :
  ReturnsInHanded {} Try.checked os 3 .any (Rows.connectChoosesSpec.pre6 enc Try.prog Try.f3 Rows.connectChoosesRow.domain false) (Rows.connectChoosesSpec.post enc Try.prog Try.f3 false true false false):=by
 refine returnsInHanded_of_change (C:=Try.checked) own started (by kernel_rfl) Try.func3
  (ChangeSpec.witness6 (enc:=enc) (C:=Try.checked) false ⟨#[],#[.slice none 0 0,.int .i64 0,.int .u64 0],[]⟩ 8 (by kernel_rfl) (by kernel_rfl) (by kernel_rfl) (by kernel_rfl)) ?_
 intro W base args ds gs before hval0 hW hcnd _
 have hval:∀ (j:Nat) t v,Try.f3.params[j]?=some t→args[j]?=some v→Value.okWide Try.prog W .any base t v:=hval0
 have hW':=hW
 obtain ⟨p,q,hA0,hV,rfl,hfz,hnd⟩:=hW
 have hA:DataW.TrodAll enc Try.prog W 0 (fun _=>true) true Try.f3.params.toList args.toList ds p:=hA0
 rw [Try.params3] at hA hval
 obtain ⟨v0,vs0,d0,ds0,p0,q0,hargs,rfl,rfl,h0,r0⟩:=trodAll_cons hA
 obtain ⟨v1,vs1,d1,ds1,p1,q1,rfl,rfl,rfl,h1,r1⟩:=trodAll_cons r0
 obtain ⟨v2,vs2,d2,ds2,p2,q2,rfl,rfl,rfl,h2,r2⟩:=trodAll_cons r1
 obtain ⟨rfl,rfl,rfl⟩:=trodAll_nil r2
 obtain rfl:args=#[v0,v1,v2]:=by cases args; simp_all
 obtain ⟨rfl,rfl⟩:=trodVars_none hV
 have k0:=h0
 have lt0:∀ x ∈ p0,x.block < W.heap.size:=by obtain ⟨m,hm⟩:=k0; exact DataW.trod_lt m _ _ _ hm
 have k1:=h1
 have lt1:∀ x ∈ p1,x.block < W.heap.size:=by obtain ⟨m,hm⟩:=k1; exact DataW.trod_lt m _ _ _ hm
 have k2:=h2
 have lt2:∀ x ∈ p2,x.block < W.heap.size:=by obtain ⟨m,hm⟩:=k2; exact DataW.trod_lt m _ _ _ hm
 obtain ⟨A0,len0,cap0,rfl⟩:=okWide_slice Try.underlying22 (hval 0 22 v0 rfl rfl)
 obtain ⟨x0,hx0,rp0⟩:=zLB (r:=.any) (b0:=base) (ren:=xJ fg) (d:=20) (ct:=.sl ([.int .i64])) rfl h0 (by kernel_rfl)
 obtain ⟨a0,rfl,hl0,wf0⟩:=hx0.sl_inv
 obtain ⟨a1,rfl,rfl,rfl,wf1⟩:=open_int Try.underlying3 (hval 1 3 v1 rfl rfl) h1
 obtain ⟨a2,rfl,rfl,rfl,wf2⟩:=open_int Try.underlying23 (hval 2 23 v2 rfl rfl) h2
 clear hA0 hval0
 obtain ⟨L,hL⟩:=zx1 a0 a1 a2 hl0 wf0 wf1 wf2
 obtain ⟨v,b,hev,hk⟩:=zuK L 100 (by decide) Bool [(V.sl 1 a0),(V.sc (.int .i64 a1)),(V.sc (.int .u64 a2))] [] zF9 true (hL (fun p=>zF9 (V.sc (.bool p)) []))
 have hv:=zJc hk
 subst hv
 refine (zIN (us:=[.slice A0 len0 cap0,.int .i64 a1,.int .u64 a2]) (w:=W) (zL9 L 100) (f:=3) (by kernel_rfl) rfl (fun i x u hx hu=>?_) hev).mono fun e W' ⟨he,bel0⟩=>?_
 ·match i,hx,hu with
  | 0,hx,hu=>cases hx; cases hu; exact rp0
  | 1,hx,hu=>cases hx; cases hu; exact .sc _ rfl
  | 2,hx,hu=>cases hx; cases hu; exact .sc _ rfl
  | n+3,hx,hu=>simp at hx
 ·have bel:=Kept.below bel0
  subst he
  exact ⟨_,rfl,_,_,_,[],_,[],hW',trodAll_mk1 (shut_bool Try.underlying4 _),(trodAll_cons_mk (Below.trod zES (by kernel_rfl) (of_decide_eq_true (by kernel_rfl)) k0 bel lt0) (trodAll_cons_mk (Below.trod zES (by kernel_rfl) (of_decide_eq_true (by kernel_rfl)) k1 bel lt1) (trodAll_cons_mk (Below.trod zES (by kernel_rfl) (of_decide_eq_true (by kernel_rfl)) k2 bel lt2) trodAll_mk0))),rfl,bel.frame _,fun h=>by cases h⟩
theorem over:Rows.connectChoosesRow.holds Try.pinned (OpenSpec.ofChange Rows.connectChoosesSpec) :=
 OpenClaim.holds_of_wide 3 Try.f3 rfl rfl rfl rfl rfl rfl rfl ⟨rfl,rfl,rfl,rfl,rfl⟩ rfl rfl rfl rfl rfl (by kernel_rfl) Try.func3 (by kernel_rfl)
  (of_decide_eq_true (by kernel_rfl)) (by unfold Func.isWrapper; first | (rw [if_pos (by decide +kernel)]; kernel_rfl) | (rw [if_neg (by decide +kernel)]; exact ⟨rfl,rfl⟩))
  (fun os started H enc _=>zLT os started H enc)
end connectChoosesL
theorem connectChooses_holds:Rows.ConnectChoosesSaid:=connectChoosesL.over
end
end Go.Proofs.Ytpafdnidhnldhaa
