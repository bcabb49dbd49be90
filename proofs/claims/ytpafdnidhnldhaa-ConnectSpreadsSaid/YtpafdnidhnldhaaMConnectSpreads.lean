/- ConnectSpreads: for every input the call returns true, and each argument reads afterwards as it read before. No condition. -/
import Derived.Test.YtpafdnidhnldhaaMConnectSpreads12
namespace Go.Proofs.Ytpafdnidhnldhaa
section
set_option linter.unusedVariables false
set_option linter.unusedSimpArgs false
set_option maxRecDepth 100000
variable {β:Type}
def bk0:Bk:=⟨List.replicate 32 0,[],[],by rfl⟩
theorem zHO (b:Bk) (k:List V→Int→Option β):chk (List.length b.v=34) (cI .u8 b.v 0 fun v0=>cI .u8 b.v 1 fun v1=>cI .u8 b.v 2 fun v2=>cI .u8 b.v 3 fun v3=>cI .u8 b.v 4 fun v4=>cI .u8 b.v 5 fun v5=>cI .u8 b.v 6 fun v6=>cI .u8 b.v 7 fun v7=>cI .u8 b.v 8 fun v8=>cI .u8 b.v 9 fun v9=>cI .u8 b.v 10 fun v10=>cI .u8 b.v 11 fun v11=>cI .u8 b.v 12 fun v12=>cI .u8 b.v 13 fun v13=>cI .u8 b.v 14 fun v14=>cI .u8 b.v 15 fun v15=>cI .u8 b.v 16 fun v16=>cI .u8 b.v 17 fun v17=>cI .u8 b.v 18 fun v18=>cI .u8 b.v 19 fun v19=>cI .u8 b.v 20 fun v20=>cI .u8 b.v 21 fun v21=>cI .u8 b.v 22 fun v22=>cI .u8 b.v 23 fun v23=>cI .u8 b.v 24 fun v24=>cI .u8 b.v 25 fun v25=>cI .u8 b.v 26 fun v26=>cI .u8 b.v 27 fun v27=>cI .u8 b.v 28 fun v28=>cI .u8 b.v 29 fun v29=>cI .u8 b.v 30 fun v30=>cI .u8 b.v 31 fun v31=>cL 5 b.v 32 fun v32=>cL 5 b.v 33 fun v33=>k [V.sc (.int .u8 v0),V.sc (.int .u8 v1),V.sc (.int .u8 v2),V.sc (.int .u8 v3),V.sc (.int .u8 v4),V.sc (.int .u8 v5),V.sc (.int .u8 v6),V.sc (.int .u8 v7),V.sc (.int .u8 v8),V.sc (.int .u8 v9),V.sc (.int .u8 v10),V.sc (.int .u8 v11),V.sc (.int .u8 v12),V.sc (.int .u8 v13),V.sc (.int .u8 v14),V.sc (.int .u8 v15),V.sc (.int .u8 v16),V.sc (.int .u8 v17),V.sc (.int .u8 v18),V.sc (.int .u8 v19),V.sc (.int .u8 v20),V.sc (.int .u8 v21),V.sc (.int .u8 v22),V.sc (.int .u8 v23),V.sc (.int .u8 v24),V.sc (.int .u8 v25),V.sc (.int .u8 v26),V.sc (.int .u8 v27),V.sc (.int .u8 v28),V.sc (.int .u8 v29),V.sc (.int .u8 v30),V.sc (.int .u8 v31),(V.sl 5 v32),(V.sl 5 v33)] (0:Int))=k b.v 0:=by
 rw [ze b.len,y6 b 0 (by omega),y6 b 1 (by omega),y6 b 2 (by omega),y6 b 3 (by omega),y6 b 4 (by omega),y6 b 5 (by omega),y6 b 6 (by omega),y6 b 7 (by omega),y6 b 8 (by omega),y6 b 9 (by omega),y6 b 10 (by omega),y6 b 11 (by omega),y6 b 12 (by omega),y6 b 13 (by omega),y6 b 14 (by omega),y6 b 15 (by omega),y6 b 16 (by omega),y6 b 17 (by omega),y6 b 18 (by omega),y6 b 19 (by omega),y6 b 20 (by omega),y6 b 21 (by omega),y6 b 22 (by omega),y6 b 23 (by omega),y6 b 24 (by omega),y6 b 25 (by omega),y6 b 26 (by omega),y6 b 27 (by omega),y6 b 28 (by omega),y6 b 29 (by omega),y6 b 30 (by omega),y6 b 31 (by omega)]
 have g1:∀ k:List (List V)→Option β,cL 5 b.v 32 k=k (zT b.H):=zx1 b.g32
 have g2:∀ k:List (List V)→Option β,cL 5 b.v 33 k=k (zT b.T):=zx1 b.g33
 rw [g1,g2,b.mk_v,b.v_mk]
theorem zKy (e:Plc) (v:Int):zh e.v 0 [V.sc (.int .i64 v)]=(⟨v,e.a,e.s⟩:Plc).v:=rfl
theorem zKL (b:Bk) (e:Plc):zh e.v 0 [V.sc (.int .i64 (tbk b.salt e.a))]=(zfK b e).v:=by
 unfold zfK
 exact zKy e _
theorem z3 (a:Adr):zh [(V.sc (.int .u32 (0:Int))),(V.sc (.int .u16 (0:Int))),(V.sc (.int .u32 (0:Int)))] 0 a.v=a.v:=zdq rfl
theorem z5 (p:Plc):zh [(V.sc (.int .i64 (0:Int))),(V.sc (.int .u32 (0:Int))),(V.sc (.int .u16 (0:Int))),(V.sc (.int .u32 (0:Int))),(V.sc (.int .u32 (0:Int)))] 0 p.v=p.v:=zdq rfl
theorem at0 (j:Nat):0+Int.toNat (j:Int) * 5=j * 5:=by rw [Int.toNat_natCast]; omega
theorem p13 (p:Plc):List.take 3 (List.drop 1 p.v)=p.a.v:=rfl
theorem cB0 (p:Plc) (k:Int→Option β):cI .i64 p.v 0 k=k p.b:=yI rfl k
theorem zJT (L:Nat) (hL:200000 < L) (b:Bk) (hS:SndB b) (a:Adr) (j:Nat) (hj:j < b.H.length) (hf:ze2 (fun x=>zL x.a a) b.H 0=(j:Int)) (k:List V→Int→Option β):xz β (L+100) b.v a.v k=k (zvA b j b.H[j]).v 0:=by
 have hH:=hS.lenH
 have hT:=hS.lenT
 have hrl:(zgi b.H j).length≤b.H.length:=(zeY _ _).length_le
 have hne:b.H.isEmpty=false:=by
  cases he:b.H with
  | nil=>rw [he] at hj; simp at hj
  | cons x l=>rfl
 unfold xz zr0
 rw [ze (by rw [b.len]; omega),b.take,b.dem,zGW _ b (by omega) (by omega) (by omega),(ztd b).2 hS,Bool.not_true,zaL,zdk b.g32,ze (by show 0+3≤3; omega),zjK,zBq _ b.H (by omega) (by omega),hf,zaA,if_neg (by omega),ze (by rw [b.len]; omega),zCg _ b (by omega) (by omega),ze (by omega),at0,ze (by rw [zkc]; omega),zIi hj,ze ⟨rfl,by omega⟩,z5,zB,ztx,hne,zaL,zeT,zwZ _ b.H (by omega) j hj,ze (by rw [b.len]; omega),ze (by show 1+3≤5; omega),b.t32,p13,zGG L b.salt b.hs,ze (by show 1=1∧0+1≤5; omega),zB,zKL,cB0,zzs,ztx]
 unfold zvA
 have hb:(zfK b b.H[j]).b=tbk b.salt b.H[j].a:=zzs _ _
 generalize zfK b b.H[j]=p at hb ⊢
 generalize tbk b.salt b.H[j].a=v at hb ⊢
 have hr:=zxY b.T v
 cases he:b.T.isEmpty with
 | true =>
  have hn:b.T=[]:=by simpa using he
  have hlen:b.T.length=0:=by rw [hn]; rfl
  rw [ze0,zeT,zpt _ b.T (by omega) (by omega),zB,zai (by omega) (by omega),zaA,if_neg (by omega),if_neg (by omega),ze (by show 0+5≤5; omega),ze0,zuI,zmz _ b.T (by omega) (by omega),zaA,if_neg (by omega),b.mk_v,b.v_mk]
 | false =>
  rw [zaL,zeT,zpt _ b.T (by omega) (by omega),zB,zai (by omega) (by omega),zaA]
  by_cases h8:toN b.T v - zan b.T v ≥ 8
  ·have hl:zan b.T v < b.T.length:=by omega
   have hrt:(zgi b.T (zan b.T v)).length≤b.T.length:=(zeY _ _).length_le
   have hil:(zlo (zgi b.T (zan b.T v)) p).length≤b.T.length+1:=by
    unfold zlo
    simp only [List.length_append,List.length_take,List.length_drop,List.length_singleton]
    omega
   rw [if_pos (by omega),if_pos h8,ze (by omega),at0,ze (by rw [zkc]; omega),zEk hl,ze ⟨rfl,by omega⟩,z3,zB,zwZ _ b.T (by omega) _ hl,ze (by show 0+5≤5; omega),zuI,zmz _ (zgi b.T (zan b.T v)) (by omega) (by omega),zaA,if_pos (by omega),ze (by show 0+3≤3; omega),ze (by show 0+3≤3; omega),zjK,zzk,b.mk_v,b.v_mk,zFA L hL _ (by show (zgi b.H j).length≤100000; omega) (by show (zlo (zgi b.T (zan b.T v)) p).length≤100000; omega)]
   rw [List.getElem?_eq_getElem hl]
   exact zHO _ k
  ·rw [if_neg (by omega),if_neg h8,ze (by show 0+5≤5; omega),zuI,zmz _ b.T (by omega) (by omega),zaA,if_neg (by omega),b.mk_v,b.v_mk]
theorem z34 (z:List V) (hz:z.length=34) (b:Bk):zh z 0 b.v=b.v:=zdq (by rw [b.len,hz])
theorem zH6 (L:Nat) (hL:200000 < L) (b:Bk) (hS:SndB b) (a:Adr) (src:Int) (k:List V→Bool→Int→Option β):yw β (L+100) b.v a.v src k=k (zkS b a src).1.v (zkS b a src).2 0:=by
 have hH:=hS.lenH
 have hT:=hS.lenT
 unfold yw zqc
 rw [ze (by rw [b.len]; omega),b.take,b.dem,zGW _ b (by omega) (by omega) (by omega),(ztd b).2 hS,Bool.not_true,zaL,ze (by rw [b.len]; omega),ze (by show 0+3≤3; omega),zjK,zFA L hL b (by omega) (by omega)]
 generalize (zkS b a src).1=b'
 generalize (zkS b a src).2=r
 rw [ze ⟨b'.len,by omega⟩,z34 _ (by simp),zB,ze (by rw [b'.len]; omega),b'.take,ze ⟨b'.len,by omega⟩,z34 _ (by simp),zB,ze ⟨rfl,b'.len,by omega⟩]
end
section
set_option linter.unusedVariables false
set_option linter.unusedSimpArgs false
set_option maxRecDepth 100000
theorem zKk (L:Nat) (v n:Int) (hn:1≤n) (hn2:n≤1000000000000):∃ r,0≤r∧r < n∧∀ (β:Type) (k:Int→Option β),zp β L v n k=k r:=by
 by_cases h:Int.tmod v n < 0
 ·have h1:=Int.lt_tmod_of_pos v (show 0 < n by omega)
  refine ⟨Int.tmod v n+n,by omega,by omega,fun β k=>?_⟩
  simp only [zp,zqQ,zB]
  rw [ze (by omega),zaz h,zai (by omega) (by omega)]
 ·have h1:=Int.tmod_lt_of_pos v (show 0 < n by omega)
  refine ⟨Int.tmod v n,by omega,h1,fun β k=>?_⟩
  simp only [zp,zqQ,zB]
  rw [ze (by omega),zaT h]
structure Dk where
 l:List Int
 a:Int
 h0:0≤a
 h1:a≤l.length
 hl:l.length≤9223372036854775807
def Dk.es (d:Dk):List (List V):=za0 .i64 d.l
theorem zhH (L:Nat) (d:Dk) (n:Int) (hn:1≤n) (hn2:n≤1000000000000):∃ (r:Int) (d':Dk),d'.l=d.l∧0≤r∧r < n∧∀ (β:Type) (k:Int→List (List V)→Int→Option β),za β L n d.es d.a k=k r d'.es d'.a:=by
 obtain ⟨l,a,h0,h1,hl⟩:=d
 simp only [Dk.es]
 by_cases h:a < l.length
 ·obtain ⟨i,rfl⟩:∃ i:Nat,a=i:=⟨a.toNat,by omega⟩
  have hi:i < l.length:=by omega
  obtain ⟨r,q1,q2,q3⟩:=zKk L l[i] n hn hn2
  refine ⟨r,⟨l,i+1,by omega,by omega,hl⟩,rfl,q1,q2,fun β k=>?_⟩
  simp only [za,ziv,yU,zh0,zB,ze4]
  have w1:IntKind.wrap .i64 ((i:Int)+1)=(i:Int)+1:=zai (by omega) (by omega)
  have w2:IntKind.wrap .i64 ((i:Int)+1 - 1)=(i:Int):=by rw [zai (by omega) (by omega)]; omega
  rw [zzo,if_pos (by omega),w1,w2,zaB (zzt _ hi),yI (by rfl),q3]
 ·refine ⟨0,⟨l,a,h0,h1,hl⟩,rfl,by omega,by omega,fun β k=>?_⟩
  simp only [za,ziv,yU,zh0,zB,ze4]
  rw [zzo,if_neg (by omega)]
theorem zJJ (L:Nat) (d:Dk):∃ (id:List Int) (d':Dk),d'.l=d.l∧id.length=32∧∀ (β:Type) (k:List V→List (List V)→Int→Option β),xB β L d.es d.a k=k (row .u8 id) d'.es d'.a:=by
 obtain ⟨r,d1,e1,_,_,q1⟩:=zhH L d 5 (by omega) (by omega)
 obtain ⟨s,d2,e2,_,_,q2⟩:=zhH L d1 7 (by omega) (by omega)
 refine ⟨IntKind.wrap .u8 r::(List.replicate 30 0++[IntKind.wrap .u8 s]),d2,by rw [e2,e1],by simp,fun β k=>?_⟩
 simp only [xB,ztr,q1,q2,zB]
 rw [ze (by simp)]
 rfl
theorem zJw (n:Int):0≤IntKind.wrap .u32 n:=by
 unfold IntKind.wrap
 simp only [IntKind.signed,Bool.false_and,Bool.false_eq_true,if_false,IntKind.bits]
 exact Int.emod_nonneg n (by decide)
theorem zBX (L:Nat) (d:Dk):∃ (a:Adr) (d':Dk),d'.l=d.l∧0≤a.h∧∀ (β:Type) (k:List V→List (List V)→Int→Option β),zd β L d.es d.a k=k a.v d'.es d'.a:=by
 obtain ⟨r1,d1,e1,_,_,q1⟩:=zhH L d 6 (by omega) (by omega)
 obtain ⟨r2,d2,e2,_,_,q2⟩:=zhH L d1 5 (by omega) (by omega)
 obtain ⟨r3,d3,e3,_,_,q3⟩:=zhH L d2 2 (by omega) (by omega)
 obtain ⟨r4,d4,e4,_,_,q4⟩:=zhH L d3 50 (by omega) (by omega)
 refine ⟨⟨IntKind.wrap .u32 (zr8 .u32 (IntKind.wrap .u32 r1) 16+IntKind.wrap .u32 r2),IntKind.wrap .u16 r3,IntKind.wrap .u32 r4⟩,d4,by rw [e4,e3,e2,e1],zJw _,fun β k=>?_⟩
 simp only [zd,zth,q1,q2,q3,q4,zB]
 rw [ze (by simp)]
 rfl
theorem zHA (A B r:List V) (h:A.length=r.length):zh (A++B) 0 r=r++B:=by
 unfold zh
 rw [List.take_zero,Nat.zero_add,List.drop_left' h,List.nil_append]
def Bk.new (s:List Int) (h:s.length=32):Bk:=⟨s,[],[],h⟩
theorem zJW (s:List Int) (h:s.length=32):SndB (Bk.new s h):=⟨TOk.nil _ _,TOk.nil _ _,fun x hx=>by cases hx⟩
def z34g:List V:=List.replicate 32 (V.sc (.int .u8 (0:Int)))++[(V.gs 5 ([]:List (List V))),(V.gs 5 ([]:List (List V)))]
theorem zDU:z34g.length=34:=by simp [z34g]
theorem zGU {b:Bk} {i:Nat} (hi:i < b.H.length):∃ j:Nat,j < b.H.length∧ze2 (fun x=>zL x.a b.H[i].a) b.H 0=(j:Int):=by
 refine zzE ?_
 have:=zFn (fun x:Plc=>zL x.a b.H[i].a) b.H 0
 have h2:b.H.any (fun x=>zL x.a b.H[i].a)=true:=List.any_eq_true.2 ⟨b.H[i],List.getElem_mem hi,zuT _⟩
 rw [h2] at this
 exact of_decide_eq_true this
theorem zHl (L:Nat) (hL:200000 < L):∀ (c m:Nat) (b:Bk) (d:Dk),c < m→c≤1000→SndB b→NnB b→∃ (b':Bk) (d':Dk),d'.l=d.l∧SndB b'∧NnB b'∧∀ (β:Type) (kx:List (List V)→Int→List V→List V→Option β),zcr xB za xz zd yw (L+100) kx m (c:Int) d.es d.a z34g b.v=kx d'.es d'.a z34g b'.v:=by
 intro c
 induction c with
 | zero =>
  intro m b d hm hc hS hN
  refine ⟨b,d,rfl,hS,hN,fun β kx=>?_⟩
  obtain ⟨m,rfl⟩:∃ q,m=q+1:=⟨m - 1,by omega⟩
  simp only [zcr,zeb]
  rw [zaT (by omega)]
 | succ c IH =>
  intro m b d hm hc hS hN
  obtain ⟨m,rfl⟩:∃ q,m=q+1:=⟨m - 1,by omega⟩
  have hH:=hS.lenH
  have w:IntKind.wrap .i64 (((c+1:Nat):Int) - 1)=(c:Int):=by rw [zai (by omega) (by omega)]; omega
  obtain ⟨r0,d0,e0,g1,g2,q0⟩:=zhH (L+100) d 4 (by omega) (by omega)
  by_cases h0:r0=0
  ·by_cases hp:0 < b.H.length
   ·obtain ⟨r1,d1,e1,g3,g4,q1⟩:=zhH (L+100) d0 (b.H.length:Int) (by omega) (by omega)
    obtain ⟨i,rfl⟩:∃ i:Nat,r1=i:=⟨r1.toNat,by omega⟩
    have hi:i < b.H.length:=by omega
    obtain ⟨j,hj,hf⟩:=zGU hi
    obtain ⟨b',d',e',hS',hN',q'⟩:=IH m (zvA b j b.H[j]) d1 (by omega) (by omega) (zGV hS hj) (zIj hN hj)
    refine ⟨b',d',by rw [e',e1,e0],hS',hN',fun β kx=>?_⟩
    simp only [zcr,zeb,q0]
    rw [zaz (by omega),zeg,if_pos h0,zdk b.g32,zag,zaz (by omega),ze (by rw [b.len]; omega),zdk b.g32,zdk b.g32,zag,q1,zaB (zcJ hi),b.take,b.dem,p13,zJT L hL b hS _ j hj hf,ze ⟨Bk.len _,by rw [b.len]; omega⟩,z34 _ b.len,zB,zB,w]
    exact q' β kx
   ·obtain ⟨b',d',e',hS',hN',q'⟩:=IH m b d0 (by omega) (by omega) hS hN
    refine ⟨b',d',by rw [e',e0],hS',hN',fun β kx=>?_⟩
    simp only [zcr,zeb,q0]
    rw [zaz (by omega),zeg,if_pos h0,zdk b.g32,zag,zaT (by omega),zB,w]
    exact q' β kx
  ·obtain ⟨a,d1,e1,ha,q1⟩:=zBX (L+100) d0
   obtain ⟨r2,d2,e2,_,_,q2⟩:=zhH (L+100) d1 4 (by omega) (by omega)
   obtain ⟨b',d',e',hS',hN',q'⟩:=IH m (zkS b a (IntKind.wrap .u32 r2)).1 d2 (by omega) (by omega) (zCf hS _ _) (zEn hN ha _)
   refine ⟨b',d',by rw [e',e2,e1,e0],hS',hN',fun β kx=>?_⟩
   simp only [zcr,zeb,q0,q1,q2]
   rw [zaz (by omega),zeg,if_neg h0,ze (by rw [b.len]; omega),zB,b.take,b.dem,zH6 L hL b hS,ze ⟨Bk.len _,by rw [b.len]; omega⟩,z34 _ b.len,zB,zB,w]
   exact q' β kx
theorem zJH (L:Nat) (hL:200000 < L) (d:Dk):∃ (b:Bk) (d':Dk),d'.l=d.l∧SndB b∧NnB b∧∀ (β:Type) (k:List V→List (List V)→Int→Option β),xd β (L+100) d.es d.a k=k b.v d'.es d'.a:=by
 obtain ⟨s,d1,e1,hs,q1⟩:=zJJ (L+100) d
 obtain ⟨r,d2,e2,g1,g2,q2⟩:=zhH (L+100) d1 40 (by omega) (by omega)
 obtain ⟨c,rfl⟩:∃ c:Nat,r=c:=⟨r.toNat,by omega⟩
 obtain ⟨b',d',e',hS',hN',q'⟩:=zHl L hL c (L+100) (Bk.new s hs) d2 (by omega) (by omega) (zJW s hs) ⟨fun e he=>(by cases he),fun e he=>(by cases he)⟩
 refine ⟨b',d',by rw [e',e2,e1],hS',hN',fun β k=>?_⟩
 simp only [xd,zpi,ztf,q1,q2]
 have es:zh (List.replicate 32 (V.sc (.int .u8 (0:Int)))++[(V.sl 5 ([]:List (List V))),(V.sl 5 ([]:List (List V)))]) 0 (row .u8 s)=(Bk.new s hs).v:=by
  rw [zHA _ _ _ (by simp [zcD,hs])]; rfl
 rw [ze (by rw [zcD,hs]; omega),es,ze ⟨Bk.len _,by omega⟩,z34 _ (by simp),zB]
 refine (q' β _).trans ?_
 unfold zj4
 rw [ze (by rw [b'.len]; omega),b'.take,ze ⟨b'.len,by rw [zDU]; omega⟩,z34 _ zDU,zB,ze ⟨rfl,b'.len,by omega⟩]
end
section
set_option linter.unusedVariables false
set_option linter.unusedSimpArgs false
set_option maxRecDepth 100000
variable {β:Type}
theorem zI6 {β:Type} (L:Nat) (k:Bool→Option β):xc β (L+100) k=k true:=by kernel_rfl
theorem zHM {β:Type} (L:Nat) (p:List (List V)) (k:List (List V)→Int→Option β):zc β L p k=k p 0:=rfl
theorem zIC (k:List V→Int→Option β) (r:Lnk × Int):zGw k r=k r.1.v r.2:=rfl
theorem zz0 (l:Lnk):List.take 4 l.v=l.v:=rfl
theorem z4 (l:Lnk):zh [(V.sc (.int .i64 (0:Int))),(V.sc (.int .u32 (0:Int))),(V.sc (.int .u16 (0:Int))),(V.sc (.int .u32 (0:Int)))] 0 l.v=l.v:=zdq rfl
theorem zJO (l:Lnk):zl 4 1 (zh [(V.sc (.int .i64 (0:Int))),(V.sc (.int .u32 (0:Int))),(V.sc (.int .u16 (0:Int))),(V.sc (.int .u32 (0:Int)))] 0 l.v)=zam [l]:=by
 rw [z4]; rfl
theorem zIA (l m:List Lnk):zam l++zam m=zam (l++m):=by simp [zam]
structure LOk (ls:List Lnk):Prop where
 k:∀ e ∈ ls,1≤e.k∧e.k≤3
 g:ls.Pairwise (fun x y=>grp x.a≠grp y.a)
 n:ls.length≤8
theorem zEA (ls:List Lnk):∀ (n i:Nat),i+n=ls.length→(∀ j,i≤j→j < ls.length→snd ls j=true)→zBx ls i n=true
 | 0,i,_,_=>rfl
 | n+1,i,h,H=>by
  rw [zBx,H i (Nat.le_refl _) (by omega),zEA ls n (i+1) (by omega) (fun j h1 h2=>H j (by omega) h2)]; rfl
theorem LOk.lsound {ls:List Lnk} (h:LOk ls):ziG ls=true:=by
 unfold ziG
 rw [decide_eq_true h.n,Bool.true_and]
 refine zEA ls ls.length 0 (by omega) (fun j _ hj=>?_)
 unfold snd
 rw [List.getElem?_eq_getElem hj]
 have h1:=h.k _ (List.getElem_mem hj)
 have h2:tkn (ls.take j) ls[j].a=false:=by
  unfold tkn
  rw [List.any_eq_false]
  intro x hx
  obtain ⟨i,hi,rfl⟩:=List.mem_take_iff_getElem.1 hx
  have:=List.pairwise_iff_getElem.1 h.g i j (by omega) hj (by omega)
  simpa using this
 simp only
 rw [decide_eq_true h1,h2]; rfl
theorem LOk.nil:LOk []:=⟨by simp,List.Pairwise.nil,by simp⟩
theorem LOk.snoc {ls:List Lnk} (h:LOk ls) {n:Lnk} (hk:1≤n.k∧n.k≤3) (ht:tkn ls n.a=false) (h8:ls.length < 8):LOk (ls++[n]):=by
 refine ⟨fun e he=>?_,?_,by simp; omega⟩
 ·rcases List.mem_append.1 he with he | he
  ·exact h.k e he
  ·simp at he; subst he; exact hk
 ·rw [List.pairwise_append]
  refine ⟨h.g,by simp,fun x hx y hy=>?_⟩
  simp at hy; subst hy
  unfold tkn at ht
  rw [List.any_eq_false] at ht
  simpa using ht x hx
theorem zH0 (L:Nat) (ls:List Lnk) (hl:ls.length≤1000000) (k:List (List V)→Option β):yv β L (zam ls) k=k (zam ls):=by
 unfold yv zc2
 cases ls with
 | nil=>rfl
 | cons x l =>
  have e:zam (x::l)=x.v::zam l:=rfl
  have hn:(x.v::zam l).length=l.length+1:=by rw [List.length_cons,zdn]
  have h4:∀ e ∈ zam (x::l),e.length=4:=by
   intro e he
   obtain ⟨y,_,rfl⟩:=List.mem_map.1 he
   rfl
  simp only [List.length_cons] at hl
  rw [e]
  show chk _ (chk _ (k _))=_
  rw [ze (by rw [hn]; simp only [zt]; omega),ze (.inl (by rw [hn]; omega)),← e]
  have:=zxh h4 (w:=(zam (x::l)).length) (Nat.le_refl _)
  rw [this,List.take_of_length_le (Nat.le_refl _)]
theorem zJN (L:Nat) (hL:1000 < L) (ls:List Lnk) (h:LOk ls) (n:Lnk) (hk:1≤n.k∧n.k≤3) (ht:tkn ls n.a=false) (h8:ls.length < 8) (k:List (List V)→Int→Option β):zj β L (zam ls) n.v k=k (zam (ls++[n])) 0:=by
 have e1:List.take 3 (List.drop 1 n.v)=n.a.v:=rfl
 unfold zj zo7
 rw [zwI L ls (by omega),h.lsound,Bool.not_true,zaL,yI (n:=n.k) rfl,zEj,decide_eq_true hk,Bool.not_true,zaL,ze (by show 1+3≤4; omega),e1,zsH L ls (by omega) (by omega),ht,zaL,zdn,zaT (by omega),zH0 L ls (by omega),ze (by show 0+4≤4; omega),zz0,ze ⟨rfl,by omega⟩,zJO,zdn,zdn,ze (by simp only [zt,List.length_singleton]; omega),zB,zIA]
theorem zuo {ls:List Lnk}:∀ {an:List Adr} {a:Adr},zb2 ls an=some a→tkn ls a=false
 | [],a,h=>by cases h
 | x::l,a,h=>by
  unfold zb2 at h
  split at h
  ·exact zuo h
  ·rename_i hx; cases h; simpa using hx
theorem zCh {ls:List Lnk} {ps:List Plc} {a:Adr} (h:a ∈ ziU ls ps):tkn ls a=false∧∃ e ∈ ps,e.a=a:=by
 unfold ziU at h
 obtain ⟨e,he,rfl⟩:=List.mem_map.1 h
 have:=List.mem_filter.1 he
 exact ⟨by simpa using this.2,e,this.1,rfl⟩
theorem zG4 {c:List Adr} (h:c≠[]) {draw:Int} (hd:0≤draw):zzZ c draw ∈ c:=by
 have hpos:0 < c.length:=List.length_pos_iff.2 h
 have h1:=Int.tmod_lt_of_pos draw (b:=(c.length:Int)) (by omega)
 have h2:=Int.tmod_nonneg (c.length:Int) hd
 unfold zzZ
 rw [List.getD_eq_getElem?_getD,List.getElem?_eq_getElem (show (Int.tmod draw (c.length:Int)).toNat < c.length by omega)]
 exact List.getElem_mem _
def zGm (b:Bk) (an:List Adr) (a:Adr):Prop:=a ∈ an∨(∃ e ∈ b.H,e.a=a)∨∃ e ∈ b.T,e.a=a
theorem zvE {ls:List Lnk}:∀ {an:List Adr} {a:Adr},zb2 ls an=some a→a ∈ an
 | [],a,h=>by cases h
 | x::l,a,h=>by
  unfold zb2 at h
  split at h
  ·exact List.mem_cons_of_mem _ (zvE h)
  ·cases h; exact List.mem_cons_self
theorem zF1 {b:Bk} {ls:List Lnk} {kd:Int} {a:Adr} (an:List Adr) (h:a ∈ zpq b.H b.T ls kd):tkn ls a=false∧zGm b an a:=by
 unfold zpq at h
 split at h
 ·obtain ⟨h1,e,he,rfl⟩:=zCh h
  refine ⟨h1,?_⟩
  rcases List.mem_append.1 he with he | he
  ·exact .inr (.inr ⟨e,he,rfl⟩)
  ·exact .inr (.inl ⟨e,he,rfl⟩)
 ·split at h
  ·obtain ⟨h1,e,he,rfl⟩:=zCh h
   exact ⟨h1,.inr (.inl ⟨e,he,rfl⟩)⟩
  ·cases h
inductive Chosen (b:Bk) (an:List Adr) (ls:List Lnk):Lnk × Int→Prop
 | full:Chosen b an ls (Lnk0,380)
 | none:Chosen b an ls (Lnk0,390)
 | some (n:Lnk) (hk:1≤n.k∧n.k≤3) (ht:tkn ls n.a=false) (h8:ls.length < 8) (hf:n.k=3→cnt 3 ls=0) (ha:zGm b an n.a):Chosen b an ls (n,0)
theorem zyW (b:Bk) (an:List Adr) (ls:List Lnk) (kd draw:Int) (hd:0≤draw) (h8:ls.length < 8) (hk:1≤kd∧kd≤3) (hf:kd=3→cnt 3 ls=0):Chosen b an ls (ztP b ls kd draw):=by
 unfold ztP
 split
 ·exact .none
 ·rename_i hne
  have:=zF1 an (zG4 hne hd)
  exact .some _ hk this.1 h8 hf this.2
theorem zw8 (b:Bk) (an:List Adr) (ls:List Lnk) (draw:Int) (hd:0≤draw) (h8:ls.length < 8):Chosen b an ls (zrj b ls draw):=by
 unfold zrj
 split
 ·split
  ·exact .full
  ·rename_i h3
   exact zyW b an ls 3 draw hd h8 ⟨by omega,by omega⟩ (fun _=>by omega)
 ·exact zyW b an ls 2 draw hd h8 ⟨by omega,by omega⟩ (fun h=>by omega)
theorem zEw (b:Bk) (an:List Adr) (ls:List Lnk) (h:LOk ls) (draw:Int) (hd:0≤draw):Chosen b an ls (zfv true b an ls draw):=by
 unfold zfv
 rw [if_neg (by rw [h.lsound]; simp),if_neg (by simp)]
 split
 ·exact .full
 ·rename_i h8
  split
  ·split
   ·rename_i a ha
    exact .some ⟨1,a⟩ ⟨by show (1:Int)≤1; omega,by show (1:Int)≤3; omega⟩ (zuo ha) (by omega) (fun h=>by simp at h) (.inl (zvE ha))
   ·exact zw8 b an ls draw hd (by omega)
  ·exact zw8 b an ls draw hd (by omega)
theorem zD5 (kd:Int) (ls:List Lnk) (n:Lnk):cnt kd (ls++[n])=cnt kd ls+if n.k=kd then 1 else 0:=by
 induction ls with
 | nil=>simp [cnt]
 | cons x l ih=>simp only [List.cons_append,cnt,ih]; omega
structure Grown (b:Bk) (an:List Adr) (ls:List Lnk):Prop where
 o:LOk ls
 f:cnt 3 ls≤1
 a:∀ e ∈ ls,zGm b an e.a
theorem Grown.nil (b:Bk) (an:List Adr):Grown b an []:=⟨LOk.nil,by simp [cnt],by simp⟩
theorem Grown.snoc {b:Bk} {an:List Adr} {ls:List Lnk} (h:Grown b an ls) {n:Lnk} (hk:1≤n.k∧n.k≤3) (ht:tkn ls n.a=false) (h8:ls.length < 8) (hf:n.k=3→cnt 3 ls=0) (ha:zGm b an n.a):Grown b an (ls++[n]):=by
 refine ⟨h.o.snoc hk ht h8,?_,fun e he=>?_⟩
 ·rw [zD5]
  have:=h.f
  split
  ·rename_i h3; rw [hf h3]; omega
  ·omega
 ·rcases List.mem_append.1 he with he | he
  ·exact h.a e he
  ·simp at he; subst he; exact ha
theorem zG7 (L:Nat) (hL:5000000 < L) (b:Bk) (hS:SndB b) (an:List Adr) (ha:an.length≤10):∀ (m i:Nat) (ls:List Lnk) (d:Dk),20 - i < m→ls.length=i→i≤8→Grown b an ls→∃ (ls':List Lnk),Grown b an (ls++ls')∧(ls=[]→ls'≠[]∨zb2 [] an=none)∧(ls=[]→∀ a,zb2 [] an=some a→ls'.head?=some ⟨1,a⟩) ∧
  ∀ (β:Type) (kr:List (List V)→Bool→List (List V)→Int→Option β) (kx:List (List V)→List (List V)→Int→Option β) (k:List (List V)→Bool→Option β),(∀ x y u v,kr x y u v=k x y)→zcu zc za yc zj (L+100) kr kx m (zed an) (zam ls) (i:Int) b.v d.es d.a=k (zam (ls++ls')) true:=by
 have hH:=hS.lenH
 have hT:=hS.lenT
 have hA:∀ (β:Type) (k:Bool→Option β),yl β (L+100) b.v k=k true:=fun β k=>by rw [zKj L b (by omega) (by omega) (by omega),zIp,(ztd b).2 hS]
 intro m
 induction m with
 | zero=>intro i ls d h1; omega
 | succ m IH =>
  intro i ls d h1 hi h8 hG
  obtain ⟨r,d1,e1,g1,g2,q1⟩:=zhH (L+100) d 1048576 (by omega) (by omega)
  have hw:IntKind.wrap .u64 r=r:=zEp (by omega) (by omega)
  have hsp:=zEw b an ls hG.o r g1
  have hch:∀ (β:Type) (k:List V→Int→Option β),yc β (L+100) b.v (zed an) (zam ls) r k=k (zfv true b an ls r).1.v (zfv true b an ls r).2:=fun β k=>by
   rw [zJM (L+100) b (by omega) (by omega) (by omega) true (hA β) an (by omega) ls (by omega) r g1,zIC]
  have zsW:∀ (β:Type) (kr:List (List V)→Bool→List (List V)→Int→Option β) (kx:List (List V)→List (List V)→Int→Option β),zcu zc za yc zj (L+100) kr kx (m+1) (zed an) (zam ls) (i:Int) b.v d.es d.a =
    ifb ((zfv true b an ls r).2 != 0) (ifb ((zfv true b an ls r).2 == 390) (kr (zam ls) true d1.es d1.a) (kr (zam ls) ((zfv true b an ls r).2 == 380) d1.es d1.a))
     (zj β (L+100) (zam ls) (zfv true b an ls r).1.v (fun v9 v10=>ifb ((v10:Int) != (0:Int)) (kr (zam ls) false d1.es d1.a) (zcu zc za yc zj (L+100) kr kx m (zed an) v9 (((i+1:Nat):Int)) b.v d1.es d1.a))):=by
   intro β kr kx
   simp only [zcu,zjV,q1,zB]
   rw [zaz (by omega),ze (by rw [b.len]; omega),b.take,b.dem,hw,hch,ze ⟨rfl,by omega⟩,z4,ze (by show 0+4≤4; omega),zz0,zac (by omega)]
  have hff:ls=[]→∀ a,zb2 [] an=some a→zfv true b an ls r=(⟨1,a⟩,0):=by
   intro hl a hfa
   subst hl
   unfold zfv
   rw [if_neg (by rw [LOk.nil.lsound]; simp),if_neg (by simp),if_neg (by simp),if_pos (by simp [cnt]),hfa]
  generalize zfv true b an ls r=c at hsp zsW hff
  cases hsp with
  | full =>
   refine ⟨[],by rw [List.append_nil]; exact hG,fun hl=>.inr ?_,fun hl a hfa=>?_,fun β kr kx k hk=>?_⟩
   ·cases hfa:zb2 [] an with
    | none=>rfl
    | some a=>have:=hff hl a hfa; simp at this
   ·have:=hff hl a hfa; simp at this
   ·rw [zsW,List.append_nil]; exact hk _ _ _ _
  | none =>
   refine ⟨[],by rw [List.append_nil]; exact hG,fun hl=>.inr ?_,fun hl a hfa=>?_,fun β kr kx k hk=>?_⟩
   ·cases hfa:zb2 [] an with
    | none=>rfl
    | some a=>have:=hff hl a hfa; simp at this
   ·have:=hff hl a hfa; simp at this
   ·rw [zsW,List.append_nil]; exact hk _ _ _ _
  | some n hkd ht hl8 hf hfr =>
   obtain ⟨ls',G',_,_,q'⟩:=IH (i+1) (ls++[n]) d1 (by omega) (by simp; omega) (by omega) (hG.snoc hkd ht hl8 hf hfr)
   rw [List.append_assoc] at G'
   refine ⟨n::ls',G',fun _=>.inl (by simp),fun hl a hfa=>?_,fun β kr kx k hk=>?_⟩
   ·have:=hff hl a hfa
    simp only [Prod.mk.injEq] at this
    rw [this.1]; rfl
   ·rw [zsW]
    have h0:((0:Int) != 0)=false:=rfl
    simp only [h0]
    rw [zaL,zJN _ (by omega) ls hG.o n hkd ht hl8,h0,zaL]
    have:=q' β kr kx k hk
    rw [List.append_assoc] at this
    exact this
theorem zJA (L:Nat) (hL:5000000 < L) (b:Bk) (hS:SndB b) (an:List Adr) (ha:an.length≤10) (dr:List Int) (hdr:dr.length≤9223372036854775807):∃ (ls:List Lnk),Grown b an ls∧(ls≠[]∨zb2 [] an=none)∧(∀ a,zb2 [] an=some a→ls.head?=some ⟨1,a⟩) ∧
  ∀ (β:Type) (k:List (List V)→Bool→Option β),zg β (L+100) b.v (zed an) (za0 .i64 dr) k=k (zam ls) true:=by
 obtain ⟨ls,h1,h2,h3,h4⟩:=zG7 L hL b hS an ha (L+100) 0 [] ⟨dr,0,by omega,by omega,hdr⟩ (by omega) rfl (by omega) (Grown.nil b an)
 rw [List.nil_append] at h1
 refine ⟨ls,h1,h2 rfl,h3 rfl,fun β k=>?_⟩
 unfold zg znB zrN
 rw [zHM]
 refine (h4 β _ _ k (fun x y u v=>rfl)).trans ?_
 rw [List.nil_append]
end
section
set_option linter.unusedVariables false
set_option linter.unusedSimpArgs false
set_option maxRecDepth 100000
variable {β:Type}
theorem zI5 (a:Adr) (k:Bool→Option β):eqC 3 a.v a.v k=k true:=by
 have e:zgj a.v a.v=some true:=by simp [zgj,Adr.v]
 unfold eqC
 rw [if_pos ⟨rfl,rfl⟩,e]
theorem zDL (l:Lnk):List.take 3 (List.drop 1 l.v)=l.a.v:=rfl
theorem zIH (kd:Int) {ls:List Lnk} {i:Nat} (h:i < ls.length):cnt kd (ls.take (i+1))=cnt kd (ls.take i)+if ls[i].k=kd then 1 else 0:=by
 rw [List.take_succ_eq_append_getElem h,zD5]
theorem zI7 (L:Nat) (p7:List (List V)) (ls:List Lnk) (h8:ls.length≤8) (hg:ls.Pairwise (fun x y=>grp x.a≠grp y.a)) (p10:Int) (i:Nat) (hi:i < ls.length) (e0:List (List V)) (e1:Int) (kr:Bool→List (List V)→Int→Option β) (kx:zfR β):∀ (m j:Nat),j≤i→i - j < m →
  zaa xc zc xd zd zg xb ya L kr kx m p7 (zam ls) p10 (zam ls) ((ls.length:Nat):Int) (i:Int) (zam (ls.take i)) (((ls.take i).length:Nat):Int) (j:Int) ls[i].v e0 e1=kx p7 (zam ls) p10 (zam ls) ((ls.length:Nat):Int) (i:Int) ls[i].v e0 e1:=by
 have hl:(ls.take i).length=i:=by rw [List.length_take]; omega
 intro m
 induction m with
 | zero=>intro j h1 h2; omega
 | succ m IH =>
  intro j h1 h2
  unfold zaa zbE
  by_cases h:j < i
  ·have hj:j < (ls.take i).length:=by omega
   have e:(ls.take i)[j]=ls[j]'(by omega):=List.getElem_take
   have hne:=List.pairwise_iff_getElem.1 hg j i (by omega) hi h
   rw [zaz (by omega),zaB (zo1 hj),e,zz0,ze ⟨rfl,by omega⟩,z4,zB,ze (by show 1+3≤4; omega),zDL,zoQ,ze (by show 1+3≤4; omega),zDL,zoQ,zeg,if_neg (fun q=>hne q.symm),zB,zac (by omega)]
   exact IH (j+1) (by omega) (by omega)
  ·rw [zaT (by omega)]
theorem zIm (L:Nat) (hL:100 < L) (p7:List (List V)) (ls:List Lnk) (h8:ls.length≤8) (hg:ls.Pairwise (fun x y=>grp x.a≠grp y.a)) (e0:List (List V)) (e1:Int) (kx:zdI β) (kr:Bool→List (List V)→Int→Option β):∀ (m i:Nat),i≤ls.length→ls.length - i < m →
  za4 xc zc xd zd zg xb ya L kx kr m p7 (zam ls) ((cnt 3 (ls.take i):Nat):Int) (zam ls) ((ls.length:Nat):Int) (i:Int) e0 e1=kx p7 (zam ls) ((cnt 3 ls:Nat):Int) e0 e1:=by
 intro m
 induction m with
 | zero=>intro i h1 h2; omega
 | succ m IH =>
  intro i h1 h2
  unfold za4 zbA zc9
  by_cases h:i < ls.length
  ·have hc:=zIH 3 h
   have hcl:=zDW 3 (ls.take i)
   have hl:(ls.take i).length=i:=by rw [List.length_take]; omega
   rw [zaz (by omega),zaB (zo1 h),zz0,ze ⟨rfl,by omega⟩,z4,zB,zdn,ze (by omega),Int.toNat_natCast,Nat.sub_zero,List.drop_zero,zCI,zdn]
   refine (zI7 L p7 ls h8 hg _ i h e0 e1 _ _ L 0 (by omega) (by omega)).trans ?_
   unfold zbr
   rw [yI (n:=ls[i].k) rfl,zeg]
   have ih:=IH (i+1) (by omega) (by omega)
   by_cases h3:ls[i].k=3
   ·rw [if_pos h3] at hc
    rw [hc] at ih
    rw [if_pos h3,zB,zB,zac (by omega),zac (by omega)]
    exact ih
   ·rw [if_neg h3,Nat.add_zero] at hc
    rw [hc] at ih
    rw [if_neg h3,zB,zac (by omega)]
    exact ih
  ·rw [zaT (by omega),List.take_of_length_le (by omega)]
theorem zJX (a1 a2:Adr):zl 3 2 (zh (zh [(V.sc (.int .u32 (0:Int))),(V.sc (.int .u16 (0:Int))),(V.sc (.int .u32 (0:Int))),(V.sc (.int .u32 (0:Int))),(V.sc (.int .u16 (0:Int))),(V.sc (.int .u32 (0:Int)))] 0 a1.v) 3 a2.v)=zed [a1,a2]:=rfl
theorem zu0 (a0 a1:List (List V)) (hl0:a0.length≤maxLen) (wf0:∀ e ∈ a0,HasRow [.int .i64] e) (hl1:a1.length≤maxLen) (wf1:∀ e ∈ a1,HasRow [.int .i64] e) :
  ∃ L,∀ k:Bool→Option Bool,zcj Bool L a0 a1 k=k true:=by
 obtain ⟨l,rfl,_⟩:=zB7 wf0
 obtain ⟨dr,rfl,_⟩:=zB7 wf1
 rw [ze4] at hl0 hl1
 obtain ⟨L,hL⟩:∃ L:Nat,6000000≤L:=⟨6000000,Nat.le_refl _⟩
 refine ⟨L+100,fun k=>?_⟩
 obtain ⟨b,d1,e1,hS,_,q1⟩:=zJH L (by omega) ⟨l,0,by omega,by omega,by unfold maxLen at hl0; omega⟩
 obtain ⟨x1,d2,e2,_,q2⟩:=zBX (L+100) d1
 obtain ⟨x2,d3,e3,_,q3⟩:=zBX (L+100) d2
 obtain ⟨ls,hG,hne,hhd,q4⟩:=zJA L (by omega) b hS [x1,x2] (by simp) dr (by unfold maxLen at hl1; omega)
 have hff:zb2 [] [x1,x2]=some x1:=rfl
 have hhd:=hhd x1 hff
 simp only [Dk.es] at q1 q2 q3
 unfold zcj zej zgV
 rw [zI6,Bool.not_true,zaL,zHM,q1,ze ⟨b.len,by omega⟩,z34 _ (by simp),zB,q2,q3,ze ⟨rfl,by omega⟩,ze ⟨rfl,by show 3+3≤6; omega⟩,ze (by rw [b.len]; omega),b.take,b.dem,zJX,q4,Bool.not_true,zaL,zdn]
 have h8:=hG.o.n
 have hcf:=hG.f
 obtain ⟨y,lr,rfl⟩:∃ y lr,ls=y::lr:=by
  cases ls with
  | nil=>simp at hhd
  | cons y lr=>exact ⟨y,lr,rfl⟩
 simp only [List.head?_cons,Option.some.injEq] at hhd
 subst hhd
 have hpos:(((⟨1,x1⟩:Lnk)::lr).length:Nat)=lr.length+1:=rfl
 rw [zaT (by omega),zeg,if_neg (by omega)]
 refine (zIm (L+100) (by omega) (zed [x1,x2]) (⟨1,x1⟩::lr) h8 hG.o.g _ _ _ _ (L+100) 0 (by omega) (by omega)).trans ?_
 unfold zcE
 have i1:(zam ((⟨1,x1⟩:Lnk)::lr))[0]?=some (⟨1,x1⟩:Lnk).v:=rfl
 have i2:(zed [x1,x2])[0]?=some x1.v:=rfl
 rw [zaz (by omega),show ((0:Int))=((0:Nat):Int) from rfl,zaB i1,yI (n:=1) rfl,zeg,if_pos rfl,zaB i1,zaB i2,zDL,zjK,zI5,ze0,zwI _ _ (by omega),hG.o.lsound]
def zKW (r:Int) (ls:List Lnk):Nat:=(ls.filter (fun e=>decide (grp e.a < r))).length
end
section
namespace connectSpreadsL
open Go.ChangeShapes Go.WideShapes Go.ChangeAt Go.RowKit
set_option linter.unusedVariables false
theorem own:ownKnob Try.prog.godebug=none:=by kernel_rfl
theorem zFr:laidOutB Try.prog=true:=by kernel_rfl
set_option maxRecDepth 100000 in
theorem zJ6 (os:Os) (started:os.Started) (H:Type) (enc:TypeId × Value→H) :
  ReturnsInHanded {} Try.checked os 4 .any (Rows.connectSpreadsSpec.pre6 enc Try.prog Try.f4 Rows.connectSpreadsRow.domain false) (Rows.connectSpreadsSpec.post enc Try.prog Try.f4 false true false false):=by
 refine returnsInHanded_of_change (C:=Try.checked) own started (by kernel_rfl) Try.func4
  (ChangeSpec.witness6 (enc:=enc) (C:=Try.checked) false ⟨#[],#[.slice none 0 0,.slice none 0 0],[]⟩ 8 (by kernel_rfl) (by kernel_rfl) (by kernel_rfl) (by kernel_rfl)) ?_
 intro W base args ds gs before hval0 hW hcnd _
 have hval:∀ (j:Nat) t v,Try.f4.params[j]?=some t→args[j]?=some v→Value.okWide Try.prog W .any base t v:=hval0
 have hW':=hW
 obtain ⟨p,q,hA0,hV,rfl,hfz,hnd⟩:=hW
 have hA:DataW.TrodAll enc Try.prog W 0 (fun _=>true) true Try.f4.params.toList args.toList ds p:=hA0
 rw [Try.params4] at hA hval
 obtain ⟨v0,vs0,d0,ds0,p0,q0,hargs,rfl,rfl,h0,r0⟩:=trodAll_cons hA
 obtain ⟨v1,vs1,d1,ds1,p1,q1,rfl,rfl,rfl,h1,r1⟩:=trodAll_cons r0
 obtain ⟨rfl,rfl,rfl⟩:=trodAll_nil r1
 obtain rfl:args=#[v0,v1]:=by cases args; simp_all
 obtain ⟨rfl,rfl⟩:=trodVars_none hV
 have k0:=h0
 have lt0:∀ x ∈ p0,x.block < W.heap.size:=by obtain ⟨m,hm⟩:=k0; exact DataW.trod_lt m _ _ _ hm
 have k1:=h1
 have lt1:∀ x ∈ p1,x.block < W.heap.size:=by obtain ⟨m,hm⟩:=k1; exact DataW.trod_lt m _ _ _ hm
 obtain ⟨A0,len0,cap0,rfl⟩:=okWide_slice Try.underlying22 (hval 0 22 v0 rfl rfl)
 obtain ⟨x0,hx0,rp0⟩:=zFh (r:=.any) (b0:=base) (ren:=zF fg) (d:=20) (ct:=.sl ([.int .i64])) rfl h0 (by kernel_rfl)
 obtain ⟨a0,rfl,hl0,wf0⟩:=hx0.sl_inv
 obtain ⟨A1,len1,cap1,rfl⟩:=okWide_slice Try.underlying22 (hval 1 22 v1 rfl rfl)
 obtain ⟨x1,hx1,rp1⟩:=zFh (r:=.any) (b0:=base) (ren:=zF fg) (d:=20) (ct:=.sl ([.int .i64])) rfl h1 (by kernel_rfl)
 obtain ⟨a1,rfl,hl1,wf1⟩:=hx1.sl_inv
 clear hA0 hval0
 obtain ⟨L,hL⟩:=zu0 a0 a1 hl0 wf0 hl1 wf1
 obtain ⟨v,b,hev,hk⟩:=zrQ L 100 (by decide) Bool [(V.sl 1 a0),(V.sl 1 a1)] [] zDA true (hL (fun p=>zDA (V.sc (.bool p)) []))
 have hv:=zGM hk
 subst hv
 refine (zFP (us:=[.slice A0 len0 cap0,.slice A1 len1 cap1]) (w:=W) (zKs L 100) (f:=4) (by kernel_rfl) rfl (fun i x u hx hu=>?_) hev).mono fun e W' ⟨he,bel0⟩=>?_
 ·match i,hx,hu with
  | 0,hx,hu=>cases hx; cases hu; exact rp0
  | 1,hx,hu=>cases hx; cases hu; exact rp1
  | n+2,hx,hu=>simp at hx
 ·have bel:=Kept.below bel0
  subst he
  exact ⟨_,rfl,_,_,_,[],_,[],hW',trodAll_mk1 (shut_bool Try.underlying4 _),(trodAll_cons_mk (Below.trod zFr (by kernel_rfl) (of_decide_eq_true (by kernel_rfl)) k0 bel lt0) (trodAll_cons_mk (Below.trod zFr (by kernel_rfl) (of_decide_eq_true (by kernel_rfl)) k1 bel lt1) trodAll_mk0)),rfl,bel.frame _,fun h=>by cases h⟩
theorem over:Rows.connectSpreadsRow.holds Try.pinned (OpenSpec.ofChange Rows.connectSpreadsSpec) :=
 OpenClaim.holds_of_wide 4 Try.f4 rfl rfl rfl rfl rfl rfl rfl ⟨rfl,rfl,rfl,rfl,rfl⟩ rfl rfl rfl rfl rfl (by kernel_rfl) Try.func4 (by kernel_rfl)
  (of_decide_eq_true (by kernel_rfl)) (by unfold Func.isWrapper; first | (rw [if_pos (by decide +kernel)]; kernel_rfl) | (rw [if_neg (by decide +kernel)]; exact ⟨rfl,rfl⟩))
  (fun os started H enc _=>zJ6 os started H enc)
end connectSpreadsL
theorem connectSpreads_holds:Rows.ConnectSpreadsSaid:=connectSpreadsL.over
end
end Go.Proofs.Ytpafdnidhnldhaa
