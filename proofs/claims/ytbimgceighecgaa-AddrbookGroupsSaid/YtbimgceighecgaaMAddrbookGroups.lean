/- AddrbookGroups: for every input the call returns true, and each argument reads afterwards as it read before. No condition. -/
import Derived.Test.YtbimgceighecgaaMAddrbookGroups14
namespace Go.Proofs.Ytbimgceighecgaa
set_option linter.unusedVariables false
set_option linter.unusedSimpArgs false
open IntKind renaming wrap->QF
open List renaming getElem_mem->W1,append_nil->XZ
open Bool renaming not_true->Xg
section
set_option maxRecDepth 100000
variable {β:Type}
def Z5:List V:=[(Qe (0:Int)),(Qc (0:Int)),(Qb (0:Int)),(Qc (0:Int)),(Qc (0:Int))]
def inB(b:Bk)(a:Adr):Prop:=zg8 b=true∧zbZ (fun x=>yz x.a a) b.H 0≥0
def zCk(b:Bk):Int:=if zg8 b=true then 9 else 6
theorem zDQ(b:Bk):zCk b≠0:=by unfold zCk; split <;> omega
theorem zG6(L:Nat)(hL:200000<L)(b:Bk)(hH:b.H.length≤1000)(hT:b.T.length≤1000)(a:Adr)(h:¬ inB b a)(k:zhj β)(k1:zfS β) :
  yV β (L+100) b.v a.v k k1=k 0 0 0 0 0 0 0 0 0 0 0 0 0 0 0 0 0 0 0 0 0 0 0 0 0 0 0 0 0 0 0 0 [] [] Z5 (zCk b):=by
 unfold yV zkg
 rw [yb b.len,yh b 0 (by omega),yh b 1 (by omega),yh b 2 (by omega),yh b 3 (by omega),yh b 4 (by omega),yh b 5 (by omega),yh b 6 (by omega),yh b 7 (by omega),yh b 8 (by omega),yh b 9 (by omega),yh b 10 (by omega),yh b 11 (by omega),yh b 12 (by omega),yh b 13 (by omega),yh b 14 (by omega),yh b 15 (by omega),yh b 16 (by omega),yh b 17 (by omega),yh b 18 (by omega),yh b 19 (by omega),yh b 20 (by omega),yh b 21 (by omega),yh b 22 (by omega),yh b 23 (by omega),yh b 24 (by omega),yh b 25 (by omega),yh b 26 (by omega),yh b 27 (by omega),yh b 28 (by omega),yh b 29 (by omega),yh b 30 (by omega),yh b 31 (by omega),b.c32,b.c33,b.vv,zzZ L b (by omega) (by omega) (by omega),zu9]
 unfold zCk
 cases hS:zg8 b with
 | false=>rw [Bool.not_false,zlx,ym,yb (by decide),if_neg (by simp)]; rfl
 | true=>
  have hf:¬ zbZ (fun x=>yz x.a a) b.H 0≥0:=fun q=>h ⟨hS,q⟩
  rw [Xg,ze6,yb (by show 0+3≤3; omega),zcr,zBs _ b.H (by omega) (by omega),zag,if_pos (by omega),ym,yb (by decide),if_pos rfl]; rfl
theorem zHK(L:Nat)(hL:200000<L)(b:Bk)(hS:SndB b)(a:Adr)(j:Nat)(hj:j<b.H.length)(hf:zbZ (fun x=>yz x.a a) b.H 0=(j:Int)):∃ z:List V,z.length=5∧∀ (β:Type) (k:zhj β) (k1:zfS β),
  yV β (L+100) b.v a.v k k1=k1 (b.salt.getD 0 0) (b.salt.getD 1 0) (b.salt.getD 2 0) (b.salt.getD 3 0) (b.salt.getD 4 0) (b.salt.getD 5 0) (b.salt.getD 6 0) (b.salt.getD 7 0) (b.salt.getD 8 0) (b.salt.getD 9 0) (b.salt.getD 10 0) (b.salt.getD 11 0) (b.salt.getD 12 0) (b.salt.getD 13 0) (b.salt.getD 14 0) (b.salt.getD 15 0) (b.salt.getD 16 0) (b.salt.getD 17 0) (b.salt.getD 18 0) (b.salt.getD 19 0) (b.salt.getD 20 0) (b.salt.getD 21 0) (b.salt.getD 22 0) (b.salt.getD 23 0) (b.salt.getD 24 0) (b.salt.getD 25 0) (b.salt.getD 26 0) (b.salt.getD 27 0) (b.salt.getD 28 0) (b.salt.getD 29 0) (b.salt.getD 30 0) (b.salt.getD 31 0) (xU b.H j).length b.T.length b.H[j].v 0 (zt (xU b.H j)++z) (zt b.T):=by
 have hH:=hS.lenH
 have hT:=hS.lenT
 obtain ⟨z,hz,hd⟩:=zw5 (L+100) b.H (by omega) [] j hj
 simp only [XZ] at hd
 refine ⟨z,by simpa using hz,fun β k k1=>?_⟩
 have hlen:(zt (xU b.H j)++z).length=(zt b.H).length:=by
  have:(xU b.H j).length=b.H.length-1:=by unfold xU; simp; omega
  rw [zoI,za0,hz,this]; simp; omega
 unfold yV zkg
 rw [yb b.len,yh b 0 (by omega),yh b 1 (by omega),yh b 2 (by omega),yh b 3 (by omega),yh b 4 (by omega),yh b 5 (by omega),yh b 6 (by omega),yh b 7 (by omega),yh b 8 (by omega),yh b 9 (by omega),yh b 10 (by omega),yh b 11 (by omega),yh b 12 (by omega),yh b 13 (by omega),yh b 14 (by omega),yh b 15 (by omega),yh b 16 (by omega),yh b 17 (by omega),yh b 18 (by omega),yh b 19 (by omega),yh b 20 (by omega),yh b 21 (by omega),yh b 22 (by omega),yh b 23 (by omega),yh b 24 (by omega),yh b 25 (by omega),yh b 26 (by omega),yh b 27 (by omega),yh b 28 (by omega),yh b 29 (by omega),yh b 30 (by omega),yh b 31 (by omega),b.c32,b.c33,b.vv,zzZ L b (by omega) (by omega) (by omega),zu9,(zeV b).2 hS,Xg,ze6,yb (by show 0+3≤3; omega),zcr,zBs _ b.H (by omega) (by omega),hf,zag,if_neg (by omega),zcc (zcg hj),zk9,yb ⟨rfl,by omega⟩,z5,ym,zz1 _ b (by omega) (by omega),ym,yT (by omega),hd,hlen,yb rfl,yb (by show 0+5≤5; omega),zk9,yb ⟨rfl,by omega⟩,z5,ym,yb ⟨rfl,rfl,by omega⟩]
theorem zFo(L:Nat)(hL:200000<L)(b:Bk)(hH:b.H.length≤1000)(hT:b.T.length≤1000)(a:Adr)(h:¬ inB b a)(k:List V→Int→Option β):zd β (L+100) b.v a.v k=k bk0.v (zCk b):=by
 unfold zd zkz
 rw [yb b.len,yh b 0 (by omega),yh b 1 (by omega),yh b 2 (by omega),yh b 3 (by omega),yh b 4 (by omega),yh b 5 (by omega),yh b 6 (by omega),yh b 7 (by omega),yh b 8 (by omega),yh b 9 (by omega),yh b 10 (by omega),yh b 11 (by omega),yh b 12 (by omega),yh b 13 (by omega),yh b 14 (by omega),yh b 15 (by omega),yh b 16 (by omega),yh b 17 (by omega),yh b 18 (by omega),yh b 19 (by omega),yh b 20 (by omega),yh b 21 (by omega),yh b 22 (by omega),yh b 23 (by omega),yh b 24 (by omega),yh b 25 (by omega),yh b 26 (by omega),yh b 27 (by omega),yh b 28 (by omega),yh b 29 (by omega),yh b 30 (by omega),yh b 31 (by omega),b.c32,b.c33,b.vv,yb (by show 0+3≤3; omega),zcr,zG6 L hL b hH hT a h,yb (by decide),ym,zjG,if_neg (zDQ b),zEq]
theorem zC9{l:List Plc}{a:Adr}(h:∀ x∈l,yz x.a a=false):¬ zbZ (fun x=>yz x.a a) l 0≥0:=by
 rcases znu (fun x:Plc=>yz x.a a) l 0 with ⟨h1,h2⟩ | ⟨j,hj,h1,h2,h3⟩
 ·omega
 ·have:=h _ (W1 hj)
  rw [h3] at this; cases this
theorem zG8(L:Nat)(hL:200000<L)(b:Bk)(hS:SndB b)(a:Adr)(j:Nat)(hj:j<b.H.length)(hf:zbZ (fun x=>yz x.a a) b.H 0=(j:Int))(k:List V→Int→Option β):zd β (L+100) b.v a.v k=k (zpU b j b.H[j]).v 0:=by
 have hH:=hS.lenH
 have hT:=hS.lenT
 have hrl:(xU b.H j).length≤b.H.length:=(zdl _ _).length_le
 obtain ⟨z,hz,ht⟩:=zHK L hL b hS a j hj hf
 unfold zd zkz
 rw [yb b.len,yh b 0 (by omega),yh b 1 (by omega),yh b 2 (by omega),yh b 3 (by omega),yh b 4 (by omega),yh b 5 (by omega),yh b 6 (by omega),yh b 7 (by omega),yh b 8 (by omega),yh b 9 (by omega),yh b 10 (by omega),yh b 11 (by omega),yh b 12 (by omega),yh b 13 (by omega),yh b 14 (by omega),yh b 15 (by omega),yh b 16 (by omega),yh b 17 (by omega),yh b 18 (by omega),yh b 19 (by omega),yh b 20 (by omega),yh b 21 (by omega),yh b 22 (by omega),yh b 23 (by omega),yh b 24 (by omega),yh b 25 (by omega),yh b 26 (by omega),yh b 27 (by omega),yh b 28 (by omega),yh b 29 (by omega),yh b 30 (by omega),yh b 31 (by omega),b.c32,b.c33,b.vv,yb (by show 0+3≤3; omega),zcr,ht,yb ⟨rfl,by omega⟩,z5,ym,zjG,if_pos rfl,yb (by show 1+3≤5; omega),b.cells,p13,zHm L b.salt b.hs,yb (by show 1=1∧0+1≤5; omega),ym,zIr,cB0,zsn]
 have hd:∀ y∈b.T,yz y.a b.H[j].a=false:=fun y hy=>hS.d _ (W1 hj) y hy
 have hpa:(zeA b b.H[j]).a=b.H[j].a:=zpF _ _
 unfold zpU
 have hb:(zeA b b.H[j]).b=tbk b.salt b.H[j].a:=zsn _ _
 generalize zeA b b.H[j]=p at hb hpa ⊢
 generalize tbk b.salt b.H[j].a=v at hb ⊢
 have hr:=zj6 b.T v
 have hbd:=fun (k:Int→Int→List V→Option β)=>zuU (L+100) b.T (by omega) (by omega) [] v k
 simp only [XZ] at hbd
 have h5:xh 5 (xU b.H j).length (zt (xU b.H j)++z)=xG (xU b.H j):=zwr _ _
 rw [hbd,yb rfl,ym,zZ (by omega) (by omega),zag]
 by_cases h8:toN b.T v-xv b.T v≥8
 ·have hl:xv b.T v<b.T.length:=by omega
  obtain ⟨z2,hz2,hdel⟩:=zw5 (L+100) b.T (by omega) [] (xv b.T v) hl
  simp only [XZ] at hdel
  have hrt:(xU b.T (xv b.T v)).length=b.T.length-1:=by unfold xU; simp; omega
  have hlen:(zt (xU b.T (xv b.T v))++z2).length=(zt b.T).length:=by rw [zoI,za0,hz2,hrt]; simp; omega
  have htr:=zCM hS.t.s (Nat.le_refl _) (show xv b.T v<toN b.T v by omega)
  have hle:toN (xU b.T (xv b.T v)) v≤(xU b.T (xv b.T v)).length:=(zj6 _ v).2
  have hold1:∀ x∈zgt (xU b.T (xv b.T v)) p,yz x.a b.T[xv b.T v].a=false:=by
   intro x hx
   rcases zrs hx with rfl | hx
   ·rw [hpa,zfU]; exact hd _ (W1 hl)
   ·exact zBn hS.t.n hl x hx
  have hold2:∀ x∈xU b.H j,yz x.a b.T[xv b.T v].a=false:=by
   intro x hx
   rw [zfU]; exact hS.d x ((zdl _ _).subset hx) _ (W1 hl)
  have hins:xG (List.take (toN (xU b.T (xv b.T v)) v) (xU b.T (xv b.T v))++[p]++List.drop (toN (xU b.T (xv b.T v)) v) (xU b.T (xv b.T v)))=xG (zgt (xU b.T (xv b.T v)) p):=by unfold zgt; rw [hb]
  have hlw:=fun (a:Adr) (src:Int) (T:List (List V)) (k:zcv β) k1=>zFn L hL ⟨b.salt,xU b.H j,[],b.hs⟩ (hS.h.sub (zdl _ _)).s (by show (xU b.H j).length≤100000; omega) z T a src k k1
  simp only at hlw
  rw [if_neg (by omega),if_pos h8,yb (by omega),at0,yb (by rw [za0]; omega),zyH hl,yb ⟨rfl,by omega⟩,z3,ym,ym,yT (by omega),hdel,hlen,yb rfl,ym,show QF .i64 ((toN b.T v:Int)-1)=((toN b.T v-1:Nat):Int) by rw [zZ (by omega) (by omega)]; omega,yb (by show 0+5≤5; omega),zk9,yb ⟨rfl,by omega⟩,z5,fl1,← htr,zrk _ _ (by omega) z2 _ hle,hlen,yb rfl,hins,yb (by show 0+3≤3; omega),yb (by show 0+3≤3; omega),zcr,zsj,hlw]
  rw [List.getElem?_eq_getElem hl]
  simp only
  rw [zx5 _ _ _ (zC9 hold1) (zC9 hold2)]
  simp only
  cases hc:(zfc b.salt (xU b.H j) b.T[xv b.T v].a (grp b.T[xv b.T v].a)).2 with
  | true=>
   rw [if_pos rfl,zkC,zel,b.vx]
  | false=>
   have e1:(zfc b.salt (xU b.H j) b.T[xv b.T v].a (grp b.T[xv b.T v].a)).1=xU b.H j:=by
    unfold zfc at hc ⊢
    split at hc
    ·split at hc
     ·rename_i c1 c2; rw [if_pos c1,if_pos c2]
     ·cases hc
    ·cases hc
   rw [if_neg (by simp),zkC,h5,b.vx,e1]
 ·have hai:=zrk (β:=β) (L+100) b.T (by omega) [] (toN b.T v) hr.2 p
  simp only [XZ] at hai
  have hins:xG (List.take (toN b.T v) b.T++[p]++List.drop (toN b.T v) b.T)=xG (zgt b.T p):=by unfold zgt; rw [hb]
  rw [if_pos (by omega),if_neg h8,yb (by show 0+5≤5; omega),zk9,yb ⟨rfl,by omega⟩,z5,fl1,hai,yb rfl,hins,h5,b.vx]
end
section
set_option maxRecDepth 100000
theorem zD3(x y t:Int):[(Qc x),(Qb y),(Qc t)]=(⟨x,y,t⟩:Adr).v:=rfl
theorem zFU(L:Nat)(hL:200000<L)(g:Int):∀ (c m i:Nat) (b:Bk) (d:Dk),i+c=45→c<m→SndB b→∃ (b':Bk) (d':Dk),SndB b'∧∀ (kr:Bool→List (List V)→Int→Option Bool) (kx:Int→List V→List (List V)→Int→Option Bool),
  zam xe xf zf xa yc zd zb xb (L+100) kr kx m g (i:Int) b.v d.es d.a=kx g b'.v d'.es d'.a:=by
 intro c
 induction c with
 | zero=>
  intro m i b d hi hm hS
  refine ⟨b,d,hS,fun kr kx=>?_⟩
  obtain ⟨m,rfl⟩:∃ q,m=q+1:=⟨m-1,by omega⟩
  unfold zam zbu
  rw [zaD (by omega)]
 | succ c IH=>
  intro m i b d hi hm hS
  obtain ⟨m,rfl⟩:∃ q,m=q+1:=⟨m-1,by omega⟩
  obtain ⟨r,d1,e1,g1,g2,q1⟩:=zir (L+100) d 3 (by omega) (by omega)
  obtain ⟨a,ha⟩:∃ a:Adr,a=⟨QF .u32 (zqw .u32 g 16+QF .u32 (i:Int)),QF .u16 r,0⟩:=⟨_,rfl⟩
  have hS1:=zsK hS a (QF .u32 (i:Int))
  have ah:=fun (k:List V→Bool→Int→Option Bool)=>zwh L hL b (by have:=hS.lenH; omega) (by have:=hS.lenT; omega) a (QF .u32 (i:Int)) k
  simp only [(zeV b).2 hS,if_true] at ah
  generalize zec b a (QF .u32 (i:Int))=p at hS1 ah
  obtain ⟨b1,r1⟩:=p
  simp only at hS1 ah
  by_cases hin:inB b1 a
  ·obtain ⟨j,hj,e⟩:=zpu hin.2
   have hS2:=zBB hS1 hj
   have ag:=fun (k:List V→Int→Option Bool)=>zG8 L hL b1 hS1 a j hj e k
   generalize zpU b1 j b1.H[j]=b2 at hS2 ag
   obtain ⟨b',d',hS',q'⟩:=IH m (i+1) b2 d1 (by omega) (by omega) hS2
   refine ⟨b',d',hS',fun kr kx=>?_⟩
   unfold zam zbu
   rw [zap (by omega),ym,ym,ym,q1,ym,zD3,← ha,ym,yb (by rw [b.len]; omega),yb (by show 0+3≤3; omega),ym,b.take,b.dem,zcr,ah,yb ⟨b1.len,by omega⟩,z34 _ (by simp),ym,zjG,if_pos rfl,yb (by rw [b1.len]; omega),b1.take,yb ⟨b1.len,by rw [b.len]; omega⟩,z34 _ b.len,ym,yb (by rw [b1.len]; omega),yb (by show 0+3≤3; omega),b1.take,b1.dem,ag,yb ⟨b2.len,by omega⟩,z34 _ (by simp),ym,zda,if_pos rfl,yb (by rw [b2.len]; omega),b2.take,yb ⟨b2.len,by rw [b1.len]; omega⟩,z34 _ b1.len,ym,ym,yT (by omega)]
   exact q' kr kx
  ·have ag:=fun (k:List V→Int→Option Bool)=>zFo L hL b1 (by have:=hS1.lenH; omega) (by have:=hS1.lenT; omega) a hin k
   obtain ⟨b',d',hS',q'⟩:=IH m (i+1) b1 d1 (by omega) (by omega) hS1
   refine ⟨b',d',hS',fun kr kx=>?_⟩
   unfold zam zbu
   rw [zap (by omega),ym,ym,ym,q1,ym,zD3,← ha,ym,yb (by rw [b.len]; omega),yb (by show 0+3≤3; omega),ym,b.take,b.dem,zcr,ah,yb ⟨b1.len,by omega⟩,z34 _ (by simp),ym,zjG,if_pos rfl,yb (by rw [b1.len]; omega),b1.take,yb ⟨b1.len,by rw [b.len]; omega⟩,z34 _ b.len,ym,yb (by rw [b1.len]; omega),yb (by show 0+3≤3; omega),b1.take,b1.dem,ag,yb ⟨bk0.len,by omega⟩,z34 _ (by simp),ym,zda,if_neg (zDQ b1),ym,yT (by omega)]
   exact q' kr kx
theorem zzL(L:Nat)(g n:Int)(p63:List (List V))(p64 p65:Int)(b:Bk)(hH:b.H.length≤1000)(y:Plc)(hy:∀ x∈b.H,yz y.a x.a=false)(es:List (List V))(pos:Int)(kr:Bool→List (List V)→Int→Option Bool)(kx:zgi Bool):∀ (m i:Nat),i≤b.H.length→b.H.length-i<m →
  zai xe xf zf xa yc zd zb xb L kr kx m g n p63 p64 p65 (xG b.H) (b.H.length:Int) (i:Int) b.v y.v es pos=kx g n p63 p64 p65 b.v es pos:=by
 intro m
 induction m with
 | zero=>intro i h1 h2; omega
 | succ m ih=>
  intro i h1 h2
  unfold zai zb8
  by_cases h:i<b.H.length
  ·have hs:=hy _ (W1 h)
   rw [zap (by omega),zcc (zcg h),zk9,yb ⟨rfl,by omega⟩,z5,ym,zE (n:=y.a.h) rfl,zE (n:=b.H[i].a.h) rfl,zda,yT (by omega)]
   by_cases c1:y.a.h=b.H[i].a.h
   ·have c2:¬ y.a.p=b.H[i].a.p:=by
     intro c2
     unfold yz at hs
     rw [c1,c2] at hs
     simp at hs
    rw [if_pos c1,zE (n:=y.a.p) rfl,zE (n:=b.H[i].a.p) rfl,zda,if_neg c2]
    exact ih (i+1) (by omega) (by omega)
   ·rw [if_neg c1]
    exact ih (i+1) (by omega) (by omega)
  ·rw [zaD (by omega)]
theorem zEg(L:Nat)(hL:2000<L)(g:Int)(b:Bk)(hH:b.H.length≤1000)(hT:b.T.length≤1000)(hd:∀ x∈b.H,∀ y∈b.T,yz y.a x.a=false)(es:List (List V))(pos:Int)(kr:Bool→List (List V)→Int→Option Bool)(kx:Int→List V→List (List V)→Int→Option Bool):∀ (m i c:Nat),c≤i→i≤b.T.length→b.T.length-i<m →
  zbd xe xf zf xa yc zd zb xb L kx kr m g (c:Int) (xG b.T) (b.T.length:Int) (i:Int) b.v es pos=kx ((c+zAz g (b.T.drop i):Nat):Int) b.v es pos:=by
 intro m
 induction m with
 | zero=>intro i c h0 h1 h2; omega
 | succ m ih=>
  intro i c h0 h1 h2
  unfold zbd zb1 zdM
  by_cases h:i<b.T.length
  ·have hy:∀ x∈b.H,yz b.T[i].a x.a=false:=fun x hx=>hd x hx _ (W1 h)
   rw [zap (by omega),zcc (zcg h),zk9,yb ⟨rfl,by omega⟩,z5,ym,yb (by show 1+3≤5; omega),p13,zsj,zda,List.drop_eq_getElem_cons h,zAz]
   by_cases c1:grp b.T[i].a=g
   ·rw [if_pos c1,if_pos c1,ym,yT (by omega),zcy b.g32,yP]
    refine (zzL L g _ _ _ _ b hH b.T[i] hy es pos _ _ L 0 (by omega) (by omega)).trans ?_
    unfold zaI
    rw [ym,yT (by omega)]
    refine (ih (i+1) (c+1) (by omega) (by omega) (by omega)).trans ?_
    congr 2; omega
   ·rw [if_neg c1,if_neg c1,zcy b.g32,yP]
    refine (zzL L g _ _ _ _ b hH b.T[i] hy es pos _ _ L 0 (by omega) (by omega)).trans ?_
    unfold zaI
    rw [ym,yT (by omega)]
    refine (ih (i+1) c (by omega) (by omega) (by omega)).trans ?_
    congr 2; omega
  ·rw [zaD (by omega),List.drop_of_length_le (by omega)]; rfl
theorem zum(a0:List (List V))(a1:Int)(hl0:a0.length≤maxLen)(wf0:∀ e∈a0,HasRow [.int .i64] e)(wf1:(Lit.int .u32 a1).wf=true) :
  ∃ L,∀ k:Bool→Option Bool,za2 Bool L a0 a1 k=k true:=by
 obtain ⟨l,rfl,_⟩:=zD5 wf0
 rw [zfu] at hl0
 obtain ⟨L,hL⟩:∃ L:Nat,6000000≤L:=⟨6000000,Nat.le_refl _⟩
 refine ⟨L+100,fun k=>?_⟩
 obtain ⟨b0,d1,e1,hS0,_,q1⟩:=zH9 L (by omega) ⟨l,0,by omega,by omega,by unfold maxLen at hl0; omega⟩
 obtain ⟨b,d2,hS,q2⟩:=zFU L (by omega) (QF .u32 (20+Int.tmod a1 5)) 45 (L+100) 0 b0 d1 (by omega) (by omega) hS0
 have hH:=hS.lenH
 have hT:=hS.lenT
 unfold za2 zeU zhS
 have h1:=q1 Bool
 simp only [Dk.es] at h1 q2
 rw [zI0 L (by omega),Xg,ze6,zIB,h1,yb ⟨b0.len,by omega⟩,z34 _ (by simp),ym,ym,ym]
 refine (q2 _ _).trans ?_
 unfold zb6 zdL
 rw [zcy b.g33,yP]
 refine (zEg (L+100) (by omega) _ b (by omega) (by omega) hS.d _ _ _ _ (L+100) 0 0 (by omega) (by omega) (by omega)).trans ?_
 have hc:=zH1 hS (QF .u32 (20+Int.tmod a1 5))
 unfold zdm
 rw [List.drop_zero,Nat.zero_add,zap (by omega),yb (by rw [b.len]; omega),b.take,b.dem,zzZ L b (by omega) (by omega) (by omega),zu9,(zeV b).2 hS]
end
section
namespace addrbookGroupsL
open Go.ChangeShapes Go.WideShapes Go.ChangeAt Go.RowKit
theorem own:ownKnob Try.prog.godebug=none:=by kernel_rfl
theorem zD0:laidOutB Try.prog=true:=by kernel_rfl
set_option maxRecDepth 100000 in
theorem zII(os:Os)(started:os.Started)(H:Type)(enc:TypeId × Value→H) :
  ReturnsInHanded {} Try.checked os 6 .any (Rows.addrbookGroupsSpec.pre6 enc Try.prog Try.f6 Rows.addrbookGroupsRow.domain false) (Rows.addrbookGroupsSpec.post enc Try.prog Try.f6 false true false false):=by
 refine returnsInHanded_of_change (C:=Try.checked) own started (by kernel_rfl) Try.func6
  (ChangeSpec.witness6 (enc:=enc) (C:=Try.checked) false ⟨#[],#[.slice none 0 0,.int .u32 0],[]⟩ 8 (by kernel_rfl) (by kernel_rfl) (by kernel_rfl) (by kernel_rfl)) ?_
 intro W base args ds gs before hval0 hW hcnd _
 have hval:∀ (j:Nat) t v,Try.f6.params[j]?=some t→args[j]?=some v→Value.okWide Try.prog W .any base t v:=hval0
 have hW':=hW
 obtain ⟨p,q,hA0,hV,rfl,hfz,hnd⟩:=hW
 have hA:DataW.TrodAll enc Try.prog W 0 (fun _=>true) true Try.f6.params.toList args.toList ds p:=hA0
 rw [Try.params6] at hA hval
 obtain ⟨v0,vs0,d0,ds0,p0,q0,hargs,rfl,rfl,h0,r0⟩:=trodAll_cons hA
 obtain ⟨v1,vs1,d1,ds1,p1,q1,rfl,rfl,rfl,h1,r1⟩:=trodAll_cons r0
 obtain ⟨rfl,rfl,rfl⟩:=trodAll_nil r1
 obtain rfl:args=#[v0,v1]:=by cases args; simp_all
 obtain ⟨rfl,rfl⟩:=trodVars_none hV
 have k0:=h0
 have lt0:∀ x∈p0,x.block<W.heap.size:=by obtain ⟨m,hm⟩:=k0; exact DataW.trod_lt m _ _ _ hm
 have k1:=h1
 have lt1:∀ x∈p1,x.block<W.heap.size:=by obtain ⟨m,hm⟩:=k1; exact DataW.trod_lt m _ _ _ hm
 obtain ⟨A0,len0,cap0,rfl⟩:=okWide_slice Try.underlying22 (hval 0 22 v0 rfl rfl)
 obtain ⟨x0,hx0,rp0⟩:=zIe (r:=.any) (b0:=base) (ren:=zQ fg gls) (d:=20) (ct:=.sl ([.int .i64])) rfl h0 (by kernel_rfl)
 obtain ⟨a0,rfl,hl0,wf0⟩:=hx0.sl_inv
 obtain ⟨a1,rfl,rfl,rfl,wf1⟩:=open_int Try.underlying23 (hval 1 23 v1 rfl rfl) h1
 clear hA0 hval0
 obtain ⟨L,hL⟩:=zum a0 a1 hl0 wf0 wf1
 have hd:ze3 za2 L Bool [(V.sl 1 a0),(Qc a1)] [] zxa=some true:=by
  show (aL 1 (V.sl 1 a0) fun x0=>aI .u32 (Qc a1) fun x1=>za2 Bool L x0 x1 (fun p=>zxa (V.sc (.bool p)) []))=some true
  rw [zI1,zIW]
  exact (hL (fun p=>zxa (V.sc (.bool p)) [])).trans rfl
 obtain ⟨v,b,hev,hk⟩:=zr4 L 100 (by decide) Bool [(V.sl 1 a0),(Qc a1)] [] zxa true hd
 have hv:=zF5 hk
 subst hv
 refine (zE6 (us:=[.slice A0 len0 cap0,.int .u32 a1]) (w:=W) (fun _ _ h=>by cases h) (zI6 L 100) (f:=6) (by kernel_rfl) rfl (fun i x u hx hu=>?_) hev).mono fun e W' ⟨he,bel0⟩=>?_
 ·match i,hx,hu with
  | 0,hx,hu=>cases hx; cases hu; exact rp0
  | 1,hx,hu=>cases hx; cases hu; exact .sc _ rfl
  | n+2,hx,hu=>simp at hx
 ·have bel:=Kept.below bel0
  subst he
  exact ⟨_,rfl,_,_,_,[],_,[],hW',trodAll_mk1 (shut_bool Try.underlying4 _),(trodAll_cons_mk (Below.trod zD0 (by kernel_rfl) (of_decide_eq_true (by kernel_rfl)) k0 bel lt0) (trodAll_cons_mk (Below.trod zD0 (by kernel_rfl) (of_decide_eq_true (by kernel_rfl)) k1 bel lt1) trodAll_mk0)),rfl,bel.frame _,fun h=>by cases h⟩
theorem over:Rows.addrbookGroupsRow.holds Try.pinned (OpenSpec.ofChange Rows.addrbookGroupsSpec):=
 OpenClaim.holds_of_wide 6 Try.f6 rfl rfl rfl rfl rfl rfl rfl ⟨rfl,rfl,rfl,rfl,rfl⟩ rfl rfl rfl rfl rfl (by kernel_rfl) Try.func6 (by kernel_rfl)
  (of_decide_eq_true (by kernel_rfl)) (by unfold Func.isWrapper; first | (rw [if_pos (by decide +kernel)]; kernel_rfl) | (rw [if_neg (by decide +kernel)]; exact ⟨rfl,rfl⟩))
  (fun os started H enc _=>zII os started H enc)
end addrbookGroupsL
theorem addrbookGroups_holds:Rows.AddrbookGroupsSaid:=addrbookGroupsL.over
end
end Go.Proofs.Ytbimgceighecgaa
