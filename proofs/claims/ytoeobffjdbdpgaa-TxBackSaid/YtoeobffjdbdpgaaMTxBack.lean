/- TxBack: for every input the call returns true, and each argument reads afterwards as it read before. No condition. -/
import Derived.Test.YtoeobffjdbdpgaaMTxBack12
namespace Go.Proofs.Ytoeobffjdbdpgaa
section
set_option linter.unusedVariables false
set_option linter.unusedSimpArgs false
set_option linter.unusedSectionVars false
set_option maxRecDepth 100000
variable {β:Type}
def zo3 (x:Inp) (w:List (List V)):List V:=zcy (row .u8 (x.pv.take 32)) (x.pv.getD 32 0) x.seq (V.gs 1 w)
theorem zFC (x:Inp):zb2 x=zo3 x (zaD x.wit):=rfl
def rws (ds:List Inp) (x:Inp) (w:List (List V)) (rs:List Inp):List (List V):=ds.map zb2++zo3 x w::rs.map zb2
def fl (ds:List Inp) (x:Inp) (w:List (List V)) (rs:List Inp):List V:=(rws ds x w rs).flatten
theorem zuh {x:Inp} (h:x.pv.length=33):(row .u8 (x.pv.take 32)).length=32:=by rw [zfS,List.length_take]; omega
theorem zsE {x:Inp} (h:x.pv.length=33) (w:List (List V)):(zo3 x w).length=35:=zf0 (zuh h) _ _ _
theorem zAZ {ds:List Inp} {x:Inp} {rs:List Inp} (h:∀ y ∈ ds++x::rs,y.pv.length=33) (w:List (List V)):∀ e ∈ rws ds x w rs,e.length=35:=by
 intro e he
 unfold rws at he
 rcases List.mem_append.1 he with h1 | h1
 ·obtain ⟨y,hy,rfl⟩:=List.mem_map.1 h1
  exact zsE (h y (List.mem_append.2 (.inl hy))) _
 ·rcases List.mem_cons.1 h1 with rfl | h1
  ·exact zsE (h x (by simp)) _
  ·obtain ⟨y,hy,rfl⟩:=List.mem_map.1 h1
   exact zsE (h y (by simp [hy])) _
theorem zFE (ds:List Inp) (x:Inp) (w:List (List V)) (rs:List Inp):(rws ds x w rs)[ds.length]?=some (zo3 x w):=by
 unfold rws
 rw [List.getElem?_append_right (by simp)]
 simp
theorem zIS {x:Inp} (h:x.pv.length=33) (w:List (List V)):(zo3 x w)[34]?=some (V.gs 1 w):=by
 unfold zo3 zcy
 rw [List.getElem?_append_right (by rw [zuh h]; omega),zuh h]
 rfl
theorem zJl (n:Nat):(0+((Int.toNat ((n:Nat):Int)) * 35))+34=n * 35+34:=by rw [Int.toNat_natCast]; omega
theorem zF5 {ds:List Inp} {x:Inp} {rs:List Inp} (h:∀ y ∈ ds++x::rs,y.pv.length=33) (w:List (List V)):(fl ds x w rs).length=(ds.length+1+rs.length) * 35:=by
 unfold fl
 rw [zA6 (zAZ h w)]
 simp [rws]
 omega
theorem zJo {ds:List Inp} {x:Inp} {rs:List Inp} (h:∀ y ∈ ds++x::rs,y.pv.length=33) (w:List (List V)) (k:List (List V)→Option β):cG 1 (fl ds x w rs) (ds.length * 35+34) k=k w:=by
 unfold cG zcJ fl
 rw [zGD (by decide) (zAZ h w) (by decide:34 < 35) (zFE ds x w rs),zIS (h x (by simp))]
 show chk (1=1) (k w)=k w
 exact xl rfl _
theorem zFi {ds:List Inp} {x:Inp} {rs:List Inp} (h:∀ y ∈ ds++x::rs,y.pv.length=33) (w w':List (List V)) (u:V):List.set (List.set (fl ds x w rs) (ds.length * 35+34) u) (ds.length * 35+34) (V.gs 1 w')=fl ds x w' rs:=by
 have hl:=zF5 h w
 rw [List.set_set,← zpX (by omega)]
 unfold fl
 rw [zHD (by decide) (zAZ h w) (by decide:34 < 35) (zFE ds x w rs)]
 congr 1
 unfold rws
 rw [List.set_append_right _ _ (by simp),List.length_map,Nat.sub_self,List.set_cons_zero]
 congr 2
 unfold zo3 zcy
 rw [List.set_append_right _ _ (by rw [zuh (h x (by simp))]; omega),zuh (h x (by simp))]
 rfl
theorem zJn (d:Nat→Bool) (x:Inp) (w:List (List V)):∀ c ∈ zo3 x w,zid d c=c:=by
 intro c hc
 unfold zo3 zcy at hc
 rcases List.mem_append.1 hc with h | h
 ·unfold row at h
  obtain ⟨y,_,rfl⟩:=List.mem_map.1 h
  rfl
 ·simp only [List.mem_cons,List.not_mem_nil,or_false] at h
  rcases h with rfl | rfl | rfl <;> rfl
theorem zCK (kb:List Bool) {es:List (List V)} (h:∀ e ∈ es,∃ x w,e=zo3 x w):zbv kb es.flatten=es.flatten:=by
 unfold zbv
 have:∀ c ∈ es.flatten,zid (fun id=>!(kb.getD id false)) c=c:=by
  intro c hc
  obtain ⟨e,he,hc⟩:=List.mem_flatten.1 hc
  obtain ⟨x,w,rfl⟩:=h e he
  exact zJn _ x w c hc
 rw [List.map_congr_left this,List.map_id']
theorem zrE (kb:List Bool) (ds:List Inp) (x:Inp) (w:List (List V)) (rs:List Inp):zbv kb (fl ds x w rs)=fl ds x w rs:=by
 refine zCK kb ?_
 intro e he
 unfold rws at he
 rcases List.mem_append.1 he with h1 | h1
 ·obtain ⟨y,hy,rfl⟩:=List.mem_map.1 h1
  exact ⟨y,_,rfl⟩
 ·rcases List.mem_cons.1 h1 with rfl | h1
  ·exact ⟨x,w,rfl⟩
  ·obtain ⟨y,hy,rfl⟩:=List.mem_map.1 h1
   exact ⟨y,_,rfl⟩
theorem zyC (kb:List Bool) (xs:List Inp):zbv kb (xs.map zb2).flatten=(xs.map zb2).flatten:=by
 refine zCK kb ?_
 intro e he
 obtain ⟨y,hy,rfl⟩:=List.mem_map.1 he
 exact ⟨y,_,rfl⟩
section
variable {L:Nat} (p1:Int) (pl:Nat) (p72 p73 zKH:Int) (zKI zKJ:List (List V)) (zKK zKL:Int) (nl:Nat) (zKN:List (List V)) (zKM:Int)
variable {ds:List Inp} {x:Inp} {rs:List Inp} (hW:∀ y ∈ ds++x::rs,y.pv.length=33) (hnl:nl=ds.length+1+rs.length)
include hW hnl
theorem zA9 {c i:Nat} (hi:i < c) (hc:c≤32) (w J:List (List V)) (hw:w.length≤64) (at_ f:Int) (kh:zbl β) (kx:zfj β) :
  yW xa zd ya za xc L p1 ((ds.length:Nat):Int) pl p72 p73 (c:Int) (i:Int) zKH zKI zKJ zKK zKL nl zKN zKM J at_ f (fl ds x w rs) kh kx =
  xc β L (520:Int) J at_ f
   (fun v83 v84 v85 v86=>kh p1 ((ds.length:Nat):Int) pl p72 p73 (c:Int) ((i+1:Nat):Int) zKH zKI zKJ zKK zKL nl zKN zKM v84 v85 v86 (fl ds x (w++[[(V.sl 1 v83)]]) rs))
   (fun v83 v84 v85 v86=>kh p1 ((ds.length:Nat):Int) pl p72 p73 (c:Int) ((i+1:Nat):Int) zKH zKI zKJ zKK zKL nl zKN zKM v84 v85 v86 (fl ds x (w++[[(V.sl 1 v83)]]) rs)):=by
 have hs:(100000000:Nat)≤zk:=by decide
 have hl:=zF5 hW w
 have hch:∀ v:V,xi 1 1 [v]=[[v]]:=fun v=>rfl
 unfold yW
 rw [xN (by omega),xl (by omega),zJl,zJo hW]
 congr 1
 ·funext v83 v84 v85 v86
  rw [hch,xl (by simp only [List.length_cons,List.length_nil]; omega),yp,xl (by omega),xl (by rw [List.length_set]; omega),yp,zaI (by omega),zFi hW,zrE]
 ·funext v83 v84 v85 v86
  rw [hch,xl (by simp only [List.length_cons,List.length_nil]; omega),yp,xl (by omega),xl (by rw [List.length_set]; omega),yp,zaI (by omega),zFi hW,zrE]
theorem zDu {c i:Nat} (hi:¬ i < c) (w J:List (List V)) (at_ f:Int) (kh:zbl β) (kx:zfj β) :
  yW xa zd ya za xc L p1 ((ds.length:Nat):Int) pl p72 p73 (c:Int) (i:Int) zKH zKI zKJ zKK zKL nl zKN zKM J at_ f (fl ds x w rs) kh kx=kx p1 pl p72 p73 zKH zKI zKJ zKK zKL nl zKN zKM J at_ f (fl ds x w rs):=by
 unfold yW
 rw [zA (by omega),zrE]
theorem zyZ {c:Nat} (hc:c≤32) (J:List (List V)) (at_:Int) {e:Int} (he:e≠0) (kx:zfj β):∀ (m i:Nat) (w:List (List V)),w.length=i→i≤c→c - i < m →
  ∃ b':List V,zE xa zd ya za xc L kx m p1 ((ds.length:Nat):Int) pl p72 p73 (c:Int) (i:Int) zKH zKI zKJ zKK zKL nl zKN zKM J at_ e (fl ds x w rs)=kx p1 pl p72 p73 zKH zKI zKJ zKK zKL nl zKN zKM J at_ e b'
 | 0,i,w,h1,h2,h3=>by omega
 | m+1,i,w,h1,h2,h3=>by
  by_cases hi:i < c
  ·obtain ⟨b',e2⟩:=zyZ hc J at_ he kx m (i+1) (w++[[(V.sl 1 [])]]) (by simp [h1]) (by omega) (by omega)
   refine ⟨b',?_⟩
   rw [zE,zA9 (hW:=hW) (hnl:=hnl) (hi:=hi) (hc:=hc) (hw:=by omega),zw7 L J he]
   exact e2
  ·refine ⟨fl ds x w rs,?_⟩
   rw [zE,zDu (hW:=hW) (hnl:=hnl) (hi:=hi)]
variable (hL:20≤L) {j:List Int} (hb:Byt j) (hj:j.length≤100000000)
include hL hb hj
theorem zFw {c:Nat} (hc:c≤32) (kx:zfj β):∀ (m i a:Nat) (ws:List (List Int)),ws.length=i→i≤c→c - i < m→a≤j.length →
  (∃ ys a',zfh j (c - i) a=.ok (ys,a')∧zE xa zd ya za xc L kx m p1 ((ds.length:Nat):Int) pl p72 p73 (c:Int) (i:Int) zKH zKI zKJ zKK zKL nl zKN zKM (xn .u8 j) (a:Int) 0 (fl ds x (zaD ws) rs)=kx p1 pl p72 p73 zKH zKI zKJ zKK zKL nl zKN zKM (xn .u8 j) (a':Int) 0 (fl ds x (zaD (ws++ys)) rs)) ∨
  (∃ e at_ b',zfh j (c - i) a=.error e∧e≠0∧zE xa zd ya za xc L kx m p1 ((ds.length:Nat):Int) pl p72 p73 (c:Int) (i:Int) zKH zKI zKJ zKK zKL nl zKN zKM (xn .u8 j) (a:Int) 0 (fl ds x (zaD ws) rs)=kx p1 pl p72 p73 zKH zKI zKJ zKK zKL nl zKN zKM (xn .u8 j) at_ e b')
 | 0,i,a,ws,h1,h2,h3,ha=>by omega
 | m+1,i,a,ws,h1,h2,h3,ha=>by
  by_cases hi:i < c
  ·have hn1:c - i=(c - (i+1))+1:=by omega
   have hwl:(zaD ws).length=i:=by simp [zaD,h1]
   rw [hn1,zE,zA9 (hW:=hW) (hnl:=hnl) (hi:=hi) (hc:=hc) (hw:=by omega),zHO hL hb hj ha]
   cases e1:zc8 j 520 a with
   | error e =>
    have he:=zmS e1
    obtain ⟨b',q2⟩:=zyZ p1 pl p72 p73 zKH zKI zKJ zKK zKL nl zKN zKM hW hnl hc (xn .u8 j) (a:Int) he kx m (i+1) (zaD ws++[[(V.sl 1 [])]]) (by simp [hwl]) (by omega) (by omega)
    refine .inr ⟨e,(a:Int),b',by simp only [zfh,e1],he,?_⟩
    rw [zb3]
    exact q2
   | ok p =>
    obtain ⟨s,a1⟩:=p
    have k1:=(zjU e1).1
    have hrow:zaD ws++[[(V.sl 1 (xn .u8 s))]]=zaD (ws++[s]):=by simp [zaD]
    rw [zbS,hrow]
    rcases zFw hc kx m (i+1) a1 (ws++[s]) (by simp [h1]) (by omega) (by omega) k1 with ⟨ys,a',q1,q2⟩ | ⟨e,at_,b',q1,q2,q3⟩
    ·refine .inl ⟨s::ys,a',by simp only [zfh,e1,q1],?_⟩
     rw [q2,List.append_assoc]
     rfl
    ·exact .inr ⟨e,at_,b',by simp only [zfh,e1,q1],q2,q3⟩
  ·have hn0:c - i=0:=by omega
   refine .inl ⟨[],a,by rw [hn0]; rfl,?_⟩
   rw [zE,zDu (hW:=hW) (hnl:=hnl) (hi:=hi),List.append_nil]
end
end
section
set_option linter.unusedVariables false
set_option linter.unusedSimpArgs false
set_option linter.unusedSectionVars false
set_option maxRecDepth 100000
variable {β:Type}
theorem zD6 (ds:List Inp) (x:Inp) (w:List (List Int)) (rs:List Inp):fl ds x (zaD w) rs=((ds++{ x with wit:=w }::rs).map zb2).flatten:=by
 simp [fl,rws,zFC,zo3]
theorem zJr (ds:List Inp) (x:Inp) (hx:x.wit=[]) (rs:List Inp):((ds++x::rs).map zb2).flatten=fl ds x (zaD []) rs:=by
 rw [zD6,← hx]
theorem zyx {j:List Int}:∀ (n a:Nat) {a':Nat} {ys:List (List Int)},a≤j.length→zfh j n a=.ok (ys,a')→a'≤j.length
 | 0,a,a',ys,ha,h=>by simp only [zfh] at h; cases h; exact ha
 | n+1,a,a',ys,ha,h=>by
  rw [zfh] at h
  split at h
  ·cases h
  ·rename_i x a1 hz
   split at h
   ·cases h
   ·rename_i xs a2 hz2
    cases h
    exact zyx n a1 (zjU hz).1 hz2
section
variable {L:Nat} (p1:Int) (pl:Nat) (zKH:Int) (zKI zKJ:List (List V)) (zKK zKL:Int) (nl:Nat) (zKN:List (List V)) (zKM:Int)
theorem zBs {n:Nat} (hL:20≤L) (hn:n≤64) (J:List (List V)) (at_:Int) {e:Int} (he:e≠0) (kx:zi3 β):∀ (m i:Nat) (F:List V),i≤n→n - i < m →
  ∃ b':List V,yH xa zd ya za xc L kx m p1 pl (n:Int) (i:Int) zKH zKI zKJ zKK zKL nl zKN zKM J at_ e F=kx p1 pl zKH zKI zKJ zKK zKL nl zKN zKM J at_ e b'
 | 0,i,F,h2,h3=>by omega
 | m+1,i,F,h2,h3=>by
  rw [yH]
  unfold zbf zb5
  by_cases hi:i < n
  ·obtain ⟨l,hl⟩:∃ l,L=l+1:=⟨L - 1,by omega⟩
   rw [xN (by omega),zBD L J he]
   have key:∀ (kx6:zfj β) (F:List V),∃ b',zE xa zd ya za xc L kx6 L p1 (i:Int) pl (n:Int) (i:Int) 0 0 zKH zKI zKJ zKK zKL nl zKN zKM J at_ e F=kx6 p1 pl (n:Int) (i:Int) zKH zKI zKJ zKK zKL nl zKN zKM J at_ e b':=by
    intro kx6 F
    generalize hg:L=L'
    rw [hl] at hg
    subst hg
    rw [zE]
    unfold yW
    rw [zA (by omega)]
    exact ⟨_,rfl⟩
   obtain ⟨b1,q1⟩:=key (fun p1 p71l p72 p73 zKH zKI zKJ zKK zKL zKS zKN zKM zKQ zKO zKP b71=>xE xa zd ya za xc L p1 p71l p72 p73 zKH zKI zKJ zKK zKL zKS zKN zKM zKQ zKO zKP b71 (fun p1 p71l p72 p73 zKH zKI zKJ zKK zKL zKS zKN zKM zKQ zKO zKP b71=>yH xa zd ya za xc L kx m p1 p71l p72 p73 zKH zKI zKJ zKK zKL zKS zKN zKM zKQ zKO zKP b71)) (zbv (bl 680564733833211346651751552939242551295 129) F)
   have r:∀ F:List V,∃ b',xE xa zd ya za xc L p1 pl (n:Int) (i:Int) zKH zKI zKJ zKK zKL nl zKN zKM J at_ e F (fun p1 p71l p72 p73 zKH zKI zKJ zKK zKL zKS zKN zKM zKQ zKO zKP b71=>yH xa zd ya za xc L kx m p1 p71l p72 p73 zKH zKI zKJ zKK zKL zKS zKN zKM zKQ zKO zKP b71)=kx p1 pl zKH zKI zKJ zKK zKL nl zKN zKM J at_ e b':=by
    intro F
    unfold xE
    rw [zaI (by omega),yp]
    exact zBs hL hn J at_ he kx m (i+1) _ (by omega) (by omega)
   obtain ⟨b2,q2⟩:=r b1
   exact ⟨b2,q1.trans q2⟩
  ·rw [zA (by omega)]
   exact ⟨_,rfl⟩
variable (hL:1000≤L) {j:List Int} (hb:Byt j) (hj:j.length≤100000000)
include hL hb hj
theorem zHT (hnl:nl≤64) (kx:zi3 β):∀ (m a:Nat) (rs ds:List Inp),(∀ y ∈ ds++rs,y.pv.length=33)→(∀ y ∈ rs,y.wit=[])→nl=ds.length+rs.length→rs.length < m→a≤j.length →
  (∃ ys a',zcB j rs a=.ok (ys,a')∧yH xa zd ya za xc L kx m p1 pl (nl:Int) ((ds.length:Nat):Int) zKH zKI zKJ zKK zKL nl zKN zKM (xn .u8 j) (a:Int) 0 ((ds++rs).map zb2).flatten=kx p1 pl zKH zKI zKJ zKK zKL nl zKN zKM (xn .u8 j) (a':Int) 0 ((ds++ys).map zb2).flatten) ∨
  (∃ e at_ b',zcB j rs a=.error e∧e≠0∧yH xa zd ya za xc L kx m p1 pl (nl:Int) ((ds.length:Nat):Int) zKH zKI zKJ zKK zKL nl zKN zKM (xn .u8 j) (a:Int) 0 ((ds++rs).map zb2).flatten=kx p1 pl zKH zKI zKJ zKK zKL nl zKN zKM (xn .u8 j) at_ e b')
 | 0,a,rs,ds,hW,hw,h1,h2,ha=>by omega
 | m+1,a,[],ds,hW,hw,h1,h2,ha=>by
  refine .inl ⟨[],a,rfl,?_⟩
  rw [yH]
  unfold zbf zb5
  rw [zA (by simp only [List.length_nil] at h1; omega),zyC]
 | m+1,a,x::rs,ds,hW,hw,h1,h2,ha=>by
  simp only [List.length_cons] at h1 h2
  have hx:=hw x (by simp)
  have hL20:20≤L:=by omega
  rw [yH]
  unfold zbf zb5
  rw [xN (by omega),zJ9 hL20 hb hj ha,zyC,zJr ds x hx rs]
  have bad:∀ {e:Int} (he:e≠0) (at_:Int) (F:List V),∃ b':List V,xE xa zd ya za xc L p1 pl (nl:Int) ((ds.length:Nat):Int) zKH zKI zKJ zKK zKL nl zKN zKM (xn .u8 j) at_ e F (fun p1 p71l p72 p73 zKH zKI zKJ zKK zKL zKS zKN zKM zKQ zKO zKP b71=>yH xa zd ya za xc L kx m p1 p71l p72 p73 zKH zKI zKJ zKK zKL zKS zKN zKM zKQ zKO zKP b71)=kx p1 pl zKH zKI zKJ zKK zKL nl zKN zKM (xn .u8 j) at_ e b':=by
   intro e he at_ F
   unfold xE
   rw [zaI (by omega),yp]
   exact zBs p1 pl zKH zKI zKJ zKK zKL nl zKN zKM hL20 hnl _ at_ he kx m _ _ (by omega) (by omega)
  cases e1:zcd j 32 a with
  | error e =>
   have he:=zgb e1
   rw [zb3]
   obtain ⟨b',q⟩:=zyZ p1 pl (nl:Int) ((ds.length:Nat):Int) zKH zKI zKJ zKK zKL nl zKN zKM hW (by omega) (c:=0) (by decide) (xn .u8 j) (a:Int) he (fun p1 p71l p72 p73 zKH zKI zKJ zKK zKL zKS zKN zKM zKQ zKO zKP b71=>xE xa zd ya za xc L p1 p71l p72 p73 zKH zKI zKJ zKK zKL zKS zKN zKM zKQ zKO zKP b71 (fun p1 p71l p72 p73 zKH zKI zKJ zKK zKL zKS zKN zKM zKQ zKO zKP b71=>yH xa zd ya za xc L kx m p1 p71l p72 p73 zKH zKI zKJ zKK zKL zKS zKN zKM zKQ zKO zKP b71)) L 0 (zaD []) rfl (by omega) (by omega)
   obtain ⟨b2,q2⟩:=bad he (a:Int) b'
   refine .inr ⟨e,(a:Int),b2,by simp only [zcB,e1],he,?_⟩
   exact q.trans q2
  | ok p =>
   obtain ⟨n,a1⟩:=p
   obtain ⟨k1,k2⟩:=zcK e1
   rw [zbS]
   rcases zFw p1 pl (nl:Int) ((ds.length:Nat):Int) zKH zKI zKJ zKK zKL nl zKN zKM hW (by omega) hL20 hb hj k2 (fun p1 p71l p72 p73 zKH zKI zKJ zKK zKL zKS zKN zKM zKQ zKO zKP b71=>xE xa zd ya za xc L p1 p71l p72 p73 zKH zKI zKJ zKK zKL zKS zKN zKM zKQ zKO zKP b71 (fun p1 p71l p72 p73 zKH zKI zKJ zKK zKL zKS zKN zKM zKQ zKO zKP b71=>yH xa zd ya za xc L kx m p1 p71l p72 p73 zKH zKI zKJ zKK zKL zKS zKN zKM zKQ zKO zKP b71)) L 0 a1 [] rfl (by omega) (by omega) k1 with ⟨ws,a2,q1,q2⟩ | ⟨e,at_,b',q1,q2,q3⟩
   ·have k3:a2≤j.length:=zyx _ _ k1 q1
    rw [List.nil_append] at q2
    rw [Nat.sub_zero] at q1
    have hW':∀ y ∈ (ds++[{ x with wit:=ws }])++rs,y.pv.length=33:=by
     intro y hy
     rw [List.append_assoc] at hy
     rcases List.mem_append.1 hy with h | h
     ·exact hW y (by simp [h])
     ·rcases List.mem_cons.1 h with rfl | h
      ·exact hW x (by simp)
      ·exact hW y (by simp at h; simp [h])
    rcases zHT hnl kx m a2 rs (ds++[{ x with wit:=ws }]) hW' (fun y hy=>hw y (by simp [hy])) (by simp; omega) (by omega) k3 with ⟨ys,a',r1,r2⟩ | ⟨e,at_,b',r1,r2,r3⟩
    ·refine .inl ⟨{ x with wit:=ws }::ys,a',by simp only [zcB,e1,q1,r1],?_⟩
     refine q2.trans ?_
     unfold xE
     rw [zaI (by omega),yp,zrE,zD6]
     rw [List.append_assoc,List.append_assoc] at r2
     refine Eq.trans ?_ r2
     simp only [List.length_append,List.length_cons,List.length_nil,List.singleton_append,Nat.zero_add]
    ·refine .inr ⟨e,at_,b',by simp only [zcB,e1,q1,r1],r2,?_⟩
     refine q2.trans ?_
     unfold xE
     rw [zaI (by omega),yp,zrE,zD6]
     rw [List.append_assoc] at r3
     refine Eq.trans ?_ r3
     simp only [List.length_append,List.length_cons,List.length_nil,List.singleton_append,Nat.zero_add]
   ·obtain ⟨b2,r2⟩:=bad q2 at_ b'
    rw [Nat.sub_zero] at q1
    exact .inr ⟨e,at_,b2,by simp only [zcB,e1,q1],q2,q3.trans r2⟩
end
end
section
set_option linter.unusedVariables false
set_option linter.unusedSimpArgs false
set_option linter.unusedSectionVars false
set_option maxRecDepth 100000
variable {β:Type}
def zqS:List V:=[(V.sc (.int .u32 (0:Int))),(V.sl 35 ([]:List (List V))),(V.sl 2 ([]:List (List V))),(V.sc (.int .u32 (0:Int)))]
theorem zsc (k:Option β):chk (0=0∧(List.length zqS)=4∧4≠0) k=k:=xl (by simp [zqS]) k
theorem zww {l:List Int} (h:32≤l.length):List.take 32 l=(List.range 32).map (fun i=>l.getD i 0):=by
 apply List.ext_getElem
 ·simp; omega
 ·intro i h1 h2
  simp at h1 h2 ⊢
  rw [List.getElem?_eq_getElem (by omega)]
  rfl
theorem zEj {x:Inp} (h:x.pv.length=33):(zb2 x).mapM V.plain=some (zaG x):=by
 unfold zb2
 rw [zww (by omega)]
 rfl
theorem zFa {f:V→Option V}:∀ {l m l' m':List V},l.mapM f=some l'→m.mapM f=some m'→(l++m).mapM f=some (l'++m'):=by
 intro l m l' m' h1 h2
 rw [List.mapM_append,h1,h2]
 rfl
theorem zx3:∀ {xs:List Inp},(∀ y ∈ xs,y.pv.length=33)→((xs.map zb2).flatten).mapM V.plain=some (xs.map zaG).flatten
 | [],_=>rfl
 | x::xs,h=>by
  rw [List.map_cons,List.flatten_cons,List.map_cons,List.flatten_cons]
  exact zFa (zEj (h x (by simp))) (zx3 (fun y hy=>h y (by simp [hy])))
theorem zDg (xs:List Inp):xi 35 xs.length (xs.map zaG).flatten=xs.map zaG:=by
 have:=zwf (sz:=35) (es:=xs.map zaG) (fun e he=>by obtain ⟨y,_,rfl⟩:=List.mem_map.1 he; exact zjM y)
 rwa [List.length_map] at this
theorem zGU {xs:List Inp} (h:(xs.map zb2).flatten=[]) (hW:∀ y ∈ xs,y.pv.length=33):xs=[]:=by
 cases xs with
 | nil=>rfl
 | cons x xs =>
  rw [List.map_cons,List.flatten_cons] at h
  have:=zsE (hW x (by simp)) (zaD x.wit)
  rw [List.append_eq_nil_iff] at h
  rw [← zFC,h.1] at this
  cases this
theorem zvC {j:List Int}:∀ (n a:Nat) {a':Nat} {ys:List Inp},a≤j.length→zfP j n a=.ok (ys,a')→a'≤j.length∧ys.length=n∧(∀ y ∈ ys,y.pv.length=33)∧∀ y ∈ ys,y.wit=[]
 | 0,a,a',ys,ha,h=>by simp only [zfP] at h; cases h; exact ⟨ha,rfl,by simp,by simp⟩
 | n+1,a,a',ys,ha,h=>by
  rw [zfP] at h
  split at h
  ·cases h
  ·rename_i x a1 hz
   split at h
   ·cases h
   ·rename_i xs a2 hz2
    cases h
    unfold gIn at hz
    split at hz
    ·cases hz
    ·rename_i hh b1 z1
     split at hz
     ·cases hz
     ·rename_i ix b2 z2
      split at hz
      ·cases hz
      ·rename_i sq b3 z3
       cases hz
       obtain ⟨r1,r2,r3,r4⟩:=zvC n _ (zk9 z3) hz2
       have hl:=(zsY z1).2
       refine ⟨r1,by simp [r2],?_,?_⟩
       ·intro y hy
        rcases List.mem_cons.1 hy with rfl | hy
        ·simp [hl]
        ·exact r3 y hy
       ·intro y hy
        rcases List.mem_cons.1 hy with rfl | hy
        ·rfl
        ·exact r4 y hy
theorem zBv {j:List Int}:∀ (n a:Nat) {a':Nat} {ys:List Outp},a≤j.length→zch j n a=.ok (ys,a')→a'≤j.length
 | 0,a,a',ys,ha,h=>by simp only [zch] at h; cases h; exact ha
 | n+1,a,a',ys,ha,h=>by
  rw [zch] at h
  split at h
  ·cases h
  ·rename_i x a1 hz
   split at h
   ·cases h
   ·rename_i xs a2 hz2
    cases h
    exact zBv n a1 (zIn hz) hz2
theorem zBa {j:List Int}:∀ (xs:List Inp) (a:Nat) {a':Nat} {ys:List Inp},a≤j.length→(∀ y ∈ xs,y.pv.length=33)→zcB j xs a=.ok (ys,a')→a'≤j.length∧ys.length=xs.length∧∀ y ∈ ys,y.pv.length=33
 | [],a,a',ys,ha,hW,h=>by simp only [zcB] at h; cases h; exact ⟨ha,rfl,by simp⟩
 | x::xs,a,a',ys,ha,hW,h=>by
  rw [zcB] at h
  split at h
  ·cases h
  ·rename_i n a1 hz
   split at h
   ·cases h
   ·rename_i w a2 hz2
    split at h
    ·cases h
    ·rename_i zs a3 hz3
     cases h
     obtain ⟨r1,r2,r3⟩:=zBa xs a2 (zyx _ _ (zcK hz).1 hz2) (fun y hy=>hW y (by simp [hy])) hz3
     refine ⟨r1,by simp [r2],?_⟩
     intro y hy
     rcases List.mem_cons.1 hy with rfl | hy
     ·exact hW x (by simp)
     ·exact r3 y hy
section
variable {L:Nat} (p1:Int) (pl:Nat) (zKH:Int) (zKI zKJ:List (List V)) (zKK zKL:Int) (nl:Nat) (zKN:List (List V)) (zKM:Int)
theorem zBB (J:List (List V)) (at_:Int) {e:Int} (he:e≠0) (F:List V) (k:List V→Int→Int→Option β) :
  xW xa zd ya za xc L p1 pl zKH zKI zKJ zKK zKL nl zKN zKM J at_ e F k=k zqS 0 e:=by
 unfold xW
 rw [zcW he,zB,if_neg he,yp]
 exact zsc _
theorem zII (a0 a:Nat) (h0:a0≤100000000) (h1:a≤100000000) (J:List (List V)) (xs:List Inp) (os:List Outp) (hn:nl=xs.length) (hW:∀ y ∈ xs,y.pv.length=33) (k:List V→Int→Int→Option β) :
  xW xa zd ya za xc L (a0:Int) pl zKH zKI zKJ zKK zKL nl (os.map zbt) zKM J (a:Int) 0 (xs.map zb2).flatten k=if a - a0 > 20000 then k zqS 0 4 else k (zbi ⟨zKL,xs,os,zKM⟩) (a:Int) 0:=by
 unfold xW
 rw [zcY rfl,zak (by omega) (by omega),yp,zcN]
 by_cases h:a - a0 > 20000
 ·rw [if_pos (by omega),if_pos h,yp]
  exact zsc _
 ·rw [if_neg (by omega),if_neg h,zB,if_pos rfl]
  have hp:=zx3 hW
  cases hF:(xs.map zb2).flatten with
  | nil =>
   have hx:=zGU hF hW
   subst hx
   have:nl=0:=hn
   show chk (nl=0) _=_
   rw [xl this,yp,xl (by simp)]
   rfl
  | cons c cs =>
   rw [hF] at hp
   show zdf (c::cs) _=_
   unfold zdf
   rw [hp]
   show lt _ _=_
   rw [yp,xl (by simp),hn,zDg,zHf ⟨zKL,xs,os,zKM⟩]
end
section
variable {L:Nat} (hL:1000≤L) {j:List Int} (hb:Byt j) (hj:j.length≤100000000)
include hL hb hj
theorem zB4 {a:Nat} (ha:a≤j.length) (k:List V→Int→Int→Option β):zad β L (xn .u8 j) (a:Int) k=zim (gTx j a) (fun t a'=>k (zbi t) (a':Int) 0) (fun e=>k zqS 0 e):=by
 have hL20:20≤L:=by omega
 have t4:∀ {e:Int} (he:e≠0) (pl:Nat) (zKH:Int) (zKI zKJ:List (List V)) (zKK zKL:Int) (nl:Nat) (zKN:List (List V)) (zKM at_:Int) (F:List V),nl≤64→yH xa zd ya za xc L (fun p1 p71l zKH zKI zKJ zKK zKL zKS zKN zKM zKQ zKO zKP b71=>xW xa zd ya za xc L p1 p71l zKH zKI zKJ zKK zKL zKS zKN zKM zKQ zKO zKP b71 k) L (a:Int) pl (nl:Int) ((0:Nat):Int) zKH zKI zKJ zKK zKL nl zKN zKM (xn .u8 j) at_ e F=k zqS 0 e:=by
  intro e he pl zKH zKI zKJ zKK zKL nl zKN zKM at_ F hn
  obtain ⟨b',q⟩:=zBs (β:=β) (a:Int) pl zKH zKI zKJ zKK zKL nl zKN zKM hL20 hn (xn .u8 j) at_ he (fun p1 p71l zKH zKI zKJ zKK zKL zKS zKN zKM zKQ zKO zKP b71=>xW xa zd ya za xc L p1 p71l zKH zKI zKJ zKK zKL zKS zKN zKM zKQ zKO zKP b71 k) L 0 F (by omega) (by omega)
  exact q.trans (zBB _ _ _ _ _ _ _ _ _ _ _ _ he _ k)
 have t2:∀ {e:Int} (he:e≠0) (zKH:Int) (zKI zKJ:List (List V)) (zKK zKL:Int) (R zKN:List (List V)) (zKM at_:Int),R.length≤64→z4 xa zd ya za xc L (a:Int) zKH zKI zKJ zKK zKL R zKN zKM (xn .u8 j) at_ e k=k zqS 0 e:=by
  intro e he zKH zKI zKJ zKK zKL R zKN zKM at_ hR
  unfold z4 zdi
  rw [zrf L _ he,yp]
  exact t4 he _ _ _ _ _ _ _ _ _ _ _ hR
 have t0:∀ {e:Int} (he:e≠0) (zKH:Int) (zKI zKJ:List (List V)) (zKK zKL:Int) (R:List (List V)) (zKM at_:Int),R.length≤64→z9 xa zd ya za xc L (a:Int) zKH zKI zKJ zKK zKL R [] zKM (xn .u8 j) at_ e k=k zqS 0 e:=by
  intro e he zKH zKI zKJ zKK zKL R zKM at_ hR
  unfold z9 zdI
  rw [zBD L _ he]
  obtain ⟨O',q⟩:=zs2 (β:=β) (L:=L) (a:Int) zKH zKI zKJ zKK zKL R zKM (n:=0) (by decide) (xn .u8 j) at_ he (fun p1 zKH zKI zKJ zKK zKL zKT zKN zKM zKQ zKO zKP=>z4 xa zd ya za xc L p1 zKH zKI zKJ zKK zKL zKT zKN zKM zKQ zKO zKP k) L 0 [] rfl (by omega) (by omega)
  exact q.trans (t2 he _ _ _ _ _ _ _ _ _ hR)
 have tI:∀ {e:Int} (he:e≠0) (v at_:Int),yV xa zd ya za xc L (fun p1 zKH zKI zKJ zKK zKL zKT zKN zKM zKQ zKO zKP=>z9 xa zd ya za xc L p1 zKH zKI zKJ zKK zKL zKT zKN zKM zKQ zKO zKP k) L (a:Int) 0 0 0 [] [] 0 v [] [] 0 (xn .u8 j) at_ e=k zqS 0 e:=by
  intro e he v at_
  obtain ⟨R',q0,q⟩:=zy4 (β:=β) (L:=L) (a:Int) 0 [] [] 0 v [] 0 (n:=0) (by decide) (xn .u8 j) at_ he (fun p1 zKH zKI zKJ zKK zKL zKT zKN zKM zKQ zKO zKP=>z9 xa zd ya za xc L p1 zKH zKI zKJ zKK zKL zKT zKN zKM zKQ zKO zKP k) L 0 [] rfl (by omega) (by omega)
  exact q.trans (t0 he _ _ _ _ _ _ _ _ (by omega))
 unfold zad zpO zuF
 rw [zAV hL20 hb hj ha]
 unfold gTx
 cases e1:gN j 4 a with
 | error e =>
  have he:=zmr e1
  rw [zb3,zBD L _ he]
  exact tI he _ _
 | ok p =>
  obtain ⟨ver,a1⟩:=p
  have h1:=zk9 e1
  rw [zbS,zJz hL20 hb hj h1]
  cases e2:zcd j 64 a1 with
  | error e =>
   have he:=zgb e2
   rw [zb3]
   simp only [e2]
   exact tI he _ _
  | ok p =>
   obtain ⟨n,a2⟩:=p
   obtain ⟨h2,hn⟩:=zcK e2
   rw [zbS]
   simp only [e2]
   rcases zFK hL20 hb hj (a:Int) 0 [] [] 0 (ver:Int) [] 0 hn (fun p1 zKH zKI zKJ zKK zKL zKT zKN zKM zKQ zKO zKP=>z9 xa zd ya za xc L p1 zKH zKI zKJ zKK zKL zKT zKN zKM zKQ zKO zKP k) L 0 a2 [] rfl (by omega) (by omega) h2 with ⟨xs,a3,q1,q2⟩ | ⟨e,R,at_,q1,q2,q3,q4⟩
   ·rw [Nat.sub_zero] at q1
    rw [List.nil_append] at q2
    obtain ⟨h3,hx1,hx2,hx3⟩:=zvC n a2 h2 q1
    refine Eq.trans q2 ?_
    simp only [q1]
    unfold z9 zdI
    rw [zJz hL20 hb hj h3]
    cases e4:zcd j 64 a3 with
    | error e =>
     have he:=zgb e4
     rw [zb3]
     obtain ⟨O',q⟩:=zs2 (β:=β) (L:=L) (a:Int) 0 [] [] 0 (ver:Int) (xs.map zb2) 0 (n:=0) (by decide) (xn .u8 j) (a3:Int) he (fun p1 zKH zKI zKJ zKK zKL zKT zKN zKM zKQ zKO zKP=>z4 xa zd ya za xc L p1 zKH zKI zKJ zKK zKL zKT zKN zKM zKQ zKO zKP k) L 0 [] rfl (by omega) (by omega)
     exact q.trans (t2 he _ _ _ _ _ _ _ _ _ (by rw [List.length_map]; omega))
    | ok p =>
     obtain ⟨m,a4⟩:=p
     obtain ⟨h4,hm⟩:=zcK e4
     rw [zbS]
     simp only []
     rcases zDR hL20 hb hj (a:Int) 0 [] [] 0 (ver:Int) (xs.map zb2) 0 hm (fun p1 zKH zKI zKJ zKK zKL zKT zKN zKM zKQ zKO zKP=>z4 xa zd ya za xc L p1 zKH zKI zKJ zKK zKL zKT zKN zKM zKQ zKO zKP k) L 0 a4 [] rfl (by omega) (by omega) h4 with ⟨os,a5,r1,r2⟩ | ⟨e,O,at_,r1,r2,r3⟩
     ·rw [Nat.sub_zero] at r1
      rw [List.nil_append] at r2
      have h5:=zBv m a4 h4 r1
      refine Eq.trans r2 ?_
      simp only [r1]
      unfold z4 zdi
      rw [zAV hL20 hb hj h5]
      cases e6:gN j 4 a5 with
      | error e =>
       have he:=zmr e6
       rw [zb3,yp]
       exact t4 he _ _ _ _ _ _ _ _ _ _ _ (by rw [List.length_map]; omega)
      | ok p =>
       obtain ⟨lk,a6⟩:=p
       have h6:=zk9 e6
       rw [zbS,yp,zyC]
       simp only []
       rcases zHT (β:=β) (a:Int) (xs.map zb2).length 0 [] [] 0 (ver:Int) (xs.map zb2).length (os.map zbt) (lk:Int) hL hb hj (by rw [List.length_map]; omega) (fun p1 p71l zKH zKI zKJ zKK zKL zKS zKN zKM zKQ zKO zKP b71=>xW xa zd ya za xc L p1 p71l zKH zKI zKJ zKK zKL zKS zKN zKM zKQ zKO zKP b71 k) L a6 xs [] (by simpa using hx2) hx3 (by simp) (by omega) h6 with ⟨ys,a7,s1,s2⟩ | ⟨e,at_,b',s1,s2,s3⟩
       ·obtain ⟨h7,hy1,hy2⟩:=zBa xs a6 h6 hx2 s1
        refine Eq.trans s2 ?_
        simp only [s1]
        rw [List.nil_append,zII _ _ _ _ _ _ _ _ _ _ (by omega) (by omega) _ ys os (by rw [List.length_map,hy1]) hy2]
        by_cases hh:a7 - a > 20000
        ·rw [if_pos hh,if_pos hh]; rfl
        ·rw [if_neg hh,if_neg hh]; rfl
       ·refine Eq.trans s3 ?_
        simp only [s1]
        exact zBB _ _ _ _ _ _ _ _ _ _ _ _ s2 _ k
     ·rw [Nat.sub_zero] at r1
      refine Eq.trans r3 ?_
      simp only [r1]
      exact t2 r2 _ _ _ _ _ _ _ _ _ (by rw [List.length_map]; omega)
   ·rw [Nat.sub_zero] at q1
    refine Eq.trans q4 ?_
    simp only [q1]
    exact t0 q2 _ _ _ _ _ _ _ _ (by omega)
end
end
section
set_option linter.unusedVariables false
set_option linter.unusedSimpArgs false
set_option linter.unusedSectionVars false
set_option maxRecDepth 100000
variable {β:Type}
section
variable {L:Nat} (p1:Int) (pl:Nat) (p72 p73 zKH:Int) (zKI zKJ:List (List V)) (zKK zKL:Int) (nl:Nat) (zKN:List (List V)) (zKM:Int)
variable {ds:List Inp} {x:Inp} {rs:List Inp} (hW:∀ y ∈ ds++x::rs,y.pv.length=33) (hnl:nl=ds.length+1+rs.length)
include hW hnl
variable (hL:20≤L) {j:List Int} (hb:Byt j) (hj:j.length≤100000000)
include hL hb hj
end
section
variable {L:Nat} (p1:Int) (pl:Nat) (zKH:Int) (zKI zKJ:List (List V)) (zKK zKL:Int) (nl:Nat) (zKN:List (List V)) (zKM:Int)
variable (hL:1000≤L) {j:List Int} (hb:Byt j) (hj:j.length≤100000000)
include hL hb hj
end
section
variable {L:Nat} (p1:Int) (pl:Nat) (zKH:Int) (zKI zKJ:List (List V)) (zKK zKL:Int) (nl:Nat) (zKN:List (List V)) (zKM:Int)
end
section
variable {L:Nat} (hL:1000≤L) {j:List Int} (hb:Byt j) (hj:j.length≤100000000)
include hL hb hj
end
end
section
set_option linter.unusedVariables false
set_option linter.unusedSimpArgs false
set_option linter.unusedSectionVars false
set_option maxRecDepth 100000
variable {β:Type}
structure SmallT (t:TxT):Prop where
 i:t.ins.length≤64
 o:t.outs.length≤64
 w:∀ x ∈ t.ins,x.wit.length≤32
def zT:TxT:=⟨0,[],[],0⟩
theorem zJi:zbi zT=zqS:=rfl
theorem zwH {j:List Int}:∀ (n a:Nat) {a':Nat} {ys:List (List Int)},zfh j n a=.ok (ys,a')→ys.length=n
 | 0,a,a',ys,h=>by simp only [zfh] at h; cases h; rfl
 | n+1,a,a',ys,h=>by
  rw [zfh] at h
  split at h
  ·cases h
  ·split at h
   ·cases h
   ·rename_i hz2; cases h; simp [zwH n _ hz2]
theorem zt4 {j:List Int}:∀ (n a:Nat) {a':Nat} {ys:List Outp},zch j n a=.ok (ys,a')→ys.length=n
 | 0,a,a',ys,h=>by simp only [zch] at h; cases h; rfl
 | n+1,a,a',ys,h=>by
  rw [zch] at h
  split at h
  ·cases h
  ·split at h
   ·cases h
   ·rename_i hz2; cases h; simp [zt4 n _ hz2]
theorem zwa {j:List Int}:∀ (xs:List Inp) (a:Nat) {a':Nat} {ys:List Inp},zcB j xs a=.ok (ys,a')→ys.length=xs.length∧∀ y ∈ ys,y.wit.length≤32
 | [],a,a',ys,h=>by simp only [zcB] at h; cases h; exact ⟨rfl,by simp⟩
 | x::xs,a,a',ys,h=>by
  rw [zcB] at h
  split at h
  ·cases h
  ·rename_i n a1 hz
   split at h
   ·cases h
   ·rename_i w a2 hz2
    split at h
    ·cases h
    ·rename_i zs a3 hz3
     cases h
     obtain ⟨r2,r3⟩:=zwa xs a2 hz3
     refine ⟨by simp [r2],?_⟩
     intro y hy
     rcases List.mem_cons.1 hy with rfl | hy
     ·have:=(zcK hz).2
      have:=zwH _ _ hz2
      simp only; omega
     ·exact r3 y hy
theorem zE9 {j:List Int} {a a':Nat} (ha:a≤j.length) {t:TxT} (h:gTx j a=.ok (t,a')):SmallT t:=by
 unfold gTx at h
 split at h
 ·cases h
 ·rename_i ver a1 e1
  split at h
  ·cases h
  ·rename_i n a2 e2
   split at h
   ·cases h
   ·rename_i xs a3 e3
    split at h
    ·cases h
    ·rename_i m a4 e4
     split at h
     ·cases h
     ·rename_i os a5 e5
      split at h
      ·cases h
      ·rename_i lk a6 e6
       split at h
       ·cases h
       ·rename_i ys a7 e7
        split at h
        ·cases h
        ·cases h
         obtain ⟨w1,w2⟩:=zwa _ _ e7
         have hx:=(zvC n a2 (zcK e2).1 e3).2.1
         have:=(zcK e2).2
         have:=(zcK e4).2
         have ho:=zt4 m a4 e5
         exact ⟨by simp only; omega,by simp only; omega,w2⟩
section
variable {L:Nat} (hL:1000≤L) {j:List Int} (hb:Byt j) (hj:j.length≤100000000)
include hL hb hj
omit hL hb hj in
theorem zKp (J:List (List V)) (q:Int):∃ v:Int,(∀ k:Int→Option β,zU β L J q k=k v)∧(∀ k:Int→Option β,zc2 β L J q k=k v):=by
 unfold zU zi7 zc2 zwl
 by_cases h1:q < 0
 ·exact ⟨5,fun k=>xN h1 _ _,fun k=>xN h1 _ _⟩
 ·by_cases h2:q > ((List.length J:Nat):Int)
  ·exact ⟨5,fun k=>by rw [zA h1,xN h2],fun k=>by rw [zA h1,xN h2]⟩
  ·by_cases h3:q < ((List.length J:Nat):Int)
   ·exact ⟨2,fun k=>by rw [zA h1,zA h2,xN h3],fun k=>by rw [zA h1,zA h2,xN h3]⟩
   ·exact ⟨0,fun k=>by rw [zA h1,zA h2,zA h3],fun k=>by rw [zA h1,zA h2,zA h3]⟩
omit hL hb hj in
theorem zjJ (t:TxT):zl [(V.sc (.int .u32 (0:Int))),(V.gs 35 ([]:List (List V))),(V.gs 2 ([]:List (List V))),(V.sc (.int .u32 (0:Int)))] 0 (zbi t)=zbi t:=zhe (by rw [zcS]; rfl)
omit hL hb hj in
theorem zIo (t:TxT):List.take 4 (zbi t)=zbi t:=List.take_of_length_le (by rw [zcS]; exact Nat.le_refl _)
end
theorem zBQ:∀ (l:List Int),zdV (xn .u8 l)=some (l.map fun n=>UInt8.ofNat n.toNat)
 | []=>rfl
 | n::l=>by
  have:=zBQ l
  simp only [xn] at this
  simp [xn,zdV,this]
theorem zt7 {L:Nat} (l:List Int) (k:Bool→Option β):xd β L (xn .u8 l) (xn .u8 l) k=k true:=by
 simp only [xd,zom,zyL,zBQ,BEq.rfl]
theorem zof (x:TxT) (k:List (List V)→Option β):cLd 35 (zbi x) 1 k=k (x.ins.map zaG):=zhR rfl k
theorem zoj (x:TxT) (k:List (List V)→Option β):cLd 2 (zbi x) 2 k=k (x.outs.map zbt):=zhR rfl k
theorem zoF (x:Inp) (k:List (List V)→Option β):cLd 1 (zaG x) 34 k=k (zaD x.wit):=zhR rfl k
theorem zDF (x:Outp) (k:List (List V)→Option β):cLd 1 (zbt x) 1 k=k (xn .u8 x.scr):=zhR rfl k
theorem zpw (x:TxT):List.map V.dem (List.take 4 (zbi x))=zbi x:=Eq.trans rfl rfl
theorem zFZ (x:Outp):List.map V.dem (List.take 2 (zbt x))=zbt x:=Eq.trans rfl rfl
theorem zFT (x:Inp):zl (List.replicate 32 (V.sc (.int .u8 (0:Int)))++[(V.sc (.int .u32 (0:Int))),(V.sc (.int .u32 (0:Int))),(V.gs 1 ([]:List (List V)))]) 0 (zaG x)=zaG x:=zhe (by rw [zjM]; rfl)
theorem zDs {l:List Inp} {i:Nat} (h:i < l.length):(l.map zaG)[i]?=some (zaG l[i]):=by simp [h]
theorem zCA {l:List Outp} {i:Nat} (h:i < l.length):(l.map zbt)[i]?=some (zbt l[i]):=by simp [h]
theorem zDo {w:List (List Int)} {i:Nat} (h:i < w.length):(zaD w)[i]?=some [V.sl 1 (xn .u8 w[i])]:=by simp [zaD,h]
theorem zxW:∀ (l:List V),(∀ c ∈ l,∃ k n,c=V.sc (.int k n))→zdk l l=some true
 | [],_=>rfl
 | c::l,h=>by
  obtain ⟨k,n,rfl⟩:=h c (by simp)
  have:=zxW l (fun c hc=>h c (by simp [hc]))
  simp only [zdk,if_true,this,Option.map_some,BEq.rfl,Bool.and_true]
theorem zG7 (x:Inp) (k:Bool→Option β):eqC 33 (List.take 33 (zaG x)) (List.take 33 (zaG x)) k=k true:=by
 have h:zdk (List.take 33 (zaG x)) (List.take 33 (zaG x))=some true:=by
  apply zxW
  intro c hc
  simp only [zaG,List.take_succ_cons,List.take_zero,List.mem_cons,List.not_mem_nil,or_false] at hc
  rcases hc with rfl | rfl | rfl | rfl | rfl | rfl | rfl | rfl | rfl | rfl | rfl | rfl | rfl | rfl | rfl | rfl | rfl | rfl | rfl | rfl | rfl | rfl | rfl | rfl | rfl | rfl | rfl | rfl | rfl | rfl | rfl | rfl | rfl <;> exact ⟨_,_,rfl⟩
 have hl:(List.take 33 (zaG x)).length=33:=by rw [List.length_take,zjM]; rfl
 unfold eqC
 rw [xl ⟨hl,hl⟩,h]
theorem zH8 {L:Nat} (o:Outp) (k:Bool→Option β):yd β L (zbt o) (zbt o) k=k true:=by
 unfold yd zk2
 rw [zry,zry,zcY rfl,zDF,zDF,zt7]
theorem zzR {L:Nat} (x:Inp) (hw:x.wit.length≤64) (b2 b3:List V) (p42 p43:Int) (kr:Bool→Option β) (kx:Int→Int→List V→List V→Option β):∀ (m i:Nat),i≤x.wit.length→x.wit.length - i < m →
  zaE xd yd L kr kx m p42 p43 (x.wit.length:Int) (i:Int) b2 b3 (zaG x) (zaG x)=kx p42 p43 b2 b3
 | 0,i,h1,h2=>by omega
 | m+1,i,h1,h2=>by
  rw [zaE]
  unfold zcx
  by_cases hi:i < x.wit.length
  ·rw [xN (by omega),zoF,zbu (zDo hi),zrU rfl,zoF,zbu (zDo hi),zrU rfl,zt7]
   simp only [Bool.not_true,zhE]
   rw [zaI (by omega),yp]
   exact zzR x hw b2 b3 p42 p43 kr kx m (i+1) (by omega) (by omega)
  ·rw [zA (by omega)]
theorem zzx {L:Nat} (hL:1000≤L) {t:TxT} (ht:SmallT t) (kr:Bool→Option β) (kx:List V→List V→Option β):∀ (m i:Nat),i≤t.ins.length→t.ins.length - i < m →
  zcI xd yd L kr kx m (t.ins.length:Int) (i:Int) (zbi t) (zbi t)=kx (zbi t) (zbi t)
 | 0,i,h1,h2=>by omega
 | m+1,i,h1,h2=>by
  have hti:=ht.i
  rw [zcI]
  unfold zdK zgL
  by_cases hi:i < t.ins.length
  ·have hw:=ht.w t.ins[i] (List.getElem_mem hi)
   have l35:=zjM t.ins[i]
   rw [xN (by omega),zof,zbu (zDs hi),zof,zbu (zDs hi),zj3,xl (by omega),zFT,yp,xl (by omega),yp,xl (by omega),xl (by omega),zG7]
   simp only [Bool.not_true,zhE]
   rw [zmk,zmk,zB,if_pos rfl,zoF,zoF,zB,if_pos rfl,zoF,show (zaD t.ins[i].wit).length=t.ins[i].wit.length by simp [zaD]]
   refine (zzR t.ins[i] (by omega) _ _ _ _ _ _ L 0 (by omega) (by omega)).trans ?_
   unfold zcf
   rw [zaI (by omega),yp]
   exact zzx hL ht kr kx m (i+1) (by omega) (by omega)
  ·rw [zA (by omega)]
theorem zxS {L:Nat} {t:TxT} (ht:SmallT t) (kr:Bool→Option β) (kx:Option β):∀ (m i:Nat),i≤t.outs.length→t.outs.length - i < m →
  zco xd yd L kr kx m (t.outs.length:Int) (i:Int) (zbi t) (zbi t)=kx
 | 0,i,h1,h2=>by omega
 | m+1,i,h1,h2=>by
  have hto:=ht.o
  rw [zco]
  unfold zgd
  by_cases hi:i < t.outs.length
  ·rw [xN (by omega),zoj,zbu (zCA hi),zoj,zbu (zCA hi),zFZ,zH8]
   simp only [Bool.not_true,zhE]
   rw [zaI (by omega),yp]
   exact zxS ht kr kx m (i+1) (by omega) (by omega)
  ·rw [zA (by omega)]
theorem zJg {L:Nat} (hL:1000≤L) {t:TxT} (ht:SmallT t) (k:Bool→Option β):xG β L (zbi t) (zbi t) k=k true:=by
 have h1:=ht.i
 have h2:=ht.o
 unfold xG zh4 zmh
 rw [zrl,zrl,zB,if_pos rfl,zl2,zl2,zB,if_pos rfl,zof,zof,zB,if_pos rfl,zoj,zoj,zB,if_pos rfl,zof,List.length_map]
 refine (zzx hL ht _ _ L 0 (by omega) (by omega)).trans ?_
 unfold zcZ zfJ
 rw [zoj,List.length_map]
 refine (zxS ht _ _ L 0 (by omega) (by omega)).trans ?_
 rfl
theorem zD9 (L:Nat) (k:Bool→Option β):zH β (L+200) k=k true:=by kernel_rfl
theorem zIw {L:Nat} (h:200≤L) (k:Bool→Option β):zH β L k=k true:=by
 obtain ⟨m,rfl⟩:∃ m,L=m+200:=⟨L - 200,by omega⟩
 exact zD9 m k
end
section
set_option linter.unusedVariables false
set_option linter.unusedSimpArgs false
set_option maxRecDepth 100000
variable {β:Type}
theorem zte (x:Inp):zl (List.replicate 32 (V.sc (.int .u8 (0:Int)))++[(V.sc (.int .u32 (0:Int))),(V.sc (.int .u32 (0:Int))),(V.gs 1 ([]:List (List V)))]) 0 (zaG x)=zaG x:=zhe (by rw [zjM]; rfl)
theorem zwR (x:Outp):zl [(V.sc (.int .i64 (0:Int))),(V.gs 1 ([]:List (List V)))] 0 (zbt x)=zbt x:=zhe (by rw [zCt]; rfl)
theorem zp3 (x:Inp) (k:Option β):chk ((List.length (List.take 35 (zaG x)))=35∧0+35≤35) k=k:=xl ⟨by rw [zj3,zjM],by decide⟩ k
theorem zwO (x:Outp) (k:Option β):chk ((List.length (List.take 2 (zbt x)))=2∧0+2≤2) k=k:=xl ⟨by rw [zpZ,zCt],by decide⟩ k
theorem zpS (x:Inp) (k:List (List V)→Option β):cLd 1 (zaG x) 34 k=k (zaD x.wit):=zhR rfl k
theorem zwU (x:Outp) (k:List (List V)→Option β):cLd 1 (zbt x) 1 k=k (xn .u8 x.scr):=zhR rfl k
theorem zjL (x:TxT) (k:List (List V)→Option β):cLd 35 (zbi x) 1 k=k (x.ins.map zaG):=zhR rfl k
theorem zhG (x:TxT) (k:List (List V)→Option β):cLd 2 (zbi x) 2 k=k (x.outs.map zbt):=zhR rfl k
theorem zGC (x:TxT):List.map V.dem (List.take 4 (zbi x))=zbi x:=Eq.trans rfl rfl
theorem up {i:Nat} (h:i≤1000000000):IntKind.wrap .i64 ((i:Int)+1)=((i+1:Nat):Int):=by
 rw [zak (by omega) (by omega)]; omega
theorem zut (w:List (List Int)):(zaD w).length=w.length:=by simp [zaD]
theorem zuv {w:List (List Int)} {i:Nat} (h:i < w.length):(zaD w)[i]?=some [V.sl 1 (xn .u8 w[i])]:=by simp [zaD,h]
theorem zl3 {α:Type} {l:List α} {p:α→Bool} {i:Nat} (h:i < l.length):(l.drop i).all p=(p l[i] && (l.drop (i+1)).all p):=by
 rw [List.drop_eq_getElem_cons h]; rfl
theorem zr6 (L:Nat) (b:Int) (kr:Bool→Option β) (kx:Option β) (w:List (List Int)) (hw:w.length≤1000000):∀ (n i:Nat),i≤w.length→w.length - i < n →
  zdA L kr kx n b (zaD w) (w.length:Int) (i:Int)=ifb ((w.drop i).all fun x=>decide ((x.length:Int)≤b)) kx (kr false)
 | 0,i,h1,h2=>by omega
 | n+1,i,h1,h2=>by
  simp only [zdA,ziv,yp]
  by_cases h:i < w.length
  ·rw [xN (by omega),zbu (zuv h),zrU rfl,up (by omega),zr6 L b kr kx w hw n (i+1) (by omega) (by omega),zl3 h]
   simp only [xM]
   by_cases hb:((w[i].length:Nat):Int)≤b
   ·rw [zA (by omega)]; simp [hb]
   ·rw [xN (by omega)]; simp [hb,ifb]
  ·rw [zA (by omega),List.drop_of_length_le (by omega)]; rfl
theorem zFj {L:Nat} (hL:2000≤L) {a b:Int} (ha:a≤1000) (w:List (List Int)) (k:Bool→Option β):xf β L (zaD w) a b k=k (decide ((w.length:Int)≤a) && w.all fun x=>decide ((x.length:Int)≤b)):=by
 simp only [xf,zkP,zow,zut,zgi,zgG]
 by_cases h:(w.length:Int)≤a
 ·rw [zA (by omega),show ((0:Int))=((0:Nat):Int) from rfl,zr6 L b _ _ w (by omega) L 0 (by omega) (by omega)]
  simp only [List.drop_zero,h,decide_true,Bool.true_and]
  cases w.all fun x=>decide ((x.length:Int)≤b) <;> rfl
 ·rw [xN (by omega)]; simp [h]
theorem zs9 {l:List Inp} {i:Nat} (h:i < l.length):(l.map zaG)[i]?=some (zaG l[i]):=by simp [h]
theorem zuE {l:List Outp} {i:Nat} (h:i < l.length):(l.map zbt)[i]?=some (zbt l[i]):=by simp [h]
def zvA (x:Inp):Bool:=decide ((x.wit.length:Int)≤40) && x.wit.all fun y=>decide ((y.length:Int)≤600)
theorem zzF {L:Nat} (hL:2000≤L) (kr:Bool→Option β) (kx:List V→Option β) (l:List Inp) (hl:l.length≤1000000) (b1:List V):∀ (n i:Nat),i≤l.length→l.length - i < n →
  zfE xf L kr kx n (l.map zaG) (l.length:Int) (i:Int) b1=ifb ((l.drop i).all zvA) (kx b1) (kr false)
 | 0,i,h1,h2=>by omega
 | n+1,i,h1,h2=>by
  simp only [zfE,zlQ,yp]
  by_cases h:i < l.length
  ·rw [xN (by omega),zbu (zs9 h)]
   rw [zp3,zj3,zte]
   simp only [zpS,zmk]
   rw [zFj hL (by omega),up (by omega),zzF hL kr kx l hl b1 n (i+1) (by omega) (by omega),zl3 h]
   show ifb (!(zvA l[i])) _ _=_
   cases zvA l[i] <;> rfl
  ·rw [zA (by omega),List.drop_of_length_le (by omega)]; rfl
def zvo (x:Outp):Bool:=decide ((x.scr.length:Int)≤600)
theorem zym {L:Nat} (kr:Bool→Option β) (kx:Option β) (l:List Outp) (hl:l.length≤1000000):∀ (n i:Nat),i≤l.length→l.length - i < n →
  zeK xf L kr kx n (l.map zbt) (l.length:Int) (i:Int)=ifb ((l.drop i).all zvo) kx (kr false)
 | 0,i,h1,h2=>by omega
 | n+1,i,h1,h2=>by
  simp only [zeK,zkZ,yp]
  by_cases h:i < l.length
  ·rw [xN (by omega),zbu (zuE h)]
   rw [zwO,zpZ,zwR]
   simp only [zwU,zry,xM]
   rw [up (by omega),zym kr kx l hl n (i+1) (by omega) (by omega),zl3 h]
   by_cases hb:((l[i].scr.length:Nat):Int)≤600
   ·rw [zA (by omega)]; simp [zvo,hb]
   ·rw [xN (by omega)]; simp [zvo,hb,ifb]
  ·rw [zA (by omega),List.drop_of_length_le (by omega)]; rfl
def zwG (t:TxT):Bool:=decide (t.ins.length≤70) && decide (t.outs.length≤70) && t.ins.all zvA && t.outs.all zvo
theorem zJJ {L:Nat} (hL:2000≤L) (t:TxT) (k:Bool→Option β):zac β L (zbi t) k=k (zwG t):=by
 simp only [zac,zpE,zuj,zcS,zsF]
 simp only [zjL,zhG,zrl,zl2,List.length_map,zin,zfr,zjN,zhF,zit]
 by_cases h1:t.ins.length≤70
 ·rw [zA (by omega)]
  by_cases h2:t.outs.length≤70
  ·rw [zA (by omega),show ((0:Int))=((0:Nat):Int) from rfl,zzF hL _ _ _ (by omega) _ L 0 (by omega) (by omega)]
   simp only [zhG,List.length_map]
   rw [zym _ _ _ (by omega) L 0 (by omega) (by omega)]
   simp only [List.drop_zero,zwG,h1,h2,decide_true,Bool.true_and]
   cases t.ins.all zvA <;> cases t.outs.all zvo <;> rfl
  ·rw [xN (by omega)]; simp [zwG,h2]
 ·rw [xN (by omega)]; simp [zwG,h1]
structure KeptP (t:TxT):Prop where
 ni:t.ins.length≤70
 no:t.outs.length≤70
 wl:∀ x ∈ t.ins,x.wit.length≤40
 wi:∀ x ∈ t.ins,∀ y ∈ x.wit,y.length≤600
 sl:∀ x ∈ t.outs,x.scr.length≤600
theorem zI6 {t:TxT} (h:zwG t=true):KeptP t:=by
 simp only [zwG,zvA,zvo,Bool.and_eq_true,decide_eq_true_eq,List.all_eq_true] at h
 exact ⟨h.1.1.1,h.1.1.2,fun x hx=>by have:=(h.1.2 x hx).1; omega,fun x hx y hy=>by have:=(h.1.2 x hx).2 y hy; omega,fun x hx=>by have:=h.2 x hx; omega⟩
end
section
set_option linter.unusedVariables false
set_option linter.unusedSimpArgs false
set_option maxRecDepth 100000
variable {β:Type}
theorem ziV {a b:Nat} (h:a+b≤1000000000000):(a+b) * 1≤zk∧a+b≤zk:=by
 unfold zk; omega
def zis (n:Int) (w:Nat):List Int:=(List.range w).map fun (i:Nat)=>IntKind.wrap .u8 (zBM .u64 n (8 * (i:Int)))
theorem zlW (n:Int) (w:Nat):(zis n w).length=w:=by simp [zis]
def zqR (n:Int):List Int:=zis (IntKind.wrap .u64 n) 4
def zCx (n:Int):List Int:=zis n 8
theorem ze9 (n:Int):(zqR n).length=4:=zlW _ _
theorem zoy (n:Int):(zCx n).length=8:=zlW _ _
def szB (n:Int):List Int:=if n < 253 then [IntKind.wrap .u8 n] else if n < 65536 then 253::zis n 2 else if n < 4294967296 then 254::zis n 4 else 255::zis n 8
theorem zok (n:Int):(szB n).length≤9:=by
 unfold szB; repeat' split
 all_goals simp [zlW]
def bsB (s:List Int):List Int:=szB (s.length:Int)++s
def zo9 (x:Inp):List V:=[V.sc (.int .u8 (x.pv.getD 0 0)),V.sc (.int .u8 (x.pv.getD 1 0)),V.sc (.int .u8 (x.pv.getD 2 0)),V.sc (.int .u8 (x.pv.getD 3 0)),V.sc (.int .u8 (x.pv.getD 4 0)),V.sc (.int .u8 (x.pv.getD 5 0)),V.sc (.int .u8 (x.pv.getD 6 0)),V.sc (.int .u8 (x.pv.getD 7 0)),V.sc (.int .u8 (x.pv.getD 8 0)),V.sc (.int .u8 (x.pv.getD 9 0)),V.sc (.int .u8 (x.pv.getD 10 0)),V.sc (.int .u8 (x.pv.getD 11 0)),V.sc (.int .u8 (x.pv.getD 12 0)),V.sc (.int .u8 (x.pv.getD 13 0)),V.sc (.int .u8 (x.pv.getD 14 0)),V.sc (.int .u8 (x.pv.getD 15 0)),V.sc (.int .u8 (x.pv.getD 16 0)),V.sc (.int .u8 (x.pv.getD 17 0)),V.sc (.int .u8 (x.pv.getD 18 0)),V.sc (.int .u8 (x.pv.getD 19 0)),V.sc (.int .u8 (x.pv.getD 20 0)),V.sc (.int .u8 (x.pv.getD 21 0)),V.sc (.int .u8 (x.pv.getD 22 0)),V.sc (.int .u8 (x.pv.getD 23 0)),V.sc (.int .u8 (x.pv.getD 24 0)),V.sc (.int .u8 (x.pv.getD 25 0)),V.sc (.int .u8 (x.pv.getD 26 0)),V.sc (.int .u8 (x.pv.getD 27 0)),V.sc (.int .u8 (x.pv.getD 28 0)),V.sc (.int .u8 (x.pv.getD 29 0)),V.sc (.int .u8 (x.pv.getD 30 0)),V.sc (.int .u8 (x.pv.getD 31 0)),V.sc (.int .u32 (x.pv.getD 32 0))]
def znY (x:Inp):List Int:=[x.pv.getD 0 0,x.pv.getD 1 0,x.pv.getD 2 0,x.pv.getD 3 0,x.pv.getD 4 0,x.pv.getD 5 0,x.pv.getD 6 0,x.pv.getD 7 0,x.pv.getD 8 0,x.pv.getD 9 0,x.pv.getD 10 0,x.pv.getD 11 0,x.pv.getD 12 0,x.pv.getD 13 0,x.pv.getD 14 0,x.pv.getD 15 0,x.pv.getD 16 0,x.pv.getD 17 0,x.pv.getD 18 0,x.pv.getD 19 0,x.pv.getD 20 0,x.pv.getD 21 0,x.pv.getD 22 0,x.pv.getD 23 0,x.pv.getD 24 0,x.pv.getD 25 0,x.pv.getD 26 0,x.pv.getD 27 0,x.pv.getD 28 0,x.pv.getD 29 0,x.pv.getD 30 0,x.pv.getD 31 0]
def ptB (x:Inp):List Int:=znY x++zqR (x.pv.getD 32 0)
theorem zG1 (x:Inp):(zo9 x).length=33:=by simp [zo9]
theorem zFt (x:Inp):(List.take 32 (zo9 x)).length=32:=by simp [zo9]
theorem zDb (x:Inp):xi 1 32 (List.take 32 (zo9 x))=xn .u8 (znY x):=by rfl
theorem zJI (x:Inp) (k:Int→Option β):cI .u32 (zo9 x) 32 k=k (x.pv.getD 32 0):=zoi rfl k
theorem zmO (x:Inp):(znY x).length=32:=by simp [znY]
theorem zvu (x:Inp):(ptB x).length=36:=by simp [ptB,zmO,ze9]
theorem zhM (k:IntKind):([]:List (List V))=xn k []:=rfl
theorem zJF (x:Inp):List.take 33 (zaG x)=zo9 x:=by rfl
theorem zIr (x:Inp) (k:Option β):chk (0+33≤(List.length (zaG x))) k=k:=xl (by rw [zjM]; omega) k
theorem zGI (x:TxT) (k:Option β):chk (0+4≤(List.length (zbi x))) k=k:=xl (by rw [zcS]; omega) k
theorem zks {L:Nat} {b s:List Int} (h:b.length+s.length≤1000000000000) (k:List (List V)→Option β):ye β L (xn .u8 b) (xn .u8 s) k=k (xn .u8 (b++s)):=by
 simp only [ye,zhY,yp,xM,List.replicate_zero,List.length_nil,List.nil_append]
 rw [zak (by omega) (by omega),xl (by unfold zk; omega),xl (by unfold zk; omega),xl (ziV h),zfd]
theorem zKs (L:Nat) (n:Int) (k:List (List V)→Option β):yo β (L+20) n 2 k=k (xn .u8 (zis n 2)):=by kernel_rfl
theorem zKk (L:Nat) (n:Int) (k:List (List V)→Option β):yo β (L+20) n 4 k=k (xn .u8 (zis n 4)):=by kernel_rfl
theorem zKq (L:Nat) (n:Int) (k:List (List V)→Option β):yo β (L+20) n 8 k=k (xn .u8 (zis n 8)):=by kernel_rfl
theorem zCi {L:Nat} (hL:20≤L) (n:Int) (k:List (List V)→Option β):yo β L n 2 k=k (xn .u8 (zis n 2))∧yo β L n 4 k=k (xn .u8 (zis n 4))∧yo β L n 8 k=k (xn .u8 (zis n 8)):=by
 obtain ⟨m,rfl⟩:∃ m,L=m+20:=⟨L - 20,by omega⟩
 exact ⟨zKs m n k,zKk m n k,zKq m n k⟩
theorem zJW {L:Nat} (hL:20≤L) {b:List Int} (h:b.length≤900000000000) (n:Int) (k:List (List V)→Option β):yM β L (xn .u8 b) n k=k (xn .u8 (b++zis (IntKind.wrap .u64 n) 2)):=by
 simp only [yM,ziB,yp]
 rw [(zCi hL _ _).1,zks (by rw [zlW]; omega)]
theorem zxd {L:Nat} (hL:20≤L) {b:List Int} (h:b.length≤900000000000) (n:Int) (k:List (List V)→Option β):zb β L (xn .u8 b) n k=k (xn .u8 (b++zqR n)):=by
 simp only [zb,zix,yp]
 rw [(zCi hL _ _).2.1,zks (by rw [zlW]; omega)]; rfl
theorem zHQ {L:Nat} (hL:20≤L) {b:List Int} (h:b.length≤900000000000) (n:Int) (k:List (List V)→Option β):zc β L (xn .u8 b) n k=k (xn .u8 (b++zCx n)):=by
 simp only [zc,zir,yp]
 rw [(zCi hL _ _).2.2,zks (by rw [zlW]; omega)]; rfl
theorem zIJ (n:Int):xi 1 1 [V.sc (.int .u8 n)]=xn .u8 [n]:=rfl
theorem zvE {L:Nat} (hL:20≤L) {b:List Int} (h:b.length≤800000000000) {n:Int} (h0:0≤n) (k:List (List V)→Option β):yb β L (xn .u8 b) n k=k (xn .u8 (b++szB n)):=by
 simp only [yb,zhl,yp,zIJ,zcN]
 unfold szB
 split
 ·rw [zks (by simp; omega)]
 ·split
  ·rw [zks (by simp; omega),zJW hL (by simp; omega),zBS (by omega) (by omega),zbk (by omega) (by omega)]
   simp
  ·split
   ·rw [zks (by simp; omega),zxd hL (by simp; omega),zqR,zA0 (by omega) (by omega),zbk (by omega) (by omega)]
    simp
   ·rw [zks (by simp; omega),zHQ hL (by simp; omega),zCx]
    simp
theorem zBP {L:Nat} (hL:20≤L) {b s:List Int} (h:b.length≤700000000000) (hs:s.length≤10000000) (k:List (List V)→Option β):xb β L (xn .u8 b) (xn .u8 s) k=k (xn .u8 (b++bsB s)):=by
 simp only [xb,zgF,yp,xM]
 have:=zok (s.length:Int)
 rw [zbk (by omega) (by omega),zvE hL (by omega) (by omega),zks (by simp; omega)]
 simp [bsB]
theorem zIl {L:Nat} (hL:20≤L) (x:Inp) (k:List (List V)→Option β):xe β L (zo9 x) k=k (xn .u8 (ptB x)):=by
 simp only [xe,zso,zM,zhQ]
 rw [xl (by rw [zG1]; omega),xl (by rw [zFt]; omega),zDb,zhM .u8,zks (by simp [zmO]),zJI,zxd hL (by simp [zmO])]
 rfl
end
section
set_option linter.unusedVariables false
set_option linter.unusedSimpArgs false
set_option maxRecDepth 100000
variable {β:Type}
def inB (x:Inp):List Int:=ptB x++zqR x.seq
def zhz (o:Outp):List Int:=zCx (IntKind.wrap .u64 o.val)++bsB o.scr
def ziF (x:Inp):List Int:=szB (x.wit.length:Int)++x.wit.flatMap bsB
def zgC (t:TxT) (w:Bool):List Int:=zqR t.ver++szB (t.ins.length:Int)++t.ins.flatMap inB++szB (t.outs.length:Int)++t.outs.flatMap zhz++zqR t.lock++(if w then t.ins.flatMap ziF else [])
theorem zj6 {α:Type} {l:List α} {f:α→List Int} {i:Nat} (h:i < l.length):(l.drop i).flatMap f=f l[i]++(l.drop (i+1)).flatMap f:=by
 rw [List.drop_eq_getElem_cons h,List.flatMap_cons]
theorem zu3 {α:Type} {f:α→List Int} {c:Nat}:∀ {l:List α},(∀ x ∈ l,(f x).length≤c)→(l.flatMap f).length≤l.length * c
 | [],_=>by simp
 | x::l,h=>by
  have h1:=h x (by simp)
  have h2:=zu3 (l:=l) (fun y hy=>h y (by simp [hy]))
  rw [List.flatMap_cons,List.length_append,List.length_cons,Nat.add_mul]; omega
theorem zDG (x:Inp):(inB x).length=40:=by simp [inB,zvu,ze9]
theorem zDr (s:List Int):(bsB s).length≤9+s.length:=by have:=zok (s.length:Int); simp [bsB]; omega
theorem zHd (o:Outp):(zhz o).length≤17+o.scr.length:=by have:=zDr o.scr; simp [zhz,zoy]; omega
theorem zGP {x:Inp} (h1:x.wit.length≤40) (h2:∀ y ∈ x.wit,y.length≤600):(ziF x).length≤30000:=by
 have h3:=zu3 (f:=bsB) (c:=609) (l:=x.wit) (fun y hy=>by have:=zDr y; have:=h2 y hy; omega)
 have h4:=zok (x.wit.length:Int)
 have h5:x.wit.length * 609≤40 * 609:=Nat.mul_le_mul_right _ h1
 simp only [ziF,List.length_append]; omega
theorem zHC (x:Outp):[V.sc (.int .i64 x.val),V.sl 1 (xn .u8 x.scr)]=zbt x:=Eq.trans rfl rfl
theorem zDL {L:Nat} (hL:20≤L) (kx:Bool→List (List V)→List V→Option β) (l:List Inp) (hl:l.length≤1000000) (w:Bool) (b1:List V):∀ (n i:Nat) (acc:List Int),i≤l.length→l.length - i < n→acc.length+((l.drop i).flatMap inB).length≤500000000000 →
  zdB zb yb xe zc xb L kx n w (xn .u8 acc) (l.map zaG) (l.length:Int) (i:Int) b1=kx w (xn .u8 (acc++(l.drop i).flatMap inB)) b1
 | 0,i,acc,h1,h2,h3=>by omega
 | n+1,i,acc,h1,h2,h3=>by
  simp only [zdB,ziC,yp]
  by_cases h:i < l.length
  ·rw [zj6 h] at h3
   simp only [List.length_append,zDG] at h3
   rw [xN (by omega),zbu (zs9 h)]
   rw [zp3,zj3,zte]
   simp only [zpS,zmk,zIr,zJF]
   rw [zIl hL,xM,xM,xl (ziV (by rw [zvu]; omega)),zfd]
   rw [zhM .u8,zxd hL (by simp),xM,xM,xl (ziV (by simp [zvu,ze9]; omega)),zfd,List.nil_append]
   rw [up (by omega),zDL hL kx l hl w b1 n (i+1) _ (by omega) (by omega) (by simp only [List.length_append,zvu,ze9]; omega),zj6 h]
   simp [inB]
  ·rw [zA (by omega),List.drop_of_length_le (by omega)]
   simp
theorem zCE {L:Nat} (hL:20≤L) (kx:Bool→List (List V)→List V→Option β) (l:List Outp) (hl:l.length≤1000000) (hs:∀ x ∈ l,x.scr.length≤600) (w:Bool) (b1:List V):∀ (n i:Nat) (acc:List Int),i≤l.length→l.length - i < n→acc.length+((l.drop i).flatMap zhz).length≤500000000000 →
  zcG zb yb xe zc xb L kx n w (xn .u8 acc) (l.map zbt) (l.length:Int) (i:Int) b1=kx w (xn .u8 (acc++(l.drop i).flatMap zhz)) b1
 | 0,i,acc,h1,h2,h3=>by omega
 | n+1,i,acc,h1,h2,h3=>by
  simp only [zcG,zgP,yp]
  by_cases h:i < l.length
  ·have h4:=hs l[i] (List.getElem_mem h)
   rw [zj6 h] at h3
   simp only [List.length_append,zhz,zoy] at h3
   rw [xN (by omega),zbu (zuE h)]
   rw [zwO,zpZ,zwR]
   simp only [zwU,zry,zHC]
   rw [zhM .u8,zHQ hL (by simp),xM,xM,xl (ziV (by simp [zoy]; omega)),zfd,List.nil_append,zBP hL (by simp) (by omega),xM,xM,xl (ziV (by simp [zoy]; omega)),zfd,List.nil_append]
   rw [up (by omega),zCE hL kx l hl hs w b1 n (i+1) _ (by omega) (by omega) (by simp only [List.length_append,zoy,zhz]; omega),zj6 h]
   simp [zhz]
  ·rw [zA (by omega),List.drop_of_length_le (by omega)]
   simp
theorem zz4 {L:Nat} (hL:20≤L) (kx:List (List V)→List (List V)→Int→Int→Option β) (wt:List (List Int)) (hw:wt.length≤1000000) (hs:∀ y ∈ wt,y.length≤600) (p77:List (List V)) (p78 p79:Int):∀ (n i:Nat) (acc:List Int),i≤wt.length→wt.length - i < n→acc.length+((wt.drop i).flatMap bsB).length≤500000000000 →
  zas zb yb xe zc xb L kx n (xn .u8 acc) p77 p78 p79 (zaD wt) (wt.length:Int) (i:Int)=kx (xn .u8 (acc++(wt.drop i).flatMap bsB)) p77 p78 p79
 | 0,i,acc,h1,h2,h3=>by omega
 | n+1,i,acc,h1,h2,h3=>by
  simp only [zas,zce,yp]
  by_cases h:i < wt.length
  ·have h4:=hs wt[i] (List.getElem_mem h)
   rw [zj6 h] at h3
   simp only [List.length_append] at h3
   rw [xN (by omega),zbu (zuv h),zrU rfl]
   rw [zhM .u8,zBP hL (by simp) (by omega),List.nil_append,xM,xM,xl (ziV (by omega)),zfd]
   rw [up (by omega),zz4 hL kx wt hw hs p77 p78 p79 n (i+1) _ (by omega) (by omega) (by simp only [List.length_append]; omega),zj6 h]
   simp
  ·rw [zA (by omega),List.drop_of_length_le (by omega)]
   simp
end
section
set_option linter.unusedVariables false
set_option linter.unusedSimpArgs false
set_option maxRecDepth 100000
variable {β:Type}
theorem zA8 {L:Nat} (hL:2000≤L) (kx:List (List V)→Option β) (l:List Inp) (hl:l.length≤1000000) (hw:∀ x ∈ l,x.wit.length≤40) (hs:∀ x ∈ l,∀ y ∈ x.wit,y.length≤600):∀ (n i:Nat) (acc:List Int),i≤l.length→l.length - i < n→acc.length+((l.drop i).flatMap ziF).length≤400000000000 →
  zbW zb yb xe zc xb L kx n (xn .u8 acc) (l.map zaG) (l.length:Int) (i:Int)=kx (xn .u8 (acc++(l.drop i).flatMap ziF))
 | 0,i,acc,h1,h2,h3=>by omega
 | n+1,i,acc,h1,h2,h3=>by
  simp only [zbW,zcD,zfo,yp]
  by_cases h:i < l.length
  ·have h4:=hw l[i] (List.getElem_mem h)
   have h5:=hs l[i] (List.getElem_mem h)
   have h6:=zok (l[i].wit.length:Int)
   rw [zj6 h] at h3
   simp only [List.length_append,ziF] at h3
   rw [xN (by omega),zbu (zs9 h)]
   rw [zp3,zj3,zte]
   simp only [zpS,zmk,zut]
   rw [zbk (by omega) (by omega),zhM .u8,zvE (by omega) (by simp) (by omega),List.nil_append,xM,xM,xl (ziV (by omega)),zfd]
   rw [show ((0:Int))=((0:Nat):Int) from rfl,zz4 (by omega) _ _ (by omega) h5 _ _ _ L 0 _ (by omega) (by omega) (by simp only [List.drop_zero,List.length_append]; omega)]
   simp only [zbX,yp,List.drop_zero]
   rw [up (by omega),zA8 hL kx l hl hw hs n (i+1) _ (by omega) (by omega) (by simp only [List.length_append,ziF]; omega),zj6 h]
   simp [ziF]
  ·rw [zA (by omega),List.drop_of_length_le (by omega)]
   simp
structure Lens (t:TxT):Prop where
 a:(t.ins.flatMap inB).length≤70 * 40
 b:(t.outs.flatMap zhz).length≤70 * 617
 c:(t.ins.flatMap ziF).length≤70 * 30000
theorem KeptP.lens {t:TxT} (h:KeptP t):Lens t:=by
 have hi:=h.ni
 have ho:=h.no
 have h1:=zu3 (f:=inB) (c:=40) (l:=t.ins) (fun x _=>by rw [zDG]; omega)
 have h2:=zu3 (f:=zhz) (c:=617) (l:=t.outs) (fun x hx=>by have:=zHd x; have:=h.sl x hx; omega)
 have h3:=zu3 (f:=ziF) (c:=30000) (l:=t.ins) (fun x hx=>zGP (h.wl x hx) (h.wi x hx))
 have e1:t.ins.length * 40≤70 * 40:=Nat.mul_le_mul_right _ hi
 have e2:t.outs.length * 617≤70 * 617:=Nat.mul_le_mul_right _ ho
 have e3:t.ins.length * 30000≤70 * 30000:=Nat.mul_le_mul_right _ hi
 exact ⟨by omega,by omega,by omega⟩
theorem zzC {L:Nat} (hL:2000≤L) {t:TxT} (h:KeptP t) (w:Bool) (k:List (List V)→Option β):ze β L (zbi t) w k=k (xn .u8 (zgC t w)):=by
 obtain ⟨q1,q2,q3⟩:=h.lens
 have hi:=h.ni
 have ho:=h.no
 have s1:=zok (t.ins.length:Int)
 have s2:=zok (t.outs.length:Int)
 simp only [ze,zmo,zqs,zcS,zsF,yp]
 simp only [zjL,zhG,zrl,zl2,List.length_map]
 rw [zhM .u8,zxd (by omega) (by simp),zbk (by omega) (by omega),zvE (by omega) (by simp) (by omega),xM,xM,List.nil_append,List.nil_append,xl (ziV (by rw [ze9]; omega)),zfd]
 rw [show ((0:Int))=((0:Nat):Int) from rfl,zDL (by omega) _ _ (by omega) _ _ L 0 _ (by omega) (by omega) (by simp only [List.drop_zero,List.length_append,ze9]; omega)]
 simp only [zdC,zgN,yp,zjL,zhG,zl2,List.length_map,List.drop_zero]
 rw [zhM .u8,zbk (by omega) (by omega),zvE (by omega) (by simp) (by omega),xM,xM,List.nil_append,xl (ziV (by simp only [List.length_append,ze9]; omega)),zfd]
 rw [show ((0:Int))=((0:Nat):Int) from rfl,zCE (by omega) _ _ (by omega) h.sl _ _ L 0 _ (by omega) (by omega) (by simp only [List.drop_zero,List.length_append,ze9]; omega)]
 simp only [zcV,zfQ,yp,zjL,zhG,zl2,List.length_map,List.drop_zero]
 rw [zhM .u8,zxd (by omega) (by simp),xM,xM,List.nil_append,xl (ziV (by simp only [List.length_append,ze9]; omega)),zfd]
 cases w with
 | false =>
  simp only [Bool.not_false,zwW,zgC,Bool.false_eq_true,if_false,List.append_nil]
 | true =>
  simp only [Bool.not_true,zhE]
  rw [show ((0:Int))=((0:Nat):Int) from rfl,zA8 hL _ _ (by omega) h.wl h.wi L 0 _ (by omega) (by omega) (by simp only [List.drop_zero,List.length_append,ze9]; omega)]
  simp only [zd7,List.drop_zero,zgC,if_true]
end
section
set_option linter.unusedVariables false
set_option linter.unusedSimpArgs false
set_option maxRecDepth 100000
variable {β:Type}
def okO (o:Outp):Bool:=decide (0≤o.val) && decide (o.scr.length≤520)
def okI (x:Inp):Bool:=decide (x.wit.length≤32) && x.wit.all fun y=>decide (y.length≤520)
def zdH (t:TxT):Bool:=decide (t.ins.length≤64) && decide (t.outs.length≤64) && t.outs.all okO && t.ins.all okI && decide ((zgC t true).length≤20000)
theorem zDI {L:Nat} (kr:Bool→Option β) (kx:List V→Option β) (l:List Outp) (hl:l.length≤1000000) (b1:List V):∀ (n i:Nat),i≤l.length→l.length - i < n →
  zfA ze L kr kx n (l.map zbt) (l.length:Int) (i:Int) b1=ifb ((l.drop i).all okO) (kx b1) (kr false)
 | 0,i,h1,h2=>by omega
 | n+1,i,h1,h2=>by
  simp only [zfA,zmd,yp]
  by_cases h:i < l.length
  ·rw [xN (by omega),zbu (zuE h)]
   rw [zwO,zpZ,zwR]
   simp only [zwU,zry,xM]
   rw [up (by omega),zDI kr kx l hl b1 n (i+1) (by omega) (by omega),zl3 h]
   by_cases hv:0≤l[i].val
   ·rw [zA (by omega)]
    by_cases hb:l[i].scr.length≤520
    ·rw [zA (by omega)]; simp [okO,hb,hv]
    ·rw [xN (by omega)]
     have:okO l[i]=false:=by simp [okO,hb]
     rw [this]; rfl
   ·rw [xN (by omega)]
    have:okO l[i]=false:=by simp [okO,hv]
    rw [this]; rfl
  ·rw [zA (by omega),List.drop_of_length_le (by omega)]; rfl
theorem zBb {L:Nat} (kr:Bool→Option β) (kx:List (List V)→Int→Int→List V→Option β) (wt:List (List Int)) (hw:wt.length≤1000000) (p37:List (List V)) (p38 p39:Int) (b1:List V):∀ (n i:Nat),i≤wt.length→wt.length - i < n →
  zby ze L kr kx n p37 p38 p39 (zaD wt) (wt.length:Int) (i:Int) b1=ifb ((wt.drop i).all fun y=>decide (y.length≤520)) (kx p37 p38 p39 b1) (kr false)
 | 0,i,h1,h2=>by omega
 | n+1,i,h1,h2=>by
  simp only [zby,zea,yp]
  by_cases h:i < wt.length
  ·rw [xN (by omega),zbu (zuv h),zrU rfl]
   rw [up (by omega),zBb kr kx wt hw p37 p38 p39 b1 n (i+1) (by omega) (by omega),zl3 h,xM]
   by_cases hb:wt[i].length≤520
   ·rw [zA (by omega)]; simp [hb]
   ·rw [xN (by omega)]; simp [hb,ifb]
  ·rw [zA (by omega),List.drop_of_length_le (by omega)]; rfl
theorem zJf {L:Nat} (hL:2000≤L) (kr:Bool→Option β) (kx:List V→Option β) (l:List Inp) (hl:l.length≤1000000) (b1:List V):∀ (n i:Nat),i≤l.length→l.length - i < n →
  zeO ze L kr kx n (l.map zaG) (l.length:Int) (i:Int) b1=ifb ((l.drop i).all okI) (kx b1) (kr false):=by
 intro n
 induction n with
 | zero=>intro i h1 h2; omega
 | succ n ih =>
  intro i h1 h2
  simp only [zeO,zgg,zlo,yp]
  by_cases h:i < l.length
  ·rw [xN (by omega),zbu (zs9 h)]
   rw [zp3,zj3,zte]
   simp only [zpS,zmk,zut]
   rw [zl3 h]
   by_cases hw:l[i].wit.length≤32
   ·rw [zA (by omega),show ((0:Int))=((0:Nat):Int) from rfl,zBb _ _ _ (by omega) _ _ _ _ L 0 (by omega) (by omega)]
    simp only [zdo,zdd,yp,List.drop_zero]
    rw [up (by omega),ih (i+1) (by omega) (by omega)]
    have:okI l[i]=l[i].wit.all fun y=>decide (y.length≤520):=by simp [okI,hw]
    rw [this]
    cases l[i].wit.all fun y=>decide (y.length≤520) <;> rfl
   ·rw [xN (by omega)]
    have:okI l[i]=false:=by simp [okI,hw]
    rw [this]; rfl
  ·rw [zA (by omega),List.drop_of_length_le (by omega)]; rfl
theorem zHh {L:Nat} (hL:2000≤L) {t:TxT} (h:KeptP t) (k:Bool→Option β):yn β L (zbi t) k=k (zdH t):=by
 have hi:=h.ni
 have ho:=h.no
 simp only [yn,zpy,zun,zcS,zsF]
 simp only [zjL,zhG,zrl,zl2,List.length_map]
 by_cases h1:t.ins.length≤64
 ·rw [zA (by omega)]
  by_cases h2:t.outs.length≤64
  ·rw [zA (by omega),show ((0:Int))=((0:Nat):Int) from rfl,zDI _ _ _ (by omega) _ L 0 (by omega) (by omega)]
   simp only [zfu,zjP,zik,zjL,zhG,List.length_map,List.drop_zero]
   cases e1:t.outs.all okO
   ·have e:zdH t=false:=by simp [zdH,e1]
    rw [e]; rfl
   ·rw [zwW,show ((0:Int))=((0:Nat):Int) from rfl,zJf hL _ _ _ (by omega) _ L 0 (by omega) (by omega)]
    simp only [ziD,zhu,zjL,zhG,List.drop_zero,zGI,zGC]
    cases e2:t.ins.all okI
    ·have e:zdH t=false:=by simp [zdH,e2]
     rw [e]; rfl
    ·rw [zwW,zzC hL h,xM]
     have e:decide (((zgC t true).length:Int)≤20000)=zdH t:=by
      simp only [zdH,h1,h2,e1,e2,decide_true,Bool.true_and]
      exact decide_eq_decide.2 (by omega)
     rw [e]
  ·have e:zdH t=false:=by simp [zdH,h2]
   rw [xN (by omega),e]
 ·have e:zdH t=false:=by simp [zdH,h1]
  rw [xN (by omega),e]
def zIc:List V:=List.replicate 32 (V.sc (.int .u8 (0:Int)))++[(V.sc (.int .u32 (4294967295:Int)))]
def eqP (x y:Inp):Bool:=(zdk (zo9 x) (zo9 y)).getD false
def eqN (x:Inp):Bool:=(zdk (zo9 x) zIc).getD false
end
section
set_option linter.unusedVariables false
set_option linter.unusedSimpArgs false
set_option linter.unusedSectionVars false
set_option maxRecDepth 100000
variable {β:Type}
def leB (n:Nat):Nat→List Int
 | 0=>[]
 | w+1=>((n % 256:Nat):Int)::leB (n / 256) w
theorem zdT:∀ (w n:Nat),(leB n w).length=w
 | 0,n=>rfl
 | w+1,n=>by simp [leB,zdT w]
theorem zIL (n i:Nat) (hi:i≤7):IntKind.wrap .u8 (zBM .u64 ((n:Nat):Int) (8 * (i:Int)))=((n / 256 ^ i % 256:Nat):Int):=by
 have e1:(8 * (i:Int)).toNat=8 * i:=by omega
 have e2:min (8 * i) (IntKind.bits .u64)=8 * i:=Nat.min_eq_left (by show 8 * i≤64; omega)
 unfold zBM
 rw [e1,e2]
 have e3:((2:Int) ^ (8 * i))=((256 ^ i:Nat):Int):=by rw [zA3,Int.natCast_pow]; rfl
 rw [e3,Int.fdiv_eq_ediv_of_nonneg _ (Int.natCast_nonneg _),← Int.natCast_ediv]
 have:=zDn (n:=((n / 256 ^ i % 256:Nat):Int)) (by omega) (by omega)
 rw [← this]
 unfold IntKind.wrap
 simp only [IntKind.signed,IntKind.bits]
 have h8:(2:Int) ^ 8=256:=by decide
 have hh:(((n / 256 ^ i:Nat):Int) % 256)=(((n / 256 ^ i % 256:Nat):Int) % 256):=by omega
 simp [h8,hh]
theorem zxb:∀ (w n:Nat),(List.range w).map (fun i=>((n / 256 ^ i % 256:Nat):Int))=leB n w
 | 0,n=>rfl
 | w+1,n=>by
  rw [List.range_succ_eq_map,List.map_cons,List.map_map,leB,← zxb w (n / 256)]
  simp only [Nat.pow_zero,Nat.div_one]
  congr 1
  apply List.map_congr_left
  intro i _
  simp only [Function.comp_apply,Nat.pow_succ,Nat.div_div_eq_div_mul,Nat.mul_comm]
theorem zvv (n w:Nat) (hw:w≤8):zis ((n:Nat):Int) w=leB n w:=by
 rw [← zxb]
 unfold zis
 apply List.map_congr_left
 intro i hi
 exact zIL n i (by have:=List.mem_range.1 hi; omega)
theorem zh2 {n:Nat} (h:n < 4294967296):zqR ((n:Nat):Int)=leB n 4:=by
 unfold zqR
 rw [zbk (by omega) (by omega),zvv _ _ (by decide)]
theorem zyu (n:Nat):zCx ((n:Nat):Int)=leB n 8:=zvv _ _ (by decide)
theorem zD7 {n:Nat} (h:n < 253):szB ((n:Nat):Int)=leB n 1:=by
 unfold szB
 rw [if_pos (by omega),zDn (by omega) (by omega)]
 simp only [leB]
 rw [Nat.mod_eq_of_lt (by omega)]
theorem zD0 {n:Nat} (h:¬ n < 253) (h2:n < 65536):szB ((n:Nat):Int)=leB 253 1++leB n 2:=by
 unfold szB
 rw [if_neg (by omega),if_pos (by omega),zvv _ _ (by decide)]
 rfl
theorem zEh {n:Nat} (h:¬ n < 253) (h2:¬ n < 65536) (h3:n < 4294967296):szB ((n:Nat):Int)=leB 254 1++leB n 4:=by
 unfold szB
 rw [if_neg (by omega),if_neg (by omega),if_pos (by omega),zvv _ _ (by decide)]
 rfl
theorem zhD {j x r:List Int} {a:Nat} (h:j.drop a=x++r):j.drop (a+x.length)=r:=by
 rw [← List.drop_drop,h,List.drop_left]
theorem zhT {j x r:List Int} {a:Nat} (h:j.drop a=x++r) (ha:a≤j.length):a+x.length≤j.length:=by
 have:=congrArg List.length h
 rw [List.length_drop,List.length_append] at this
 omega
theorem zsk:∀ (w n a:Nat) {j r:List Int},n < 256 ^ w→j.drop a=leB n w++r→le j a w=n
 | 0,n,a,j,r,hn,h=>by simp [le] at hn ⊢; omega
 | w+1,n,a,j,r,hn,h=>by
  rw [leB,List.cons_append] at h
  have hlt:a < j.length:=by
   rcases Nat.lt_or_ge a j.length with h1 | h1
   ·exact h1
   ·rw [List.drop_eq_nil_of_le h1] at h; cases h
  rw [List.drop_eq_getElem_cons hlt] at h
  have h0:=(List.cons.inj h).1
  have h1:=(List.cons.inj h).2
  have hb:zjx j a=n % 256:=by
   unfold zjx
   rw [List.getD_eq_getElem?_getD,List.getElem?_eq_getElem hlt,Option.getD_some,h0]
   omega
  rw [zzh,zsk w (n / 256) (a+1) (by rw [Nat.pow_succ] at hn; exact Nat.div_lt_of_lt_mul (by omega)) h1,hb]
  omega
theorem zxC:∀ (w a:Nat) {j:List Int},Byt j→a+w≤j.length→j.drop a=leB (le j a w) w++j.drop (a+w)
 | 0,a,j,hb,h=>rfl
 | w+1,a,j,hb,h=>by
  have hlt:a < j.length:=by omega
  have hby:=zl8 hb a
  have e:=zxC w (a+1) hb (by omega)
  have e1:(zjx j a+256 * le j (a+1) w) % 256=zjx j a:=by omega
  have e2:(zjx j a+256 * le j (a+1) w) / 256=le j (a+1) w:=by omega
  rw [zzh,leB,e1,e2,List.cons_append,List.drop_eq_getElem_cons hlt,show a+(w+1)=a+1+w by omega,← e]
  congr 1
  have:=hby.2
  rw [List.getD_eq_getElem?_getD,List.getElem?_eq_getElem hlt,Option.getD_some] at this
  exact this
theorem wrN {j r:List Int} {w n a:Nat} (ha:a≤j.length) (hn:n < 256 ^ w) (h:j.drop a=leB n w++r):gN j w a=.ok (n,a+w)∧j.drop (a+w)=r:=by
 have h1:=zhT h ha
 rw [zdT] at h1
 have h2:=zhD h
 rw [zdT] at h2
 unfold gN
 rw [if_pos h1,zsk w n a hn h]
 exact ⟨rfl,h2⟩
theorem rdN {j:List Int} (hb:Byt j) {w n a a':Nat} (h:gN j w a=.ok (n,a')):j.drop a=leB n w++j.drop a'∧n < 256 ^ w:=by
 unfold gN at h
 split at h
 ·rename_i hl
  cases h
  exact ⟨zxC w a hb hl,zs3 hb a w⟩
 ·cases h
theorem wrS {j r:List Int} {n a most:Nat} (ha:a≤j.length) (hn:n≤most) (hm:most≤1000000) (h:j.drop a=szB ((n:Nat):Int)++r):∃ a',zcd j most a=.ok (n,a')∧a'≤j.length∧j.drop a'=r:=by
 by_cases h1:n < 253
 ·rw [zD7 h1] at h
  have hl:=zhT h ha
  rw [zdT] at hl
  have hd:=zhD h
  rw [zdT] at hd
  have hv:=zsk 1 n a (by omega) h
  refine ⟨a+1,?_,hl,hd⟩
  unfold zcd
  rw [if_pos hl,hv,if_pos h1,if_neg (by omega)]
 ·by_cases h2:n < 65536
  ·rw [zD0 h1 h2,List.append_assoc] at h
   have hl:=zhT h ha
   rw [zdT] at hl
   have hd:=zhD h
   rw [zdT] at hd
   have hv:=zsk 1 253 a (by decide) h
   have hl2:=zhT hd hl
   rw [zdT] at hl2
   have hd2:=zhD hd
   rw [zdT] at hd2
   have hv2:=zsk 2 n (a+1) h2 hd
   refine ⟨a+1+2,?_,hl2,hd2⟩
   unfold zcd zkl
   rw [if_pos hl,hv,if_neg (by decide),if_pos rfl,if_pos hl2,hv2,if_neg h1,if_neg (by omega)]
  ·rw [zEh h1 h2 (by omega),List.append_assoc] at h
   have hl:=zhT h ha
   rw [zdT] at hl
   have hd:=zhD h
   rw [zdT] at hd
   have hv:=zsk 1 254 a (by decide) h
   have hl2:=zhT hd hl
   rw [zdT] at hl2
   have hd2:=zhD hd
   rw [zdT] at hd2
   have hv2:=zsk 4 n (a+1) (by omega) hd
   refine ⟨a+1+4,?_,hl2,hd2⟩
   unfold zcd zkl
   rw [if_pos hl,hv,if_neg (by decide),if_neg (by decide),if_pos rfl,if_pos hl2,hv2,if_neg h2,if_neg (by omega)]
theorem rdS {j:List Int} (hb:Byt j) {n a a' most:Nat} (hm:most≤1000000) (h:zcd j most a=.ok (n,a')):j.drop a=szB ((n:Nat):Int)++j.drop a':=by
 unfold zcd at h
 split at h
 ·rename_i hl
  have h0:=zxC 1 a hb hl
  split at h
  ·rename_i h1
   split at h
   ·cases h
   ·cases h
    rw [zD7 h1]
    exact h0
  ·rename_i h1
   split at h
   ·rename_i h2
    unfold zkl at h
    split at h
    ·rename_i hl2
     split at h
     ·cases h
     ·rename_i h3
      split at h
      ·cases h
      ·cases h
       have hx:=lt2 hb (a+1)
       rw [zD0 h3 hx,List.append_assoc,← zxC 2 (a+1) hb hl2,← h2]
       exact h0
    ·cases h
   ·rename_i h2
    split at h
    ·rename_i h4
     unfold zkl at h
     split at h
     ·rename_i hl2
      split at h
      ·cases h
      ·rename_i h3
       split at h
       ·cases h
       ·cases h
        have hx:=lt4 hb (a+1)
        rw [zEh (by omega) h3 hx,List.append_assoc,← zxC 4 (a+1) hb hl2,← h4]
        exact h0
     ·cases h
    ·unfold zkl at h
     split at h
     ·split at h
      ·cases h
      ·split at h
       ·cases h
       ·cases h; omega
     ·cases h
 ·cases h
theorem wrB {j r s:List Int} {a most:Nat} (ha:a≤j.length) (hn:s.length≤most) (hm:most≤1000000) (h:j.drop a=bsB s++r):∃ a',zc8 j most a=.ok (s,a')∧a'≤j.length∧j.drop a'=r:=by
 unfold bsB at h
 rw [List.append_assoc] at h
 obtain ⟨a1,e1,h1,d1⟩:=wrS ha hn hm h
 have hl:=zhT d1 h1
 refine ⟨a1+s.length,?_,hl,zhD d1⟩
 unfold zc8
 rw [e1]
 simp only [if_pos hl]
 rw [d1,List.take_left]
theorem rdB {j s:List Int} (hb:Byt j) {a a' most:Nat} (hm:most≤1000000) (h:zc8 j most a=.ok (s,a')):j.drop a=bsB s++j.drop a':=by
 unfold zc8 at h
 split at h
 ·cases h
 ·rename_i n a1 hz
  split at h
  ·rename_i hl
   cases h
   have hlen:((j.drop a1).take n).length=n:=by rw [List.length_take,List.length_drop]; omega
   unfold bsB
   rw [hlen,List.append_assoc,← List.drop_drop,List.take_append_drop]
   exact rdS hb hm hz
  ·cases h
end
section
set_option linter.unusedVariables false
set_option linter.unusedSimpArgs false
set_option linter.unusedSectionVars false
set_option maxRecDepth 100000
theorem zsZ {x:Inp} (h:32≤x.pv.length):znY x=List.take 32 x.pv:=by rw [zww h]; rfl
theorem zGM {x:Inp} (h:x.pv.length=33):znY x++[x.pv.getD 32 0]=x.pv:=by
 rw [zsZ (by omega)]
 have:List.drop 32 x.pv=[x.pv.getD 32 0]:=by
  rw [List.drop_eq_getElem_cons (by omega),List.drop_eq_nil_of_le (by omega),List.getD_eq_getElem?_getD,List.getElem?_eq_getElem (by omega)]
  rfl
 rw [← this,List.take_append_drop]
structure InOk (x:Inp):Prop where
 pv:x.pv.length=33
 ix:0≤x.pv.getD 32 0∧x.pv.getD 32 0≤4294967295
 sq:0≤x.seq∧x.seq≤4294967295
 wl:x.wit.length≤32
 wi:∀ y ∈ x.wit,y.length≤520
structure OutOk (o:Outp):Prop where
 val:0≤o.val∧o.val≤9223372036854775807
 scr:o.scr.length≤520
def zHg (x:Inp):Inp:=⟨x.pv,x.seq,[]⟩
theorem zHo {j r:List Int} {x:Inp} (hx:InOk x) {a:Nat} (ha:a≤j.length) (h:j.drop a=inB x++r):∃ a',gIn j a=.ok (zHg x,a')∧a'≤j.length∧j.drop a'=r:=by
 obtain ⟨ix,hix⟩:∃ n:Nat,x.pv.getD 32 0=(n:Int):=⟨(x.pv.getD 32 0).toNat,by have:=hx.ix; omega⟩
 obtain ⟨sq,hsq⟩:∃ n:Nat,x.seq=(n:Int):=⟨x.seq.toNat,by have:=hx.sq; omega⟩
 have l1:=hx.ix
 have l2:=hx.sq
 unfold inB ptB at h
 rw [hix,hsq,zh2 (by omega),zh2 (by omega),List.append_assoc,List.append_assoc] at h
 have k1:=zhT h ha
 have d1:=zhD h
 rw [zmO] at k1 d1
 obtain ⟨e2,d2⟩:=wrN (w:=4) (n:=ix) k1 (by omega) d1
 have k2:=zk9 e2
 obtain ⟨e3,d3⟩:=wrN (w:=4) (n:=sq) k2 (by omega) d2
 refine ⟨a+32+4+4,?_,zk9 e3,d3⟩
 unfold gIn zjB
 rw [if_pos k1]
 simp only [e2,e3]
 have ht:(j.drop a).take 32=znY x:=by rw [h,List.take_left' (zmO x)]
 rw [ht,← hix,zGM hx.pv,← hsq]
 rfl
theorem zKm {j:List Int} (hb:Byt j) {x:Inp} {a a':Nat} (h:gIn j a=.ok (x,a')):j.drop a=inB x++j.drop a':=by
 unfold gIn at h
 split at h
 ·cases h
 ·rename_i hh b1 z1
  split at h
  ·cases h
  ·rename_i ix b2 z2
   split at h
   ·cases h
   ·rename_i sq b3 z3
    cases h
    obtain ⟨d2,n2⟩:=rdN hb z2
    obtain ⟨d3,n3⟩:=rdN hb z3
    have hl:=(zsY z1).2
    have d1:j.drop a=hh++j.drop b1:=by
     unfold zjB at z1
     split at z1
     ·cases z1; rw [← List.drop_drop,List.take_append_drop]
     ·cases z1
    have e1:znY ⟨hh++[(ix:Int)],sq,[]⟩=hh:=by rw [zsZ (by simp [hl]),List.take_left' hl]
    have e2:(hh++[(ix:Int)]).getD 32 0=(ix:Int):=by simp [List.getD_eq_getElem?_getD,List.getElem?_append_right,hl]
    unfold inB ptB
    simp only [e1,e2]
    rw [zh2 (by omega),zh2 (by omega),List.append_assoc,List.append_assoc,← d3,← d2]
    exact d1
theorem zJ5 {j r:List Int} {o:Outp} (ho:OutOk o) {a:Nat} (ha:a≤j.length) (h:j.drop a=zhz o++r):∃ a',zlf j a=.ok (o,a')∧a'≤j.length∧j.drop a'=r:=by
 have hv:=ho.val
 obtain ⟨v,hv2⟩:∃ n:Nat,o.val=(n:Int):=⟨o.val.toNat,by omega⟩
 unfold zhz at h
 rw [hv2,zbk (by omega) (by omega),zyu,List.append_assoc] at h
 obtain ⟨e1,d1⟩:=wrN (w:=8) (n:=v) ha (by omega) h
 obtain ⟨a2,e2,k2,d2⟩:=wrB (most:=520) (zk9 e1) ho.scr (by decide) d1
 refine ⟨a2,?_,k2,d2⟩
 unfold zlf
 simp only [e1,e2]
 rw [if_neg (by omega),← hv2]
theorem zJ0 {j:List Int} (hb:Byt j) {o:Outp} {a a':Nat} (h:zlf j a=.ok (o,a')):j.drop a=zhz o++j.drop a'∧OutOk o:=by
 unfold zlf at h
 split at h
 ·cases h
 ·rename_i v a1 z1
  split at h
  ·cases h
  ·rename_i hv
   split at h
   ·cases h
   ·rename_i s a2 z2
    cases h
    obtain ⟨d1,n1⟩:=rdN hb z1
    refine ⟨?_,⟨by simp only; omega,(zjU z2).2⟩⟩
    unfold zhz
    simp only
    rw [zbk (by omega) (by omega),zyu,List.append_assoc,← rdB hb (by decide) z2]
    exact d1
theorem zHN {j r:List Int}:∀ (xs:List Inp) (a:Nat),(∀ x ∈ xs,InOk x)→a≤j.length→j.drop a=xs.flatMap inB++r→∃ a',zfP j xs.length a=.ok (xs.map zHg,a')∧a'≤j.length∧j.drop a'=r
 | [],a,hx,ha,h=>⟨a,rfl,ha,h⟩
 | x::xs,a,hx,ha,h=>by
  rw [List.flatMap_cons,List.append_assoc] at h
  obtain ⟨a1,e1,k1,d1⟩:=zHo (hx x (by simp)) ha h
  obtain ⟨a2,e2,k2,d2⟩:=zHN xs a1 (fun y hy=>hx y (by simp [hy])) k1 d1
  exact ⟨a2,by simp only [List.length_cons,zfP,e1,e2,List.map_cons],k2,d2⟩
theorem zH1 {j:List Int} (hb:Byt j):∀ (n a:Nat) {xs:List Inp} {a':Nat},zfP j n a=.ok (xs,a')→j.drop a=xs.flatMap inB++j.drop a'
 | 0,a,xs,a',h=>by simp only [zfP] at h; cases h; rfl
 | n+1,a,xs,a',h=>by
  rw [zfP] at h
  split at h
  ·cases h
  ·rename_i x a1 z1
   split at h
   ·cases h
   ·rename_i ys a2 z2
    cases h
    rw [List.flatMap_cons,List.append_assoc,← zH1 hb n a1 z2]
    exact zKm hb z1
theorem zF3 {j r:List Int}:∀ (xs:List Outp) (a:Nat),(∀ x ∈ xs,OutOk x)→a≤j.length→j.drop a=xs.flatMap zhz++r→∃ a',zch j xs.length a=.ok (xs,a')∧a'≤j.length∧j.drop a'=r
 | [],a,hx,ha,h=>⟨a,rfl,ha,h⟩
 | x::xs,a,hx,ha,h=>by
  rw [List.flatMap_cons,List.append_assoc] at h
  obtain ⟨a1,e1,k1,d1⟩:=zJ5 (hx x (by simp)) ha h
  obtain ⟨a2,e2,k2,d2⟩:=zF3 xs a1 (fun y hy=>hx y (by simp [hy])) k1 d1
  exact ⟨a2,by simp only [List.length_cons,zch,e1,e2],k2,d2⟩
theorem zF4 {j:List Int} (hb:Byt j):∀ (n a:Nat) {xs:List Outp} {a':Nat},zch j n a=.ok (xs,a')→j.drop a=xs.flatMap zhz++j.drop a'∧∀ x ∈ xs,OutOk x
 | 0,a,xs,a',h=>by simp only [zch] at h; cases h; exact ⟨rfl,by simp⟩
 | n+1,a,xs,a',h=>by
  rw [zch] at h
  split at h
  ·cases h
  ·rename_i x a1 z1
   split at h
   ·cases h
   ·rename_i ys a2 z2
    cases h
    obtain ⟨r1,r2⟩:=zF4 hb n a1 z2
    obtain ⟨q1,q2⟩:=zJ0 hb z1
    rw [List.flatMap_cons,List.append_assoc,← r1]
    refine ⟨q1,fun y hy=>?_⟩
    rcases List.mem_cons.1 hy with rfl | hy
    ·exact q2
    ·exact r2 y hy
theorem zHV {j r:List Int}:∀ (xs:List (List Int)) (a:Nat),(∀ x ∈ xs,x.length≤520)→a≤j.length→j.drop a=xs.flatMap bsB++r→∃ a',zfh j xs.length a=.ok (xs,a')∧a'≤j.length∧j.drop a'=r
 | [],a,hx,ha,h=>⟨a,rfl,ha,h⟩
 | x::xs,a,hx,ha,h=>by
  rw [List.flatMap_cons,List.append_assoc] at h
  obtain ⟨a1,e1,k1,d1⟩:=wrB (most:=520) ha (hx x (by simp)) (by decide) h
  obtain ⟨a2,e2,k2,d2⟩:=zHV xs a1 (fun y hy=>hx y (by simp [hy])) k1 d1
  exact ⟨a2,by simp only [List.length_cons,zfh,e1,e2],k2,d2⟩
theorem zHS {j:List Int} (hb:Byt j):∀ (n a:Nat) {xs:List (List Int)} {a':Nat},zfh j n a=.ok (xs,a')→j.drop a=xs.flatMap bsB++j.drop a'∧∀ x ∈ xs,x.length≤520
 | 0,a,xs,a',h=>by simp only [zfh] at h; cases h; exact ⟨rfl,by simp⟩
 | n+1,a,xs,a',h=>by
  rw [zfh] at h
  split at h
  ·cases h
  ·rename_i x a1 z1
   split at h
   ·cases h
   ·rename_i ys a2 z2
    cases h
    obtain ⟨r1,r2⟩:=zHS hb n a1 z2
    rw [List.flatMap_cons,List.append_assoc,← r1]
    refine ⟨rdB hb (by decide) z1,fun y hy=>?_⟩
    rcases List.mem_cons.1 hy with rfl | hy
    ·exact (zjU z1).2
    ·exact r2 y hy
theorem zFJ {j r:List Int}:∀ (xs:List Inp) (a:Nat),(∀ x ∈ xs,InOk x)→a≤j.length→j.drop a=xs.flatMap ziF++r→∃ a',zcB j (xs.map zHg) a=.ok (xs,a')∧a'≤j.length∧j.drop a'=r
 | [],a,hx,ha,h=>⟨a,rfl,ha,h⟩
 | x::xs,a,hx,ha,h=>by
  rw [List.flatMap_cons,List.append_assoc] at h
  unfold ziF at h
  rw [List.append_assoc] at h
  obtain ⟨a1,e1,k1,d1⟩:=wrS (most:=32) ha (hx x (by simp)).wl (by decide) h
  obtain ⟨a2,e2,k2,d2⟩:=zHV x.wit a1 (hx x (by simp)).wi k1 d1
  obtain ⟨a3,e3,k3,d3⟩:=zFJ xs a2 (fun y hy=>hx y (by simp [hy])) k2 d2
  exact ⟨a3,by simp only [List.map_cons,zcB,e1,e2,e3]; rfl,k3,d3⟩
theorem zFb {j:List Int} (hb:Byt j):∀ (xs:List Inp) (a:Nat) {ys:List Inp} {a':Nat},zcB j xs a=.ok (ys,a')→j.drop a=ys.flatMap ziF++j.drop a'∧ys.flatMap inB=xs.flatMap inB∧ys.length=xs.length∧∀ y ∈ ys,y.wit.length≤32∧∀ z ∈ y.wit,z.length≤520
 | [],a,ys,a',h=>by simp only [zcB] at h; cases h; exact ⟨rfl,rfl,rfl,by simp⟩
 | x::xs,a,ys,a',h=>by
  rw [zcB] at h
  split at h
  ·cases h
  ·rename_i n a1 z1
   split at h
   ·cases h
   ·rename_i w a2 z2
    split at h
    ·cases h
    ·rename_i zs a3 z3
     cases h
     obtain ⟨r1,r2,r3,r4⟩:=zFb hb xs a2 z3
     obtain ⟨q1,q2⟩:=zHS hb n a1 z2
     have hn:=zwH n a1 z2
     refine ⟨?_,?_,by simp [r3],fun y hy=>?_⟩
     ·rw [List.flatMap_cons,List.append_assoc,← r1]
      unfold ziF
      simp only [hn]
      rw [List.append_assoc,← q1]
      exact rdS hb (by decide) z1
     ·rw [List.flatMap_cons,List.flatMap_cons,r2]
      rfl
     ·rcases List.mem_cons.1 hy with rfl | hy
      ·exact ⟨by have:=(zcK z1).2; simp only; omega,q2⟩
      ·exact r4 y hy
theorem zKa {t:TxT} (hv:0≤t.ver∧t.ver≤4294967295) (hk:0≤t.lock∧t.lock≤4294967295) (hi:∀ x ∈ t.ins,InOk x) (ho:∀ x ∈ t.outs,OutOk x) (li:t.ins.length≤64) (lo:t.outs.length≤64) (hl:(zgC t true).length≤20000):gTx (zgC t true) 0=.ok (t,(zgC t true).length):=by
 obtain ⟨v,hv2⟩:∃ n:Nat,t.ver=(n:Int):=⟨t.ver.toNat,by omega⟩
 obtain ⟨k,hk2⟩:∃ n:Nat,t.lock=(n:Int):=⟨t.lock.toNat,by omega⟩
 generalize hj:zgC t true=j at hl ⊢
 have h:j.drop 0=zgC t true:=by rw [hj]; rfl
 unfold zgC at h
 rw [hv2,hk2,zh2 (by omega),zh2 (by omega)] at h
 simp only [if_true,List.append_assoc] at h
 obtain ⟨e1,d1⟩:=wrN (w:=4) (n:=v) (Nat.zero_le _) (by omega) h
 obtain ⟨a2,e2,k2,d2⟩:=wrS (most:=64) (zk9 e1) li (by decide) d1
 obtain ⟨a3,e3,k3,d3⟩:=zHN t.ins a2 hi k2 d2
 obtain ⟨a4,e4,k4,d4⟩:=wrS (most:=64) k3 lo (by decide) d3
 obtain ⟨a5,e5,k5,d5⟩:=zF3 t.outs a4 ho k4 d4
 obtain ⟨e6,d6⟩:=wrN (w:=4) (n:=k) k5 (by omega) d5
 rw [← List.append_nil (t.ins.flatMap ziF)] at d6
 obtain ⟨a7,e7,k7,d7⟩:=zFJ t.ins (a5+4) hi (zk9 e6) d6
 have h7:a7=j.length:=by
  have:=congrArg List.length d7
  rw [List.length_drop,List.length_nil] at this
  omega
 unfold gTx
 simp only [e1,e2,e3,e4,e5,e6,e7]
 rw [if_neg (by omega),h7,← hv2,← hk2]
theorem zKh {j:List Int} (hb:Byt j) {t:TxT} (h:gTx j 0=.ok (t,j.length)):zgC t true=j∧j.length≤20000∧(∀ x ∈ t.outs,OutOk x)∧∀ y ∈ t.ins,y.wit.length≤32∧∀ z ∈ y.wit,z.length≤520:=by
 unfold gTx at h
 split at h
 ·cases h
 ·rename_i ver a1 e1
  split at h
  ·cases h
  ·rename_i n a2 e2
   split at h
   ·cases h
   ·rename_i xs a3 e3
    split at h
    ·cases h
    ·rename_i m a4 e4
     split at h
     ·cases h
     ·rename_i os a5 e5
      split at h
      ·cases h
      ·rename_i lk a6 e6
       split at h
       ·cases h
       ·rename_i ys a7 e7
        split at h
        ·cases h
        ·rename_i hlen
         cases h
         obtain ⟨d1,n1⟩:=rdN hb e1
         have d2:=rdS hb (by decide) e2
         have d3:=zH1 hb n a2 e3
         have d4:=rdS hb (by decide) e4
         obtain ⟨d5,o5⟩:=zF4 hb m a4 e5
         obtain ⟨d6,n6⟩:=rdN hb e6
         obtain ⟨d7,i7,l7,w7⟩:=zFb hb xs a6 e7
         have hx:=(zvC n a2 (zcK e2).1 e3).2.1
         have ho:=zt4 m a4 e5
         refine ⟨?_,by omega,o5,w7⟩
         unfold zgC
         simp only [if_true,List.append_assoc]
         rw [zh2 (by omega),zh2 (by omega),i7,l7,hx,ho]
         have:List.drop j.length j=[]:=List.drop_eq_nil_of_le (Nat.le_refl _)
         rw [this,List.append_nil] at d7
         rw [← d7,← d6,← d5,← d4,← d3,← d2,← d1]
         rfl
end
section
set_option linter.unusedVariables false
set_option linter.unusedSimpArgs false
set_option linter.unusedSectionVars false
set_option maxRecDepth 100000
variable {β:Type}
theorem zJv {j:List Int} {a:Nat} {e:Int} (h:gIn j a=.error e):e≠0:=by
 unfold gIn at h
 split at h
 ·rename_i z; cases h; exact zwF z
 ·split at h
  ·rename_i z; cases h; exact zmr z
  ·split at h
   ·rename_i z; cases h; exact zmr z
   ·cases h
theorem zDM {j:List Int}:∀ (n a:Nat) {e:Int},zfP j n a=.error e→e≠0
 | 0,a,e,h=>by simp only [zfP] at h; cases h
 | n+1,a,e,h=>by
  rw [zfP] at h
  split at h
  ·rename_i z; cases h; exact zJv z
  ·split at h
   ·rename_i z; cases h; exact zDM n _ z
   ·cases h
theorem zIO {j:List Int} {a:Nat} {e:Int} (h:zlf j a=.error e):e≠0:=by
 unfold zlf at h
 split at h
 ·rename_i z; cases h; exact zmr z
 ·split at h
  ·cases h; decide
  ·split at h
   ·rename_i z; cases h; exact zmS z
   ·cases h
theorem zBo {j:List Int}:∀ (n a:Nat) {e:Int},zch j n a=.error e→e≠0
 | 0,a,e,h=>by simp only [zch] at h; cases h
 | n+1,a,e,h=>by
  rw [zch] at h
  split at h
  ·rename_i z; cases h; exact zIO z
  ·split at h
   ·rename_i z; cases h; exact zBo n _ z
   ·cases h
theorem zDx {j:List Int}:∀ (n a:Nat) {e:Int},zfh j n a=.error e→e≠0
 | 0,a,e,h=>by simp only [zfh] at h; cases h
 | n+1,a,e,h=>by
  rw [zfh] at h
  split at h
  ·rename_i z; cases h; exact zmS z
  ·split at h
   ·rename_i z; cases h; exact zDx n _ z
   ·cases h
theorem zBH {j:List Int}:∀ (xs:List Inp) (a:Nat) {e:Int},zcB j xs a=.error e→e≠0
 | [],a,e,h=>by simp only [zcB] at h; cases h
 | x::xs,a,e,h=>by
  rw [zcB] at h
  split at h
  ·rename_i z; cases h; exact zgb z
  ·split at h
   ·rename_i z; cases h; exact zDx _ _ z
   ·split at h
    ·rename_i z; cases h; exact zBH xs _ z
    ·cases h
theorem zB9 {j:List Int} {a:Nat} {e:Int} (h:gTx j a=.error e):e≠0:=by
 unfold gTx at h
 split at h
 ·rename_i z; cases h; exact zmr z
 ·split at h
  ·rename_i z; cases h; exact zgb z
  ·split at h
   ·rename_i z; cases h; exact zDM _ _ z
   ·split at h
    ·rename_i z; cases h; exact zgb z
    ·split at h
     ·rename_i z; cases h; exact zBo _ _ z
     ·split at h
      ·rename_i z; cases h; exact zmr z
      ·split at h
       ·rename_i z; cases h; exact zBH _ _ z
       ·split at h
        ·cases h; decide
        ·cases h
section
variable {L:Nat} (hL:1000≤L) {j:List Int} (hb:Byt j) (hj:j.length≤100000000)
include hL hb hj
theorem zCg {t:TxT} (h:gTx j 0=.ok (t,j.length)) (k:List V→Int→Option β):yK β L (xn .u8 j) k=k (zbi t) 0:=by
 have l4:=zcS t
 have r:=zB4 (β:=β) hL hb hj (a:=0) (Nat.zero_le _)
 have v1:∀ k:Int→Option β,zU β L (xn .u8 j) ((j.length:Nat):Int) k=k 0:=by
  intro k
  unfold zU zi7
  rw [zA (by omega),xM,zA (by omega),zA (by omega)]
 unfold yK ziX
 refine Eq.trans (r _) ?_
 rw [h,zbS,xl (by omega),zjJ,yp,zcY rfl,v1,zB,if_pos rfl,xl (by omega),zIo,xl (by omega),zjJ,yp,xl (by omega)]
theorem zIb (h:∀ t,gTx j 0≠.ok (t,j.length)):∃ e:Int,e≠0∧∀ k:List V→Int→Option β,yK β L (xn .u8 j) k=k (zbi zT) e:=by
 have r:=zB4 (β:=β) hL hb hj (a:=0) (Nat.zero_le _)
 cases e1:gTx j 0 with
 | error e =>
  refine ⟨e,zB9 e1,fun k=>?_⟩
  unfold yK ziX
  refine Eq.trans (r _) ?_
  rw [e1,zb3,← zJi,xl (by rw [zcS]; omega),zjJ,yp,zcW (zB9 e1),zB,if_neg (zB9 e1),yp]
  exact zsc _
 | ok p =>
  obtain ⟨t,a'⟩:=p
  have hne:a'≠j.length:=fun hh=>h t (by rw [e1,hh])
  obtain ⟨v,hv0,v1⟩:∃ v:Int,v≠0∧∀ k:Int→Option β,zU β L (xn .u8 j) ((a':Nat):Int) k=k v:=by
   unfold zU zi7
   rcases Nat.lt_or_gt_of_ne hne with h1 | h1
   ·exact ⟨2,by decide,fun k=>by rw [zA (by omega),xM,zA (by omega),xN (by omega)]⟩
   ·exact ⟨5,by decide,fun k=>by rw [zA (by omega),xM,xN (by omega)]⟩
  refine ⟨v,hv0,fun k=>?_⟩
  have l4:=zcS t
  unfold yK ziX
  refine Eq.trans (r _) ?_
  rw [e1,zbS,xl (by omega),zjJ,yp,zcY rfl,v1,zB,if_neg hv0,yp]
  exact zsc _
end
theorem zB0 {L:Nat} (hL:2000≤L) {t:TxT} (h:KeptP t) (w:Bool) (k:List (List V)→Int→Option β):xF β L (zbi t) w k=if zdH t=true then k (xn .u8 (zgC t w)) 0 else k (xn .u8 []) 4:=by
 unfold xF zqc
 have l4:=zcS t
 rw [xl (by omega),zpw,zHh hL h,zzC hL h]
 cases zdH t <;> rfl
theorem zdY {a b:List Int} (h1:Byt a) (h2:Byt b):Byt (a++b):=fun x hx=>(List.mem_append.1 hx).elim (h1 x) (h2 x)
theorem zmH:∀ (w n:Nat),Byt (leB n w)
 | 0,n=>fun x hx=>by cases hx
 | w+1,n=>fun x hx=>by
  rcases List.mem_cons.1 hx with rfl | hx
  ·omega
  ·exact zmH w _ x hx
theorem zw8 {α:Type} {f:α→List Int} {l:List α} (h:∀ x ∈ l,Byt (f x)):Byt (l.flatMap f):=fun y hy=>by
 obtain ⟨x,hx,hy⟩:=List.mem_flatMap.1 hy
 exact h x hx y hy
theorem zyp {n:Nat} (h:n < 4294967296):Byt (szB ((n:Nat):Int)):=by
 by_cases h1:n < 253
 ·rw [zD7 h1]; exact zmH _ _
 ·by_cases h2:n < 65536
  ·rw [zD0 h1 h2]; exact zdY (zmH _ _) (zmH _ _)
  ·rw [zEh h1 h2 h]; exact zdY (zmH _ _) (zmH _ _)
theorem zvB {n:Int} (h:0≤n∧n≤4294967295):Byt (zqR n):=by
 obtain ⟨m,rfl⟩:∃ m:Nat,n=(m:Int):=⟨n.toNat,by omega⟩
 rw [zh2 (by omega)]; exact zmH _ _
theorem zFs {s:List Int} (h:Byt s) (hl:s.length≤1000000):Byt (bsB s):=zdY (zyp (by omega)) h
theorem zGK {x:Inp} (h:InpOk x):Byt (znY x):=by
 have hp:=h.pv
 rw [zsZ (by omega),zww (by omega)]
 intro y hy
 obtain ⟨i,hi,rfl⟩:=List.mem_map.1 hy
 exact h.by_ i (List.mem_range.1 hi)
theorem zHj {t:TxT} (h:TxOk t) (hi:∀ x ∈ t.ins,InOk x) (ho:∀ x ∈ t.outs,OutOk x) (li:t.ins.length≤64) (lo:t.outs.length≤64):Byt (zgC t true):=by
 unfold zgC
 simp only [if_true]
 refine zdY (zdY (zdY (zdY (zdY (zdY (zvB h.ver) (zyp (by omega))) (zw8 fun x hx=>?_)) (zyp (by omega))) (zw8 fun o hx=>?_)) (zvB h.lock)) (zw8 fun x hx=>?_)
 ·exact zdY (zdY (zGK (h.ins x hx)) (zvB (hi x hx).ix)) (zvB (hi x hx).sq)
 ·have hv:=(ho o hx).val
  have hs:=(ho o hx).scr
  obtain ⟨v,hv2⟩:∃ n:Nat,o.val=(n:Int):=⟨o.val.toNat,by omega⟩
  unfold zhz
  rw [hv2,zbk (by omega) (by omega),zyu]
  exact zdY (zmH _ _) (zFs (h.outs o hx).scr (by omega))
 ·have h1:=(hi x hx).wl
  unfold ziF
  refine zdY (zyp (by omega)) (zw8 fun y hy=>?_)
  have:=(hi x hx).wi y hy
  exact zFs ((h.ins x hx).wit y hy).1 (by omega)
theorem zE1 {t:TxT} (h:zdH t=true):t.ins.length≤64∧t.outs.length≤64∧(∀ o ∈ t.outs,0≤o.val∧o.scr.length≤520)∧(∀ x ∈ t.ins,x.wit.length≤32∧∀ y ∈ x.wit,y.length≤520)∧(zgC t true).length≤20000:=by
 unfold zdH at h
 simp only [Bool.and_eq_true,decide_eq_true_eq,List.all_eq_true,okO,okI] at h
 obtain ⟨⟨⟨⟨h1,h2⟩,h3⟩,h4⟩,h5⟩:=h
 exact ⟨h1,h2,h3,h4,h5⟩
theorem zIE {t:TxT} (h1:t.ins.length≤64) (h2:t.outs.length≤64) (h3:∀ o ∈ t.outs,0≤o.val∧o.scr.length≤520) (h4:∀ x ∈ t.ins,x.wit.length≤32∧∀ y ∈ x.wit,y.length≤520) (h5:(zgC t true).length≤20000):zdH t=true:=by
 unfold zdH
 simp only [Bool.and_eq_true,decide_eq_true_eq,List.all_eq_true,okO,okI]
 exact ⟨⟨⟨⟨h1,h2⟩,h3⟩,h4⟩,h5⟩
theorem zzV {L:Nat} (hL:2000≤L) {j:List Int} (hb:Byt j) (hj:j.length≤3000) (k:Bool→Option Bool) :
  yK Bool L (xn .u8 j) (fun v17 v18 =>
   chk ((List.length v17)=4∧0+4≤4) (
   lt (zl [(V.sc (.int .u32 (0:Int))),(V.gs 35 ([]:List (List V))),(V.gs 2 ([]:List (List V))),(V.sc (.int .u32 (0:Int)))] 0 v17) fun r19 =>
   ifb ((v18:Int) != (0:Int)) (
   cLd 35 r19 1 fun v20 =>
   cLd 2 r19 2 fun v21 =>
   lt (IntKind.wrap .i64 ((((List.length v20:Nat):Int):Int)+((List.length v21:Nat):Int))) fun x22 =>
   k ((x22:Int) == (0:Int))) (
   chk (0+4≤(List.length r19)) (
   xF Bool L (List.map V.dem (List.take 4 r19)) true (fun v23 v24 =>
   ifb ((v24:Int) == (0:Int)) (
   xd Bool L v23 (xn .u8 j) (fun v25 =>
   k v25)) (
   k false))))))=k true:=by
 by_cases h:∃ t,gTx j 0=.ok (t,j.length)
 ·obtain ⟨t,h⟩:=h
  have l4:=zcS t
  obtain ⟨d1,d2,d3,d4⟩:=zKh hb h
  have hs:=zE9 (Nat.zero_le _) h
  have s1:=hs.i
  have s2:=hs.o
  have hf:zdH t=true:=zIE s1 s2 (fun o ho=>⟨(d3 o ho).val.1,(d3 o ho).scr⟩) d4 (by rw [d1]; exact d2)
  have hk:KeptP t:=⟨by omega,by omega,fun x hx=>by have:=(d4 x hx).1; omega,fun x hx y hy=>by have:=(d4 x hx).2 y hy; omega,fun x hx=>by have:=(d3 x hx).scr; omega⟩
  rw [zCg (by omega) hb (by omega) h,xl (by omega),zjJ,yp,zB,if_pos rfl,xl (by omega),zpw,zB0 hL hk,if_pos hf,zcY rfl,d1,zt7]
 ·obtain ⟨e,he,q⟩:=zIb (β:=Bool) (L:=L) (by omega) hb (by omega) (fun t ht=>h ⟨t,ht⟩)
  rw [q,xl (by rw [zcS]; omega),zjJ,yp,zB,if_neg he,zof,zoj]
  rfl
theorem zCc (a0:List V) (a1:List (List V)) (wf0:HasRow ([.int .u32]++[.sl (List.replicate 32 (.int .u8)++List.replicate 2 (.int .u32)++[.sl ([.sl ([.int .u8])])])]++[.sl ([.int .i64]++[.sl ([.int .u8])])]++[.int .u32]) a0) (hl1:a1.length≤maxLen) (wf1:∀ e ∈ a1,HasRow [.int .u8] e):∃ L,∀ k:Bool→Option Bool,zb7 Bool L a0 a1 k=k true:=by
 obtain ⟨t,rfl,ht⟩:=zJV wf0
 obtain ⟨j,rfl,hw⟩:=zvs wf1
 obtain ⟨L,hL⟩:∃ L:Nat,2000≤L:=⟨2000,Nat.le_refl _⟩
 refine ⟨L,fun k=>?_⟩
 have l4:=zcS t
 unfold zb7 zlR
 rw [zIw (by omega)]
 simp only [Bool.not_true,zhE]
 rw [xl (by omega),zpw,zJJ hL]
 cases hk:zwG t with
 | false=>rfl
 | true =>
  simp only [Bool.not_true,zhE]
  rw [xM,zcN]
  by_cases h:(j.length:Int) > 3000
  ·rw [if_pos h]
  ·rw [if_neg h,xl (by omega),zB0 hL (zI6 hk)]
   have hb:=zJk hw
   by_cases hf:zdH t=true
   ·obtain ⟨f1,f2,f3,f4,f5⟩:=zE1 hf
    have hi:∀ x ∈ t.ins,InOk x:=fun x hx=>⟨(ht.ins x hx).pv,(ht.ins x hx).ix,(ht.ins x hx).seq,(f4 x hx).1,(f4 x hx).2⟩
    have ho:∀ x ∈ t.outs,OutOk x:=fun x hx=>⟨⟨(f3 x hx).1,(ht.outs x hx).val.2⟩,(f3 x hx).2⟩
    have hg:=zKa ht.ver ht.lock hi ho f1 f2 f5
    have hbe:=zHj ht hi ho f1 f2
    have hs:SmallT t:=⟨f1,f2,fun x hx=>(f4 x hx).1⟩
    rw [if_pos hf,zcY rfl,zCg (by omega) hbe (by omega) hg,xl (by omega),zjJ,yp,zB,if_pos rfl,xl (by omega),xl (by omega),zpw,zJg (by omega) hs]
    simp only [Bool.not_true,zhE]
    exact zzV hL hb (by omega) k
   ·rw [if_neg hf,zcW (by decide)]
    exact zzV hL hb (by omega) k
end
section
namespace txBackL
open Go.ChangeShapes Go.WideShapes Go.ChangeAt Go.RowKit
set_option linter.unusedVariables false
theorem own:ownKnob Try.prog.godebug=none:=by kernel_rfl
theorem zDT:laidOutB Try.prog=true:=by kernel_rfl
set_option maxRecDepth 100000 in
theorem zJm (os:Os) (started:os.Started) (H:Type) (enc:TypeId × Value→H) :
  ReturnsInHanded {} Try.checked os 9 .any (Rows.txBackSpec.pre6 enc Try.prog Try.f9 Rows.txBackRow.domain false) (Rows.txBackSpec.post enc Try.prog Try.f9 false true false false):=by
 refine returnsInHanded_of_change (C:=Try.checked) own started (by kernel_rfl) Try.func9
  (ChangeSpec.witness6 (enc:=enc) (C:=Try.checked) false ⟨#[],#[.agg (#[(Value.int .u32 0)]++#[(Value.slice none 0 0)]++#[(Value.slice none 0 0)]++#[(Value.int .u32 0)]),.slice none 0 0],[]⟩ 8 (by kernel_rfl) (by kernel_rfl) (by kernel_rfl) (by kernel_rfl)) ?_
 intro W base args ds gs before hval0 hW hcnd _
 have hval:∀ (j:Nat) t v,Try.f9.params[j]?=some t→args[j]?=some v→Value.okWide Try.prog W .any base t v:=hval0
 have hW':=hW
 obtain ⟨p,q,hA0,hV,rfl,hfz,hnd⟩:=hW
 have hA:DataW.TrodAll enc Try.prog W 0 (fun _=>true) true Try.f9.params.toList args.toList ds p:=hA0
 rw [Try.params9] at hA hval
 obtain ⟨v0,vs0,d0,ds0,p0,q0,hargs,rfl,rfl,h0,r0⟩:=trodAll_cons hA
 obtain ⟨v1,vs1,d1,ds1,p1,q1,rfl,rfl,rfl,h1,r1⟩:=trodAll_cons r0
 obtain ⟨rfl,rfl,rfl⟩:=trodAll_nil r1
 obtain rfl:args=#[v0,v1]:=by cases args; simp_all
 obtain ⟨rfl,rfl⟩:=trodVars_none hV
 have k0:=h0
 have lt0:∀ x ∈ p0,x.block < W.heap.size:=by obtain ⟨m,hm⟩:=k0; exact DataW.trod_lt m _ _ _ hm
 have k1:=h1
 have lt1:∀ x ∈ p1,x.block < W.heap.size:=by obtain ⟨m,hm⟩:=k1; exact DataW.trod_lt m _ _ _ hm
 obtain ⟨a0,wf0,rp0⟩:=zIg (ren:=yF fg gls) (d:=20) (cts:=[.int .u32]++[.sl (List.replicate 32 (.int .u8)++List.replicate 2 (.int .u32)++[.sl ([.sl ([.int .u8])])])]++[.sl ([.int .i64]++[.sl ([.int .u8])])]++[.int .u32]) (by kernel_rfl) (hval 0 26 v0 rfl rfl) h0 (by kernel_rfl)
 obtain ⟨A1,len1,cap1,rfl⟩:=okWide_slice Try.underlying30 (hval 1 30 v1 rfl rfl)
 obtain ⟨x1,hx1,rp1⟩:=zIN (r:=.any) (b0:=base) (ren:=yF fg gls) (d:=20) (ct:=.sl ([.int .u8])) rfl h1 (by kernel_rfl)
 obtain ⟨a1,rfl,hl1,wf1⟩:=hx1.sl_inv
 clear hA0 hval0
 obtain ⟨L,hL⟩:=zCc a0 a1 wf0 hl1 wf1
 have hd:zh6 zb7 L Bool [(V.agg a0),(V.sl 1 a1)] [] zvq=some true:=by
  show (aG (V.agg a0) fun x0=>aL 1 (V.sl 1 a1) fun x1=>zb7 Bool L x0 x1 (fun p=>zvq (V.sc (.bool p)) []))=some true
  rw [zJN,zJ4]
  exact (hL (fun p=>zvq (V.sc (.bool p)) [])).trans rfl
 obtain ⟨v,b,hev,hk⟩:=zwy L 100 (by decide) Bool [(V.agg a0),(V.sl 1 a1)] [] zvq true hd
 have hv:=zGd hk
 subst hv
 refine (zEs (us:=[v0,.slice A1 len1 cap1]) (w:=W) (fun _ _ h=>by cases h) (zJM L 100) (f:=9) (by kernel_rfl) rfl (fun i x u hx hu=>?_) hev).mono fun e W' ⟨he,bel0⟩=>?_
 ·match i,hx,hu with
  | 0,hx,hu=>cases hx; cases hu; exact rp0
  | 1,hx,hu=>cases hx; cases hu; exact rp1
  | n+2,hx,hu=>simp at hx
 ·have bel:=Kept.below bel0
  subst he
  exact ⟨_,rfl,_,_,_,[],_,[],hW',trodAll_mk1 (shut_bool Try.underlying4 _),(trodAll_cons_mk (Below.trod zDT (by kernel_rfl) (of_decide_eq_true (by kernel_rfl)) k0 bel lt0) (trodAll_cons_mk (Below.trod zDT (by kernel_rfl) (of_decide_eq_true (by kernel_rfl)) k1 bel lt1) trodAll_mk0)),rfl,bel.frame _,fun h=>by cases h⟩
theorem over:Rows.txBackRow.holds Try.pinned (OpenSpec.ofChange Rows.txBackSpec) :=
 OpenClaim.holds_of_wide 9 Try.f9 rfl rfl rfl rfl rfl rfl rfl ⟨rfl,rfl,rfl,rfl,rfl⟩ rfl rfl rfl rfl rfl (by kernel_rfl) Try.func9 (by kernel_rfl)
  (of_decide_eq_true (by kernel_rfl)) (by unfold Func.isWrapper; first | (rw [if_pos (by decide +kernel)]; kernel_rfl) | (rw [if_neg (by decide +kernel)]; exact ⟨rfl,rfl⟩))
  (fun os started H enc _=>zJm os started H enc)
end txBackL
theorem txBack_holds:Rows.TxBackSaid:=txBackL.over
end
end Go.Proofs.Ytoeobffjdbdpgaa
