/- BlockChecks: for every input the call returns true, and each argument reads afterwards as it read before. Condition: the package variables lightclient/sha.k and lightclient/sha.initial begin as the program text lays them (the card ties them to the pruned copy of the text); nothing else is asked. -/
import Derived.LaidMore
import Derived.OpenShut
import Derived.MakeChecks
import Derived.LaidLaws
import Derived.Test.YtgmhijonllockaaGreatDoorRows
import Derived.JoinedOf
import Derived.Test.YtgmhijonllockaaGreatDoorCards
import Derived.Test.YtgmhijonllockaaGreatDoorTie
import Derived.SevenTiedAt
import Derived.Stop.Joined
import Derived.Test.YtgmhijonllockaaGreatDoorMBlockChecks15
namespace Go.Proofs.YtgmhijonllockaaGreatDoor
set_option maxRecDepth 100000
set_option linter.unusedVariables false
set_option linter.unusedSimpArgs false
open List renaming replicate->We,drop_of_length_le->WK,length_map->QB,drop_zero->XQ,getElem_mem->W2,length_take->Ww,take_of_length_le->XE,take_succ_eq_append_getElem->XU,length_cons->XW,drop_eq_getElem_cons->WQ,length_append->Wm,take_zero->X2,append_assoc->Wu,length_nil->XY,getD_eq_getElem?_getD->Ws,length->XK,mem_of_mem_take->WV
open Option.some renaming inj->QV
open _root_.Array renaming getElem?_toList->W5
section
variable {β:Type}
def zmL(l:List TxT):List (List Int):=l.map fun t=>zfJ t true
theorem zXP{l:List TxT}(h:∀ t∈l,TxOk t):∀ x∈zmL l,H32 x:=fun x hx=>by
 obtain ⟨t,ht,rfl⟩:=List.mem_map.1 hx
 exact z2R (h t ht) true
theorem zGX(l:List TxT):(zmL l).length=l.length:=by simp [zmL]
theorem zTT{l:List TxT}{i:Nat}(h:i<l.length):zmL (l.take i)++[zfJ l[i] true]=zmL (l.take (i+1)):=by
 simp only [zmL,XU h,List.map_append,List.map_cons,List.map_nil]
def zGV(l:List TxT):List Int:=zru (zmL l)
theorem zK5{l:List TxT}(h:∀ t∈l,TxOk t):H32 (zGV l):=z7X (zXP h)
theorem z10{L:Nat}(hL:4000000≤L)(kx:Ls→List V→Option β)(l:List TxT)(hl:l.length≤10000)(hk:∀ t∈l,TxOk t∧KeptP t)(b2:List V):∀ (n i:Nat),i≤l.length→l.length-i<n →
  ziM yV zI L kx n (zaA (zmL (l.take i))) (l.map zav) (l.length:Int) (i:Int) b2=kx (zaA (zmL l)) b2:=by
 intro n
 induction n with
 | zero=>intro i h1 h2; omega
 | succ n ih=>
  intro i h1 h2
  simp only [ziM,zrP,zz]
  by_cases h:i<l.length
  ·obtain ⟨ht,hki⟩:=hk l[i] (W2 h)
   have hn:=zqQ l[i] true
   rw [yA (by omega),xT (zgC h),zew,zcG,zet,zbd,zbv,z94 hL ht hki,xi ⟨by rw [xy,hn],by omega⟩,zrv hn,zyO hn,xi (by simp only [zex,zGX,Ww,XW,XY]; unfold xo; omega),zux,zTT h,up (by omega)]
   exact ih (i+1) (by omega) (by omega)
  ·rw [xB (by omega),XE (by omega)]
theorem z1Q{L:Nat}(hL:4000000≤L)(kx:Ls→List V→Option β)(l:List TxT)(hl:l.length≤10000)(hk:∀ t∈l,TxOk t∧KeptP t)(b2:List V):∀ (n i:Nat),i≤l.length→l.length-i<n →
  ziA yK xK L kx n (zaA (zmL (l.take i))) (l.map zav) (l.length:Int) (i:Int) b2=kx (zaA (zmL l)) b2:=by
 intro n
 induction n with
 | zero=>intro i h1 h2; omega
 | succ n ih=>
  intro i h1 h2
  simp only [ziA,zsH,zz]
  by_cases h:i<l.length
  ·obtain ⟨ht,hki⟩:=hk l[i] (W2 h)
   have hn:=zqQ l[i] true
   rw [yA (by omega),xT (zgC h),zew,zcG,zet,zbd,zbv,z8A hL ht hki,xi ⟨by rw [xy,hn],by omega⟩,zrv hn,zyO hn,xi (by simp only [zex,zGX,Ww,XW,XY]; unfold xo; omega),zux,zTT h,up (by omega)]
   exact ih (i+1) (by omega) (by omega)
  ·rw [xB (by omega),XE (by omega)]
theorem z9I{L:Nat}(hL:4000000≤L){l:List TxT}(hl:l.length≤10000)(hk:∀ t∈l,TxOk t∧KeptP t)(k:List V→Option β):yr β L (l.map zav) k=k (row .u8 (zGV l)):=by
 have hh:=zXP fun t ht=>(hk t ht).1
 have hr:=(zK5 fun t ht=>(hk t ht).1).1
 simp only [yr,zwo,zD3,QB]
 have q:=z10 (L:=L) hL (fun p3 b2=>zkd yV zI L p3 b2 k) l hl hk (We 32 (Qa (0:Int))) L 0 (by omega) (by omega)
 rw [X2] at q
 refine Eq.trans q ?_
 simp only [zkd]
 rw [yal (by omega) hh (by rw [zGX]; omega)]
 rw [show zru (zmL l)=zGV l from rfl,xi ⟨by rw [xy,hr],by simp⟩,zz,zrv hr,xi (by rw [xy,hr]; simp)]
theorem z4Z{L:Nat}(hL:4000000≤L){l:List TxT}(hl:l.length≤10000)(hk:∀ t∈l,TxOk t∧KeptP t)(k:List V→Option β):xh β L (l.map zav) k=k (row .u8 (zGV l)):=by
 have hh:=zXP fun t ht=>(hk t ht).1
 have hr:=(zK5 fun t ht=>(hk t ht).1).1
 simp only [xh,zv4,zEa,QB]
 have q:=z1Q (L:=L) hL (fun p3 b2=>zj3 yK xK L p3 b2 k) l hl hk (We 32 (Qa (0:Int))) L 0 (by omega) (by omega)
 rw [X2] at q
 refine Eq.trans q ?_
 simp only [zj3]
 rw [yaL (by omega) hh (by rw [zGX]; omega)]
 rw [show zru (zmL l)=zGV l from rfl,xi ⟨by rw [xy,hr],by simp⟩,zz,zrv hr,xi (by rw [xy,hr]; simp)]
def zPE(ids:List (List Int))(h:List Int):Int:=match zgd ids h 0 with
 | some j=>(j:Int)
 | none=>-1
theorem z4g{L:Nat}(kr:Int→Option β)(kx:Option β)(l:List (List Int))(hl:l.length≤1000000)(hk:∀ x∈l,H32 x){h:List Int}(hh:h.length=32):∀ (n i:Nat),i≤l.length→l.length-i<n →
  ziN L kr kx n (zaA l) (l.length:Int) (i:Int) (row .u8 h)=match zgd (l.drop i) h i with
   | some j=>kr (j:Int)
   | none=>kx:=by
 intro n
 induction n with
 | zero=>intro i h1 h2; omega
 | succ n ih=>
  intro i h1 h2
  simp only [ziN,zss,zz]
  by_cases hi:i<l.length
  ·have hx:=(hk l[i] (W2 hi)).1
   rw [yA (by omega),xT (znj hi),xi (by rw [xy,hh]; omega),zem hx,zem hh,zW8 .u8 hx hh,up (by omega),ih (i+1) (by omega) (by omega),WQ hi]
   simp only [zgd]
   by_cases e:l[i]=h
   ·rw [if_pos e,decide_eq_true e,zfj]
   ·rw [if_neg e,decide_eq_false e,zbH]
  ·rw [xB (by omega),WK (by omega)]; rfl
theorem zZ4{L:Nat}(hL:2000000≤L){l:List (List Int)}(hl:l.length≤1000000)(hk:∀ x∈l,H32 x){h:List Int}(hh:h.length=32)(k:Int→Option β):xc β L (zaA l) (row .u8 h) k=k (zPE l h):=by
 simp only [xc,ztL,zBI,zex]
 have q:=z4g (L:=L) (fun p4=>znl L p4 k) (zoz L k) l hl hk hh L 0 (by omega) (by omega)
 rw [XQ] at q
 refine Eq.trans q ?_
 unfold zPE
 cases zgd l h 0 <;> rfl
theorem z5O(ids:List (List Int))(i:Nat)(x:Inp):decide (zPE ids (zw9 x)≥(i:Int))=zId ids i x:=by
 unfold zPE zId
 cases zgd ids (zw9 x) 0 with
 | none=>simp only [decide_eq_false_iff_not]; omega
 | some p=>simp only [decide_eq_decide]; omega
theorem z9k{L:Nat}(hL:2000000≤L)(kr:Bool→Option β)(kx:Ls→Ls→Int→Int→Option β)(ids:List (List Int))(hil:ids.length≤1000000)(hh:∀ x∈ids,H32 x)(xs:List Inp)(hl:xs.length≤1000000)(p10:Ls)(i:Nat)(p11 p12:Int):∀ (n j:Nat),j≤xs.length→xs.length-j<n →
  zcK xc L kr kx n (zaA ids) (i:Int) p10 p11 p12 (xs.map zcF) (xs.length:Int) (j:Int)=ifb ((xs.drop j).any (zId ids i)) (kr true) (kx (zaA ids) p10 p11 p12):=by
 intro n
 induction n with
 | zero=>intro j h1 h2; omega
 | succ n ih=>
  intro j h1 h2
  simp only [zcK,zhS,zz]
  by_cases h:j<xs.length
  ·rw [yA (by omega),xT (zgw h),zeB,zdT,zgs,z2Q,zYs,zZ4 hL hil hh (zqm xs[j]),z5O,zyT h,up (by omega),ih (j+1) (by omega) (by omega)]
   cases zId ids i xs[j] <;> rfl
  ·rw [xB (by omega),WK (by omega)]; rfl
theorem z7d{L:Nat}(hL:2000000≤L)(kx:Option β)(kr:Bool→Option β)(ids:List (List Int))(hil:ids.length≤1000000)(hh:∀ x∈ids,H32 x)(l:List TxT)(hl:l.length≤10000)(hk:∀ t∈l,KeptP t):∀ (n i:Nat),i≤l.length→l.length-i<n →
  zg5 xc L kx kr n (zaA ids) (l.map zav) (l.length:Int) (i:Int)=ifb (zor ids (l.drop i) i) (kr true) kx:=by
 intro n
 induction n with
 | zero=>intro i h1 h2; omega
 | succ n ih=>
  intro i h1 h2
  simp only [zg5,ziS,zoQ,zz]
  by_cases h:i<l.length
  ·have hki:=hk l[i] (W2 h)
   have hni:=hki.ni
   rw [yA (by omega),xT (zgC h),zew,zcG,zet]
   simp only [zch,QB]
   rw [show ((0:Int))=((0:Nat):Int) from rfl,z9k hL _ _ ids hil hh l[i].ins (by omega) (l.map zav) i _ _ L 0 (by omega) (by omega),XQ]
   simp only [zgl,zgK,zz]
   rw [up (by omega),ih (i+1) (by omega) (by omega),z1E h]
   cases l[i].ins.any (zId ids i) <;> rfl
  ·rw [xB (by omega),WK (by omega)]; rfl
theorem z3W{L:Nat}(hL:2000000≤L){b:BkT}(hb:BkOk b){ids:List (List Int)}(hil:ids.length≤1000000)(hh:∀ x∈ids,H32 x)(k:Bool→Option β):xe β L (zeY b) (zaA ids) k=k (zor ids b.txs 0):=by
 have hn:=hb.n
 simp only [xe,zpB,zxe]
 simp only [zkS hb.hd,QB]
 rw [show ((0:Int))=((0:Nat):Int) from rfl,z7d hL _ _ ids hil hh b.txs hn (fun t ht=>(hb.tx t ht).2) L 0 (by omega) (by omega),XQ]
 cases zor ids b.txs 0 <;> rfl
theorem z6O(x y:Inp):eqP x y=eqP y x:=by
 have h:=zFg _ _ _ (zFr x y)
 rw [zFr] at h
 exact (QV h).symm
def pts(l:List Inp):Ls:=l.map zcW
theorem z2m(l:List Inp):(pts l).length=l.length:=by simp [pts]
theorem z8d{l:List Inp}{i:Nat}(h:i<l.length):(pts l)[i]?=some (zcW l[i]):=by simp [pts,h]
theorem z7K(x:Inp)(k:Option β):chk (0+33≤(XK (zcW x))) k=k:=xi (by rw [zhl]; omega) k
theorem z41(x:Inp)(k:Option β):chk ((XK (zcW x))=33∧0+33≤33) k=k:=xi ⟨zhl x,by decide⟩ k
theorem z7z(x:Inp):zq (We 32 (Qa (0:Int))++[(Qc (0:Int))]) 0 (zcW x)=zcW x:=zdd (by rw [zhl]; rfl)
theorem z8E(x:Inp):xn 33 1 (zcW x)=pts [x]:=rfl
theorem z6J{L:Nat}(kr:Bool→Option β)(kx:zxt β)(p3 p11:Ls)(p12 p13:Int)(p18:Ls)(p19 p20:Int)(xs:List Inp)(hl:xs.length≤1000000)(x:Inp):∀ (n j:Nat),j≤xs.length→xs.length-j<n →
  zbl L kr kx n p3 p11 p12 p13 p18 p19 p20 (pts xs) (xs.length:Int) (j:Int) (zcF x)=ifb ((xs.drop j).any (eqP x)) (kr true) (kx p3 p11 p12 p13 p18 p19 p20 (zcF x)):=by
 intro n
 induction n with
 | zero=>intro j h1 h2; omega
 | succ n ih=>
  intro j h1 h2
  simp only [zbl,zee,zz]
  by_cases h:j<xs.length
  ·rw [yA (by omega),xT (z8d h),zQy,z41,z7z,z7K,zQK,zQy,zqu,z1N,z6O,zyT h,up (by omega),ih (j+1) (by omega) (by omega)]
   cases eqP x xs[j] <;> rfl
  ·rw [xB (by omega),WK (by omega)]; rfl
theorem z78(l m:List Inp):pts l++pts m=pts (l++m):=by simp [pts]
theorem z93{L:Nat}(hL:4000000≤L)(kx:Ls→Ls→Int→Int→Option β)(kr:Bool→Option β)(pre xs:List Inp)(hp:pre.length+xs.length≤1000000)(p11:Ls)(p12 p13:Int):∀ (n j:Nat),j≤xs.length→xs.length-j<n →
  zcV L kx kr n (pts (pre++xs.take j)) p11 p12 p13 (xs.map zcF) (xs.length:Int) (j:Int)=ifb (za8 (pre++xs.take j) (xs.drop j)) (kr true) (kx (pts (pre++xs)) p11 p12 p13):=by
 intro n
 induction n with
 | zero=>intro j h1 h2; omega
 | succ n ih=>
  intro j h1 h2
  simp only [zcV,zeF,zin,zz]
  by_cases h:j<xs.length
  ·rw [yA (by omega),xT (zgw h),zeB,zdT,zgs,z2m]
   rw [show ((0:Int))=((0:Nat):Int) from rfl,z6J _ _ _ _ _ _ _ _ _ (pre++xs.take j) (by simp only [Wm,Ww]; omega) xs[j] L 0 (by omega) (by simp only [Wm,Ww]; omega),XQ,zYH h]
   simp only [zdg,zdA,zz]
   rw [zQK,zqu,z41,z7z,z8E,xi (by simp only [z2m,Wm,Ww,XW,XY]; unfold xo; omega),z78,Wu,← XU h,up (by omega),ih (j+1) (by omega) (by omega)]
   cases (pre++xs.take j).any (eqP xs[j]) <;> rfl
  ·rw [xB (by omega),WK (by omega),XE (by omega)]; rfl
theorem z5W{l:List TxT}(h:∀ t∈l,KeptP t):(zgM l).length≤l.length*70:=by
 induction l with
 | nil=>simp [zgM]
 | cons t l ih=>
  have h1:=(h t (by simp)).ni
  have h2:=ih fun x hx=>h x (by simp [hx])
  simp only [zgM,List.flatMap_cons,Wm,XW] at h2 ⊢
  omega
theorem z6C{L:Nat}(hL:4000000≤L)(kx:Option β)(kr:Bool→Option β)(l:List TxT)(hl:l.length≤10000)(hk:∀ t∈l,KeptP t):∀ (n i:Nat),i≤l.length→l.length-i<n →
  zfp L kx kr n (pts (zgM (l.take i))) (l.map zav) (l.length:Int) (i:Int)=ifb (za8 (zgM (l.take i)) (zgM (l.drop i))) (kr true) kx:=by
 intro n
 induction n with
 | zero=>intro i h1 h2; omega
 | succ n ih=>
  intro i h1 h2
  simp only [zfp,zj7,zqe,zz]
  by_cases h:i<l.length
  ·have hki:=hk l[i] (W2 h)
   have hni:=hki.ni
   have hi2:=z5W (l:=l.take i) fun t ht=>hk t (WV ht)
   rw [Ww] at hi2
   have hb:(zgM (l.take i)).length+l[i].ins.length≤1000000:=by
    have:min i l.length≤10000:=by omega
    omega
   rw [yA (by omega),xT (zgC h),zew,zcG,zet]
   simp only [zch,QB]
   have q:=z93 (L:=L) hL (fun p3 p11 p12 p13=>zec L p3 p11 p12 p13 (fun p3 p11 p12 p13=>zfp L kx kr n p3 p11 p12 p13)) (fun p2=>zdL L p2 kr) (zgM (l.take i)) l[i].ins hb (l.map zav) (l.length:Int) (i:Int) L 0 (by omega) (by omega)
   rw [X2,List.append_nil,XQ] at q
   refine Eq.trans q ?_
   rw [zMb h,z1C h,zIw,zMb h]
   simp only [zec,zdL,zz]
   rw [up (by omega),ih (i+1) (by omega) (by omega)]
   cases za8 (zgM (l.take i)) l[i].ins <;> rfl
  ·rw [xB (by omega),WK (by omega)]; rfl
theorem z6G{L:Nat}(hL:4000000≤L){b:BkT}(hb:BkOk b)(k:Bool→Option β):zi β L (zeY b) k=k (za8 [] (zgM b.txs)):=by
 have hn:=hb.n
 simp only [zi,ztW,zA0]
 simp only [zkS hb.hd,QB]
 have q:=z6C (L:=L) hL (znt L k) (fun p2=>zl8 L p2 k) b.txs hn (fun t ht=>(hb.tx t ht).2) L 0 (by omega) (by omega)
 rw [X2,XQ] at q
 refine Eq.trans q ?_
 show ifb (za8 [] (zgM b.txs)) (k true) (k false)=_
 cases za8 [] (zgM b.txs) <;> rfl
def zG2:List TxT→Nat→Bool
 | [],_=>true
 | t::l,i=>(cbB t==((i:Int)==0))&&zG2 l (i+1)
theorem z2W{l:List TxT}{i:Nat}(h:i<l.length):zG2 (l.drop i) i=((cbB l[i]==((i:Int)==0))&&zG2 (l.drop (i+1)) (i+1)):=by
 rw [WQ h]; rfl
def zv2:List TxT→Int
 | []=>0
 | t::l=>if zeW t=0 then zv2 l else zeW t
theorem z0P{l:List TxT}{i:Nat}(h:i<l.length):zv2 (l.drop i)=if zeW l[i]=0 then zv2 (l.drop (i+1)) else zeW l[i]:=by
 rw [WQ h]; rfl
theorem z6L{L:Nat}(kr:Int→Option β)(kx:List V→Option β)(l:List TxT)(hl:l.length≤10000)(b1:List V):∀ (n i:Nat),i≤l.length→l.length-i<n →
  zg4 zn zf zx yp yr L kr kx n (l.map zav) (l.length:Int) (i:Int) b1=ifb (zG2 (l.drop i) i) (kx b1) (kr 111):=by
 intro n
 induction n with
 | zero=>intro i h1 h2; omega
 | succ n ih=>
  intro i h1 h2
  simp only [zg4,zoG,zz]
  by_cases h:i<l.length
  ·rw [yA (by omega),xT (zgC h),zew,zcG,zet,zbd,zbv,zVp,z2W h,up (by omega),ih (i+1) (by omega) (by omega)]
   cases cbB l[i]==((i:Int)==0) <;> rfl
  ·rw [xB (by omega),WK (by omega)]; rfl
theorem z54{L:Nat}(kr:Int→Option β)(kx:List V→Option β)(l:List TxT)(hl:l.length≤10000)(b1:List V):∀ (n i:Nat),i≤l.length→l.length-i<n →
  zg3 zj za yh yn xc xe zi xh L kr kx n (l.map zav) (l.length:Int) (i:Int) b1=ifb (zG2 (l.drop i) i) (kx b1) (kr 111):=by
 intro n
 induction n with
 | zero=>intro i h1 h2; omega
 | succ n ih=>
  intro i h1 h2
  simp only [zg3,zoT,zz]
  by_cases h:i<l.length
  ·rw [yA (by omega),xT (zgC h),zew,zcG,zet,zbd,zbv,zRP,z2W h,up (by omega),ih (i+1) (by omega) (by omega)]
   cases cbB l[i]==((i:Int)==0) <;> rfl
  ·rw [xB (by omega),WK (by omega)]; rfl
theorem z60{L:Nat}(hL:2000≤L)(kr:Int→Option β)(kx:List V→Option β)(l:List TxT)(hl:l.length≤10000)(hk:∀ t∈l,KeptP t)(b1:List V):∀ (n i:Nat),i≤l.length→l.length-i<n →
  zgk zn zf zx yp yr L kr kx n (l.map zav) (l.length:Int) (i:Int) b1=if zv2 (l.drop i)=0 then kx b1 else kr (zv2 (l.drop i)):=by
 intro n
 induction n with
 | zero=>intro i h1 h2; omega
 | succ n ih=>
  intro i h1 h2
  simp only [zgk,zob,zz]
  by_cases h:i<l.length
  ·rw [yA (by omega),xT (zgC h),zew,zcG,zet,zbd,zbv,z7S hL (hk l[i] (W2 h)),z0P h,up (by omega),ih (i+1) (by omega) (by omega),zrj]
   by_cases e:zeW l[i]=0
   ·rw [if_pos e,if_pos e]
   ·rw [if_neg e,if_neg e,if_neg e]
  ·rw [xB (by omega),WK (by omega)]; rfl
theorem z6s{L:Nat}(hL:2000≤L)(kr:Int→Option β)(kx:Ls→List V→Option β)(l:List TxT)(hl:l.length≤10000)(hk:∀ t∈l,KeptP t)(p5:Ls)(b1:List V):∀ (n i:Nat),i≤l.length→l.length-i<n →
  zfB zj za yh yn xc xe zi xh L kr kx n p5 (l.map zav) (l.length:Int) (i:Int) b1=if zv2 (l.drop i)=0 then kx p5 b1 else kr (zv2 (l.drop i)):=by
 intro n
 induction n with
 | zero=>intro i h1 h2; omega
 | succ n ih=>
  intro i h1 h2
  simp only [zfB,zmN,zz]
  by_cases h:i<l.length
  ·rw [yA (by omega),xT (zgC h),zew,zcG,zet,zbd,zbv,z6W hL (hk l[i] (W2 h)),z0P h,up (by omega),ih (i+1) (by omega) (by omega),zrj]
   by_cases e:zeW l[i]=0
   ·rw [if_pos e,if_pos e]
   ·rw [if_neg e,if_neg e,if_neg e]
  ·rw [xB (by omega),WK (by omega)]; rfl
theorem z5U{L:Nat}(hL:4000000≤L)(kr:Int→Option β)(kx:Ls→List V→Option β)(l:List TxT)(hl:l.length≤10000)(hk:∀ t∈l,TxOk t∧KeptP t)(b1:List V):∀ (n i:Nat),i≤l.length→l.length-i<n →
  ze1 zj za yh yn xc xe zi xh L kr kx n (zaA ((zdj l).take i)) (l.map zav) (l.length:Int) (i:Int) b1=ifb (zMa ((zdj l).take i) ((zdj l).drop i)) (kr 91) (kx (zaA (zdj l)) b1):=by
 intro n
 induction n with
 | zero=>intro i h1 h2; omega
 | succ n ih=>
  intro i h1 h2
  simp only [ze1,zlI,zz]
  by_cases h:i<l.length
  ·obtain ⟨ht,hki⟩:=hk l[i] (W2 h)
   have h':i<(zdj l).length:=by rw [zDu]; exact h
   have hn:=zqQ l[i] false
   have hh:∀ x∈(zdj l).take i,H32 x:=fun x hx=>zZI (fun t ht=>(hk t ht).1) x (WV hx)
   have e:(zdj l).take i++[zfJ l[i] false]=(zdj l).take (i+1):=by rw [XU h',zQt h]
   have c1:∀ (k:Option β),chk (0+32≤(XK (row .u8 (zfJ l[i] false)))) k=k:=fun k=>xi (by rw [xy,hn]; omega) k
   have c2:∀ (k:Option β),chk ((XK (row .u8 (zfJ l[i] false)))=32∧0+32≤32) k=k:=fun k=>xi ⟨by rw [xy,hn],by omega⟩ k
   rw [yA (by omega),xT (zgC h),zew,zcG,zet,zbd,zbv,yaH hL ht hki,c2,zrv hn,c1,zem hn,zZ4 (by omega) (by rw [Ww]; omega) hh hn,c1,c2,zrv hn,zyO hn,
    xi (by simp only [zex,Ww,XW,XY]; unfold xo; omega),zux,e,up (by omega),ih (i+1) (by omega) (by omega),zYe h',zQt h]
   unfold zPE
   cases hp:zgd ((zdj l).take i) (zfJ l[i] false) 0 with
   | some j=>
    simp only [Option.isSome_some,Bool.true_or]
    rw [yA (by omega)]; rfl
   | none=>
    simp only [Option.isSome_none,Bool.false_or]
    rw [xB (by omega)]
  ·have h':¬ i<(zdj l).length:=by rw [zDu]; exact h
   rw [xB (by omega),WK (by omega),XE (by omega)]; rfl
def zUS(b:BkT):Int:=if okK b=true then (if b.txs.length=0 then 93 else if zG2 b.txs 0=true then (if zv2 b.txs=0 then (if zmv b.txs=0 then (if zGV b.txs=b.hd.root then 0 else 110) else zmv b.txs) else zv2 b.txs) else 111) else 4
theorem z2X{L:Nat}(hL:4000000≤L){b:BkT}(hb:BkOk b)(k:Int→Option β):zaQ β L (zeY b) k=k (zUS b):=by
 have hn:=hb.n
 have hk2:∀ t∈b.txs,KeptP t:=fun t ht=>(hb.tx t ht).2
 have hr:=(zK5 fun t ht=>(hb.tx t ht).1).1
 simp only [zaQ,ztO,zAU]
 rw [zmi hb.hd,zy0 hb.hd,z57 (by omega) hb]
 unfold zUS
 cases okK b
 ·rfl
 ·rw [if_pos rfl,if_pos rfl,zrj,if_pos rfl]
  simp only [zkS hb.hd,QB]
  by_cases h0:b.txs.length=0
  ·rw [ze4 (by omega),if_pos h0]
  ·rw [zfU (by omega),if_neg h0,show ((0:Int))=((0:Nat):Int) from rfl,z6L _ _ b.txs hn _ L 0 (by omega) (by omega),XQ]
   simp only [zlr,zhK,zmu]
   cases zG2 b.txs 0
   ·rfl
   ·rw [zfj,if_pos rfl]
    simp only [zkS hb.hd,QB]
    rw [show ((0:Int))=((0:Nat):Int) from rfl,z60 (by omega) _ _ b.txs hn hk2 _ L 0 (by omega) (by omega),XQ]
    simp only [zkr,zlk]
    by_cases he:zv2 b.txs=0
    ·rw [if_pos he,if_pos (by exact he)]
     simp only [zkS hb.hd]
     rw [z6N hL hn hb.tx,zrj]
     by_cases hc:zmv b.txs=0
     ·rw [if_pos (by exact hc),if_pos (by exact hc),z9I hL hn hb.tx,xi (by rw [znb hb.hd]; omega),zX7 hb.hd,zW8 .u8 hr hb.hd.rl]
      by_cases ht:zGV b.txs=b.hd.root
      ·rw [if_pos ht,decide_eq_true ht]; rfl
      ·rw [if_neg ht,decide_eq_false ht]; rfl
     ·rw [if_neg (by exact hc),if_neg (by exact hc)]
    ·rw [if_neg he,if_neg (by exact he)]
theorem z2v{L:Nat}(hL:4000000≤L){b:BkT}(hb:BkOk b)(k:Int→Option β):zaR β L (zeY b) k=k (zUS b):=by
 have hn:=hb.n
 have hk2:∀ t∈b.txs,KeptP t:=fun t ht=>(hb.tx t ht).2
 have hh:∀ x∈zdj b.txs,H32 x:=zZI fun t ht=>(hb.tx t ht).1
 have hr:=(zK5 fun t ht=>(hb.tx t ht).1).1
 simp only [zaR,ztC,zBt]
 rw [zmi hb.hd,zy0 hb.hd,z9R (by omega) hb]
 unfold zUS
 cases okK b
 ·rfl
 ·rw [Bool.not_true,zbH,if_pos rfl]
  simp only [zkS hb.hd,QB]
  by_cases h0:b.txs.length=0
  ·rw [ze4 (by omega),if_pos h0]
  ·rw [zfU (by omega),if_neg h0,show ((0:Int))=((0:Nat):Int) from rfl,z54 _ _ b.txs hn _ L 0 (by omega) (by omega),XQ]
   simp only [zlB,zhI,zmW]
   cases zG2 b.txs 0
   ·rfl
   ·rw [zfj,if_pos rfl]
    simp only [zkS hb.hd,QB]
    rw [show ((0:Int))=((0:Nat):Int) from rfl,z6s (by omega) _ _ b.txs hn hk2 _ _ L 0 (by omega) (by omega),XQ]
    simp only [zjW,zgf,zko]
    by_cases he:zv2 b.txs=0
    ·rw [if_pos he,if_pos (by exact he)]
     simp only [zkS hb.hd,QB]
     have q:=z5U (L:=L) hL (fun p2=>zfI zj za yh yn xc xe zi xh L p2 k) (fun p5 b1=>zgq zj za yh yn xc xe zi xh L p5 b1 k) b.txs hn hb.tx (zeY b) L 0 (by omega) (by omega)
     rw [X2,XQ] at q
     refine Eq.trans q ?_
     simp only [zfI,zgq]
     rw [zmi hb.hd,zy0 hb.hd,z3W (by omega) hb (by rw [zDu]; omega) hh,zmi hb.hd,z6G hL hb]
     cases h1:zMa [] (zdj b.txs)
     ·rw [zbH]
      cases h2:zor (zdj b.txs) b.txs 0
      ·rw [zbH]
       cases h3:za8 [] (zgM b.txs)
       ·rw [zbH,show zmv b.txs=0 by simp [zmv,h1,h2,h3],if_pos (by rfl),zkS hb.hd,z4Z hL hn hb.tx,xi (by rw [znb hb.hd]; omega),zX7 hb.hd,zW8 .u8 hr hb.hd.rl]
        by_cases ht:zGV b.txs=b.hd.root
        ·rw [if_pos ht,decide_eq_true ht]; rfl
        ·rw [if_neg ht,decide_eq_false ht]; rfl
       ·rw [show zmv b.txs=91 by simp [zmv,h1,h2,h3]]; rfl
      ·rw [show zmv b.txs=101 by simp [zmv,h1,h2]]; rfl
     ·rw [show zmv b.txs=91 by simp [zmv,h1]]; rfl
    ·rw [if_neg he,if_neg (by exact he)]
end
section
variable {β:Type}
theorem z7t:∀ {es:Ls},(∀ e∈es,HasRow ([.int .u32]++[.sl (We 32 (.int .u8)++We 2 (.int .u32)++[.sl ([.sl ([.int .u8])])])]++[.sl ([.int .i64]++[.sl ([.int .u8])])]++[.int .u32]) e)→∃ w:List TxT,es=w.map zav∧∀ t∈w,TxOk t
 | [],_=>⟨[],rfl,by simp⟩
 | e::es,h=>by
  obtain ⟨t,rfl,ht⟩:=yaF (h e (by simp))
  obtain ⟨w,rfl,hw⟩:=z7t (es:=es) (fun x hx=>h x (by simp [hx]))
  refine ⟨t::w,rfl,fun b hb=>?_⟩
  rcases List.mem_cons.1 hb with rfl | hb
  ·exact ht
  ·exact hw b hb
theorem z9a{a:List V}(h:HasRow ([.int .u32]++We 64 (.int .u8)++We 3 (.int .u32)) a):∃ d,a=hrow d∧HdOk d:=by
 rw [Wu] at h
 obtain ⟨v1,r1,rfl,g1,hh⟩:=h.tail
 obtain ⟨n,rfl,hn⟩:=g1.int_inv
 have hh:HasRow (We 64 (.int .u8)++We 3 (.int .u32)) r1:=hh
 obtain ⟨r,s,rfl,h1,h2⟩:=zGC hh
 rw [show We 64 (CT.int .u8)=We 32 (CT.int .u8)++We 32 (CT.int .u8) from rfl] at h1
 obtain ⟨p,q,rfl,hp,hq⟩:=zGC h1
 obtain ⟨lp,rfl,lpl,lpw⟩:=zV7 hp
 obtain ⟨lq,rfl,lql,lqw⟩:=zV7 hq
 obtain ⟨v2,r2,rfl,g2,h2⟩:=h2.tail
 obtain ⟨v3,r3,rfl,g3,h2⟩:=h2.tail
 obtain ⟨v4,r4,rfl,g4,h2⟩:=h2.tail
 obtain rfl:=h2.nil
 obtain ⟨x,rfl,hx⟩:=g2.int_inv
 obtain ⟨y,rfl,hy⟩:=g3.int_inv
 obtain ⟨z,rfl,hz⟩:=g4.int_inv
 exact ⟨⟨n,lp,lq,x,y,z⟩,by simp only [hrow,Wu],⟨lpl,lql,fun i hi=>zT1 (lpw i hi),fun i hi=>zT1 (lqw i hi),zzt hn,zzt hx,zzt hy,zzt hz⟩⟩
structure BkW (b:BkT):Prop where
 hd:HdOk b.hd
 tx:∀ t∈b.txs,TxOk t
theorem z9i{a:List V}(h:HasRow ([.int .u32]++We 64 (.int .u8)++We 3 (.int .u32)++[.sl ([.int .u32]++[.sl (We 32 (.int .u8)++We 2 (.int .u32)++[.sl ([.sl ([.int .u8])])])]++[.sl ([.int .i64]++[.sl ([.int .u8])])]++[.int .u32])]) a):∃ b,a=zeY b∧BkW b:=by
 obtain ⟨r,s,rfl,h1,h2⟩:=zGC h
 obtain ⟨d,rfl,hd⟩:=z9a h1
 obtain ⟨v,r1,rfl,g,h2⟩:=h2.tail
 obtain rfl:=h2.nil
 obtain ⟨xs,rfl,hl,hx⟩:=g.sl_inv
 obtain ⟨w,rfl,hw⟩:=z7t hx
 exact ⟨⟨d,w⟩,rfl,hd,hw⟩
theorem z12{L:Nat}(hL:2000≤L)(kr:Bool→Option β)(kx:Option β)(l:List TxT)(hl:l.length≤12):∀ (n i:Nat),i≤l.length→l.length-i<n →
  ziO zR L kr kx n (l.map zav) (l.length:Int) (i:Int)=ifb ((l.drop i).all zIj) kx (kr false):=by
 intro n
 induction n with
 | zero=>intro i h1 h2; omega
 | succ n ih=>
  intro i h1 h2
  simp only [ziO,zsw,zz]
  by_cases h:i<l.length
  ·rw [yA (by omega),xT (zgC h),zew,zcG,zet,zbd,zbv,z9e hL,ziq h,up (by omega),ih (i+1) (by omega) (by omega)]
   cases zIj l[i] <;> rfl
  ·rw [xB (by omega),WK (by omega)]; rfl
def zQJ(b:BkT):Bool:=decide (b.txs.length≤12)&&b.txs.all zIj
theorem z9M{L:Nat}(hL:2000≤L){b:BkT}(hb:BkW b)(k:Bool→Option β):zbc β L (zeY b) k=k (zQJ b):=by
 simp only [zbc,zxy,zFc]
 simp only [zkS hb.hd,QB]
 by_cases h:b.txs.length≤12
 ·rw [xB (by omega),show ((0:Int))=((0:Nat):Int) from rfl,z12 hL _ _ b.txs h L 0 (by omega) (by omega),XQ]
  simp only [zQJ,h,decide_true,Bool.true_and,znn,zoB]
  cases b.txs.all zIj <;> rfl
 ·rw [yA (by omega)]; simp [zQJ,h]
theorem z5T{b:BkT}(hb:BkW b)(h:zQJ b=true):BkOk b:=by
 simp only [zQJ,Bool.and_eq_true,decide_eq_true_eq,List.all_eq_true] at h
 exact ⟨hb.hd,by omega,fun t ht=>⟨hb.tx t ht,z9v (h.2 t ht)⟩⟩
def z0r(b:BkT)(r:List Int):BkT:=⟨{ b.hd with root:=r },b.txs⟩
theorem z1X{b:BkT}(hb:BkOk b){r:List Int}(hr:H32 r):BkOk (z0r b r):=
 ⟨⟨hb.hd.pl,hr.1,hb.hd.pb,fun x hx=>hr.2 x hx,hb.hd.ver,hb.hd.tm,hb.hd.bits,hb.hd.nonce⟩,hb.n,hb.tx⟩
theorem z46(A B C D:List V)(h:B.length=C.length):zq (A++(B++D)) A.length C=A++(C++D):=by
 unfold zq
 rw [List.take_left,Wu,← h,← List.drop_drop,List.drop_left,List.drop_left]
theorem z7e{b:BkT}(hb:HdOk b.hd){r:List Int}(hr:r.length=32):zq (zeY b) 33 (row .u8 r)=zeY (z0r b r):=by
 have e:∀ (c:BkT),zeY c=(V.sc (.int .u32 c.hd.ver)::row .u8 c.hd.prev)++(row .u8 c.hd.root++([V.sc (.int .u32 c.hd.tm),V.sc (.int .u32 c.hd.bits),V.sc (.int .u32 c.hd.nonce)]++[V.sl 4 (c.txs.map zav)])):=fun c=>by simp [zeY,hrow]
 rw [e,e]
 have l:(V.sc (.int .u32 b.hd.ver)::row .u8 b.hd.prev).length=33:=by simp [xy,hb.pl]
 rw [← l]
 exact z46 _ _ _ _ (by rw [xy,xy,hr,hb.rl])
theorem zRd(a0:List V)(wf0:HasRow ([.int .u32]++We 64 (.int .u8)++We 3 (.int .u32)++[.sl ([.int .u32]++[.sl (We 32 (.int .u8)++We 2 (.int .u32)++[.sl ([.sl ([.int .u8])])])]++[.sl ([.int .i64]++[.sl ([.int .u8])])]++[.int .u32])]) a0) :
  ∃ L,∀ k:Bool→Option Bool,zcm Bool L a0 k=k true:=by
 obtain ⟨b,rfl,hw⟩:=z9i wf0
 obtain ⟨L,hL⟩:∃ L,4000000≤L:=⟨4000000,Nat.le_refl _⟩
 refine ⟨L,fun k=>?_⟩
 simp only [zcm,zoO,zbz]
 rw [xi (by omega),zmi hw.hd,zy0 hw.hd,z9M (by omega) hw]
 cases hk:zQJ b
 ·rfl
 ·have hb:=z5T hw hk
  have hr:=zK5 fun t ht=>(hb.tx t ht).1
  have t69:List.take 69 (zeY b)=zeY b:=XE (by rw [znb hw.hd]; omega)
  have p69:zq ([(Qc (0:Int))]++We 64 (Qa (0:Int))++[(Qc (0:Int)),(Qc (0:Int)),(Qc (0:Int)),(V.gs 4 ([]:Ls))]) 0 (zeY b)=zeY b:=zdd (by rw [znb hw.hd]; rfl)
  rw [Bool.not_true,zbH,zmi hw.hd,t69,xi ⟨znb hw.hd,by omega⟩,zz,p69,zkS hw.hd,z4Z hL hb.n hb.tx,xi ⟨by rw [xy,hr.1],by rw [znb hw.hd]; omega⟩,zz,z7e hw.hd hr.1,
   zmi hw.hd,z2X hL hb,zmi hw.hd,z2v hL hb,ze4 rfl]
  have hb2:=z1X hb hr
  rw [zmi hb2.hd,zy0 hb2.hd,z2X hL hb2,zmi hb2.hd,z2v hL hb2,beq_self_eq_true]
end
section
open Go.ChangeShapes Go.WideShapes Go.ChangeAt Go.RowKit
theorem zYl{H:Type}{enc:TypeId × Value→H}{P:Program}{w:World}{base:Nat}{spare:Nat→Bool}{held:Bool}{fuel n:Nat}{t e:TypeId}{k:IntKind}{cs:List Value}{d:DataW H}{p:List MemPlace}(ht:P.underlying t=some (.array n e))(he:P.underlying e=some (.int k))(hc:P.cellsOf e=1)
  (ns:List Int) (hd:d=.agg (ns.map fun x=>.lit (.int k x))) (h:DataW.trod enc P w base spare held fuel t cs=some (d,p)) {i:Nat} (hi:i<n):cs[i]?=some (.int k (ns.getD i 0)):=by
 obtain ⟨xs,m,_,hx,_,hlen,hel⟩:=DataW.trod_array ht h
 have h1:=hel i hi
 rw [hc,Nat.mul_one] at h1
 have hxi:xs[i]?=some (xs[i]'(by omega)):=List.getElem?_eq_getElem _
 rw [hxi] at h1
 obtain ⟨v,e1,e2,_⟩:=DataW.trod_int he h1
 simp only [Prod.mk.injEq] at hx
 have h2:d=.agg (xs.map (·.1)):=hx.1
 rw [hd] at h2
 have h3:ns.map (fun x=>DataW.lit (H:=H) (.int k x))=xs.map (·.1):=by injection h2
 have h4:=congrArg (fun l=>l[i]?) h3
 simp only [List.getElem?_map,hxi,Option.map_some,e2] at h4
 have h5:ns[i]?=some v:=by
  cases hq:ns[i]? with
  | none=>rw [hq] at h4; cases h4
  | some q=>
   rw [hq] at h4
   simp only [Option.map_some,Option.some.injEq] at h4
   injection h4 with h6
   injection h6 with _ h7
   rw [h7]
 rw [Ws,h5]
 have h8:=congrArg (fun l=>l[0]?) e1
 simp only [List.getElem?_take,List.getElem?_drop] at h8
 simpa using h8
theorem z1F{k:IntKind}{ns:List Int}{i:Nat}{v:V}(h:(row k ns)[i]?=some v):i<ns.length∧v=.sc (.int k (ns.getD i 0)):=by
 unfold row at h
 rw [List.getElem?_map] at h
 cases hq:ns[i]? with
 | none=>rw [hq] at h; cases h
 | some q=>
  rw [hq] at h
  obtain ⟨hi,_⟩:=List.getElem?_eq_some_iff.1 hq
  refine ⟨hi,?_⟩
  rw [Ws,hq]
  simpa using h.symm
def zUA{H:Type}:List (String × DataW H):=[("lightclient/sha.k",Rows.laid_lightclient_sha_k),("lightclient/sha.initial",Rows.laid_lightclient_sha_initial)]
theorem gK:Tryz.prog.globalNamed "lightclient/sha.k"=some 1:=by kernel_rfl
theorem gI:Tryz.prog.globalNamed "lightclient/sha.initial"=some 0:=by kernel_rfl
theorem tK:(Tryz.prog.globals[1]?).map (·.type)=some 230:=by kernel_rfl
theorem tI:(Tryz.prog.globals[0]?).map (·.type)=some 206:=by kernel_rfl
theorem z8f{W:World}(h:laidMetH Tryz.prog zUA W):GV (zdC fg gls) W zq1:=by
 rw [MakeChecks.laidMetH_plain _ _ _ (by kernel_rfl)] at h
 obtain ⟨ps,⟨g0,t0,cs0,f0,p0,q0,hg0,ht0,hv0,hd0,⟨g1,t1,cs1,f1,p1,q1,hg1,ht1,hv1,hd1,_,_⟩,_⟩,_,_⟩:=h
 obtain rfl:=QV (gK.symm.trans hg0)
 obtain rfl:=QV (gI.symm.trans hg1)
 obtain rfl:=QV (tK.symm.trans ht0)
 obtain rfl:=QV (tI.symm.trans ht1)
 have eu:Tryz.prog.underlying 22=some (.int .u32):=by kernel_rfl
 have ec:Tryz.prog.cellsOf 22=1:=by kernel_rfl
 have ek:Tryz.prog.underlying 230=some (.array 64 22):=by kernel_rfl
 have ei:Tryz.prog.underlying 206=some (.array 8 22):=by kernel_rfl
 have dk:(Rows.laid_lightclient_sha_k:DataW Unit)=.agg (kc.map fun x=>.lit (.int .u32 x)):=rfl
 have di:(Rows.laid_lightclient_sha_initial:DataW Unit)=.agg (init0.map fun x=>.lit (.int .u32 x)):=rfl
 intro g cs hg i v hv
 have hg':(gls.find? (fun e=>e.1==g)).map (·.2)=some cs:=hg
 by_cases hk:g=1
 ·subst hk
  obtain rfl:gk_sha_k=cs:=QV ((show (gls.find? (fun e=>e.1==1)).map (·.2)=some gk_sha_k from rfl).symm.trans hg')
  obtain ⟨hi,rfl⟩:=z1F (k:=.u32) (ns:=kc) hv
  refine ⟨_,rfl,rfl,fun hw=>hw,?_⟩
  rw [World.var?_cell gK hv0 i,W5.symm]
  exact zYl ek eu ec kc dk hd0 hi
 ·by_cases hk2:g=0
  ·subst hk2
   obtain rfl:gk_sha_initial=cs:=QV ((show (gls.find? (fun e=>e.1==0)).map (·.2)=some gk_sha_initial from rfl).symm.trans hg')
   obtain ⟨hi,rfl⟩:=z1F (k:=.u32) (ns:=init0) hv
   refine ⟨_,rfl,rfl,fun hw=>hw,?_⟩
   rw [World.var?_cell gI hv1 i,W5.symm]
   exact zYl ei eu ec init0 di hd1 hi
  ·exfalso
   have e:gls=[(0,gk_sha_initial),(1,gk_sha_k)]:=rfl
   rw [e] at hg'
   simp only [List.find?_cons,List.find?_nil,beq_eq_false_iff_ne.2 (Ne.symm hk),beq_eq_false_iff_ne.2 (Ne.symm hk2)] at hg'
   cases hg'
theorem z7k(os:Os)(args:Array Value):laidMetH Tryz.prog zUA ((World.doorLaid Tryz.prog 400 os).forCall (fun _ _=>0) ⟨#[],args,[]⟩).memory:=
 laidMetH_of_parts3 (fuel:=8) (laidMet_of_run' 8 (by kernel_rfl) (by kernel_rfl)) (by kernel_rfl) (by kernel_rfl)
end
section
theorem zbP{a b:Bool}(ha:a=true)(hb:b=true):(a&&b)=true:=by rw [ha,hb]; rfl
theorem z76:laidOutB Tryz.prog=true:=by kernel_rfl
theorem z8O:mapsRowed Tryz.prog=true:=by kernel_rfl
theorem z6k:(Tryz.prog.stops==[])=true:=by kernel_rfl
theorem z6U:(Tryz.prog.stopKnobs==[])=true:=by kernel_rfl
theorem z6X:Tryz.prog.stopsHeard=true:=by kernel_rfl
theorem z58:Tryz.prog.mayEnter=true:=by kernel_rfl
theorem z68:(false==Tryz.prog.liftsFinal)=true:=by kernel_rfl
theorem z72:(false==Tryz.prog.plainKeys)=true:=by kernel_rfl
end
section
namespace blockChecksL
open Go.ChangeShapes Go.WideShapes Go.ChangeAt Go.RowKit
theorem own:ownKnob Tryz.prog.godebug=none:=by kernel_rfl
theorem z8y:laidOutB Tryz.prog=true:=by kernel_rfl
set_option maxRecDepth 100000 in
theorem z9s(os:Os)(started:os.Started)(H:Type)(enc:TypeId × Value→H) :
  ReturnsInHanded {} Tryz.checked os 4 .any (fun w args=>(Rows.blockChecksSpec.pre enc Tryz.prog Tryz.f4 [] false w args∧laidMetH Tryz.prog zUA w)∧sizedMet enc Tryz.prog Tryz.f4 (OpenSpec.ofChange Rows.blockChecksSpec) false w args)
   (Rows.blockChecksSpec.post enc Tryz.prog Tryz.f4 false true false false):=by
 refine returnsInHanded_of_change_and (C:=Tryz.checked) (X:=fun w _=>laidMetH Tryz.prog zUA w) (fun _ _ _ hh h=>h.of_heap hh) own started (by kernel_rfl) Tryz.func4
  (ChangeSpec.witness_shaped (enc:=enc) (C:=Tryz.checked) (os:=os) (X:=fun w _=>laidMetH Tryz.prog zUA w) false (World.doorLaid Tryz.prog 400 os) #[.agg (#[(Value.int .u32 0)]++Array.replicate 64 (Value.int .u8 0)++Array.replicate 3 (Value.int .u32 0)++#[(Value.slice none 0 0)])] 8 rfl (World.shaped_of_RefB (by kernel_rfl) (by kernel_rfl)) (by kernel_rfl) (by kernel_rfl) (by kernel_rfl) (z7k os _)) ?_
 intro W base args ds gs before hval0 hW hcnd _ hlaid _
 have hval:∀ (j:Nat) t v,Tryz.f4.params[j]?=some t→args[j]?=some v→Value.okWide Tryz.prog W .any base t v:=hval0
 have hW':=hW
 obtain ⟨p,q,hA0,hV,rfl,hfz,hnd⟩:=hW
 have hA:DataW.TrodAll enc Tryz.prog W 0 (fun _=>true) true Tryz.f4.params.toList args.toList ds p:=hA0
 rw [Tryz.params4] at hA hval
 obtain ⟨v0,vs0,d0,ds0,p0,q0,hargs,rfl,rfl,h0,r0⟩:=trodAll_cons hA
 obtain ⟨rfl,rfl,rfl⟩:=trodAll_nil r0
 obtain rfl:args=#[v0]:=by cases args; simp_all
 obtain ⟨rfl,rfl⟩:=trodVars_none hV
 have k0:=h0
 have lt0:∀ x∈p0,x.block<W.heap.size:=by obtain ⟨m,hm⟩:=k0; exact DataW.trod_lt m _ _ _ hm
 obtain ⟨a0,wf0,rp0⟩:=z8i (ren:=zdC fg gls) (d:=20) (cts:=[.int .u32]++We 64 (.int .u8)++We 3 (.int .u32)++[.sl ([.int .u32]++[.sl (We 32 (.int .u8)++We 2 (.int .u32)++[.sl ([.sl ([.int .u8])])])]++[.sl ([.int .i64]++[.sl ([.int .u8])])]++[.int .u32])]) (by kernel_rfl) (hval 0 29 v0 rfl rfl) h0 (by kernel_rfl)
 clear hA0 hval0
 obtain ⟨L,hL⟩:=zRd a0 wf0
 have hd:zoX zcm L Bool [(V.agg a0)] [] zQn=some true:=by
  show (aG (V.agg a0) fun x0=>zcm Bool L x0 (fun p=>zQn (V.sc (.bool p)) []))=some true
  rw [yai]
  exact (hL (fun p=>zQn (V.sc (.bool p)) [])).trans rfl
 obtain ⟨v,b,hev,hk⟩:=zJV L 100 (by decide) Bool [(V.agg a0)] [] zQn true hd
 have hv:=z4y hk
 subst hv
 refine (z3n (us:=[v0]) (w:=W) (z8f hlaid) (yaE L 100) (f:=4) (by kernel_rfl) rfl (fun i x u hx hu=>?_) hev).mono fun e W' ⟨he,bel0⟩=>?_
 ·match i,hx,hu with
  | 0,hx,hu=>cases hx; cases hu; exact rp0
  | n+1,hx,hu=>simp at hx
 ·have bel:=Kept.below bel0
  subst he
  exact ⟨_,rfl,_,_,_,[],_,[],hW',trodAll_mk1 (shut_bool Tryz.underlying4 _),(trodAll_cons_mk (Below.trod z8y (by kernel_rfl) (of_decide_eq_true (by kernel_rfl)) k0 bel lt0) trodAll_mk0),rfl,bel.frame _,fun h=>by cases h⟩
theorem yaK:(Rows.blockChecksRow.wf (OpenSpec.ofChange Rows.blockChecksSpec))=true:=by kernel_rfl
theorem yaz:(Tryz.f4.params.all (Tryz.prog.readableRec ·))=true:=by kernel_rfl
theorem yaA:(namedTie Tryz.prog Rows.blockChecksRow.named Rows.blockChecksSpec.vars)=true:=by kernel_rfl
theorem yak:((Rows.blockChecksRow.stops==[]))=true:=by kernel_rfl
theorem yaD:((Rows.blockChecksRow.knobs==[]))=true:=by kernel_rfl
theorem yaj:((Rows.blockChecksRow.inPlace==Tryz.prog.inPlace 4))=true:=by kernel_rfl
theorem z80:((Rows.blockChecksRow.unfollowed==Tryz.prog.unfollowed 4))=true:=by kernel_rfl
theorem z9T:((Rows.blockChecksRow.recurses==Tryz.prog.recurses 4))=true:=by kernel_rfl
theorem z9H:((Rows.blockChecksRow.named==Tryz.prog.varsNamed 4))=true:=by kernel_rfl
theorem z9w:((Rows.blockChecksRow.maps==(Tryz.f4.params.toList++Rows.blockChecksSpec.plain.varTypes Tryz.prog).any (Tryz.prog.mapsRec ·)))=true:=by kernel_rfl
theorem z8V:((Rows.blockChecksRow.ifaces==(Tryz.f4.params.toList++Rows.blockChecksSpec.plain.varTypes Tryz.prog).any (Tryz.prog.ifacesRec ·)))=true:=by kernel_rfl
theorem z9B:((Rows.blockChecksRow.mapsOut==Tryz.prog.mapsAmong Tryz.f4.resultTypes.toList))=true:=by kernel_rfl
theorem z9A:((Rows.blockChecksRow.loops==(Tryz.f4.params.toList++Rows.blockChecksSpec.plain.varTypes Tryz.prog).any (Tryz.prog.loopsFrom ·)))=true:=by kernel_rfl
theorem z9q:((Rows.blockChecksRow.wideKeys==(Tryz.f4.params.toList++Rows.blockChecksSpec.plain.varTypes Tryz.prog++Tryz.f4.resultTypes.toList).any (Tryz.prog.wideKeysFrom ·)))=true:=by kernel_rfl
theorem z96:(Rows.blockChecksSpec.vars.all (Tryz.prog.varReadable ·))=true:=by kernel_rfl
theorem z9t:(Tryz.f4.resultTypes.all (fun t=>Tryz.prog.readableRec t&&decide (t<Tryz.prog.types.size)))=true:=by kernel_rfl
theorem yac:((Rows.blockChecksRow.ifacesOut==Tryz.f4.resultTypes.toList.any (Tryz.prog.ifacesRec ·)))=true:=by kernel_rfl
theorem z9W:((Rows.blockChecksRow.loopsOut==Tryz.f4.resultTypes.toList.any (Tryz.prog.loopsFrom ·)))=true:=by kernel_rfl
theorem z9N:(Rows.blockChecksRow.shortTexts.isNone)=true:=by kernel_rfl
theorem z9d:((Tryz.prog.make==some Rows.blockChecksRow.make))=true:=by kernel_rfl
theorem z81:((Rows.blockChecksRow.kinds==(if Rows.blockChecksRow.domain.isEmpty then [] else Tryz.f4.params.toList.map fun t=>match Tryz.prog.underlying t with | some (.int k)=>some k | _=>none)))=true:=by kernel_rfl
theorem z9r:((Rows.blockChecksRow.pinned==Rows.blockChecksRow.pinnedBy))=true:=by kernel_rfl
theorem z9S:((Rows.blockChecksRow.veiled==(Tryz.f4.params.toList++Rows.blockChecksSpec.plain.varTypes Tryz.prog++Tryz.f4.resultTypes.toList).any (Tryz.prog.veiledRec ·)))=true:=by kernel_rfl
theorem z82:(Rows.blockChecksRow.veiledFits Tryz.prog Tryz.f4.params.toList (Tryz.f4.params.toList++Rows.blockChecksSpec.plain.varTypes Tryz.prog++Tryz.f4.resultTypes.toList))=true:=by kernel_rfl
theorem z84:joinedFacts Tryz.prog 4 Tryz.f4 Rows.blockChecksSpec Rows.blockChecksRow=true:=by
 unfold joinedFacts
 exact (zbP (zbP (zbP (zbP (zbP (zbP (zbP (zbP (zbP (zbP (zbP (zbP (zbP (zbP (zbP (zbP (zbP (zbP (zbP (zbP (zbP (zbP (zbP (zbP (zbP (zbP (zbP (zbP (zbP (zbP (zbP yaK z76) z8O) yaz) yaA) yak) z6k) yaD) z6U) yaj) z80) z9T) z9H) z9w) z8V) z9B) z9A) z9q) z96) z9t) yac) z9W) z72) z9N) z6X) z58) z68) z9d) z81) z9r) z9S) z82)
theorem inst:Tryz.f4.isInstance Tryz.prog Rows.blockChecksRow.origin Rows.blockChecksRow.targs:=of_decide_eq_true (by kernel_rfl)
theorem yf:Tryz.f4.isWrapper Tryz.prog Rows.blockChecksRow.wrapper Rows.blockChecksRow.mainSum:=by
 unfold Func.isWrapper
 first | (rw [if_pos (by decide +kernel)]; kernel_rfl) | (rw [if_neg (by decide +kernel)]; exact ⟨rfl,rfl⟩)
theorem zhn:Tryz.prog.funcNamed Rows.blockChecksRow.func=some 4:=by kernel_rfl
theorem over:Rows.blockChecksRow.holds Tryz.pinned (OpenSpec.ofChange Rows.blockChecksSpec):=
 OpenClaim.holds_of_wide 4 Tryz.f4 rfl rfl rfl rfl rfl rfl rfl ⟨rfl,rfl,rfl,rfl,rfl⟩ rfl rfl rfl rfl rfl zhn Tryz.func4 z84 inst yf
  (fun os started H enc _=>z9s os started H enc)
theorem card:Claim7.holds Tryz.pinned (.plain (OpenSpec.ofChange Rows.blockChecksSpec)) Rows.blockChecksCard:=
 Claim7.holds_tied_plain_at .later [] [.data,.data] true (true,"605e51a862096062536ad9be249d0ad3e318cc34ccb4262f49b7334d7bd3505f") false
  over (fun _ h=>by cases h) (by kernel_rfl) (fun _ h=>by cases h) blockChecks_row_tie rfl ⟨rfl,rfl⟩ (by kernel_rfl) rfl
  (fun f fn hf hfn=>by
   obtain rfl:f=4:=QV ((show Tryz.prog.funcNamed "lightclient/lightclientlaw11.BlockChecks"=some 4 by kernel_rfl).symm.trans hf) |>.symm
   obtain rfl:fn=Tryz.f4:=(QV (Tryz.func4.symm.trans hfn)).symm
   exact ⟨by kernel_rfl,fun j t ht=>by
    rw [Tryz.params4] at ht
    have hm:t∈[29]:=by simpa using Array.mem_of_getElem? ht
    have hall:([29].all fun u=>!Tryz.prog.wantsStandIn u)=true:=by kernel_rfl
    exact (show Tryz.prog.wantsStandIn t=false by simpa using List.all_eq_true.1 hall t hm)⟩)
  (by kernel_rfl)
end blockChecksL
theorem blockChecks_holds:Rows.BlockChecksCardSaid:=blockChecksL.card
end
end Go.Proofs.YtgmhijonllockaaGreatDoor
