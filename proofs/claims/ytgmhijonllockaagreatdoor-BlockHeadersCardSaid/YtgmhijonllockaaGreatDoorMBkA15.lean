/- Part 15 of the proof of BkA: an abstract machine over plain values, its soundness, and the functions of the program on plain values. -/
import Derived.LaidMore
import Derived.OpenShut
import Derived.MakeChecks
import Derived.LaidLaws
import Derived.Test.YtgmhijonllockaaGreatDoorRows
import Derived.JoinedOf
import Derived.Test.YtgmhijonllockaaGreatDoorMBkA14
namespace Go.Proofs.YtgmhijonllockaaGreatDoor
set_option maxRecDepth 100000
set_option linter.unusedVariables false
set_option linter.unusedSimpArgs false
open List renaming replicate->We,length_append->Wm,length->XK,drop_of_length_le->WK,length_cons->Yh,length_nil->Yi,drop_zero->Yd,take->XL,take_of_length_le->XE,getElem_mem->W2,length_map->QB,append_assoc->Wu,drop_eq_getElem_cons->WQ,length_take->Ww,length_drop->XS,drop_left'->Yj,getElem?_append_right->Wt,getD_eq_getElem?_getD->Ws,nil_append->Ye,drop_drop->WO,length_eq_one_iff->Yk,mem_cons->Q9,length_replicate->XR,map_cons->QW,mem_append->QD,take_left'->Yl,flatten_cons->WL,getElem?_eq_getElem->Wc,map_append->Yn,drop_succ_cons->Yo,length_pos_iff->WY,map_congr_left->Yp,mem_replicate->Yc,mem_map->Xy,drop->XO
open IntKind renaming wrap->QG
open Int renaming eq_ofNat_of_zero_le->XY,toNat->XM
open Option.some renaming inj->QV
open Bool renaming true_and->Ym,not_true->Xh
open Option renaming map_some->QN
open _root_.Array renaming getElem?_toList->W5
section
variable {β:Type}
def okO(o:Outp):Bool:=decide (0≤o.val)&&decide (o.scr.length≤520)
def okI(x:Inp):Bool:=decide (x.wit.length≤32)&&x.wit.all fun y=>decide (y.length≤520)
def zbD(t:TxT):Bool:=decide (t.ins.length≤64)&&decide (t.outs.length≤64)&&t.outs.all okO&&t.ins.all okI&&decide ((zlG t true).length≤20000)
theorem z4M{L:Nat}(kr:Bool→Option β)(kx:List V→Option β)(l:List Outp)(hl:l.length≤1000000)(b1:List V):∀ (n i:Nat),i≤l.length→l.length-i<n →
  zlx yi L kr kx n (l.map zhD) (l.length:Int) (i:Int) b1=ifb ((l.drop i).all okO) (kx b1) (kr false)
 | 0,i,h1,h2=>by omega
 | n+1,i,h1,h2=>by
  simp only [zlx,zxb,yt]
  by_cases h:i<l.length
  ·rw [zI (by omega),zaC (zD9 h)]
   rw [zDR,ztU,zDw]
   simp only [zLi,zJY,zF]
   rw [up (by omega),z4M kr kx l hl b1 n (i+1) (by omega) (by omega),zhy h]
   by_cases hv:0≤l[i].val
   ·rw [zG (by omega)]
    by_cases hb:l[i].scr.length≤520
    ·rw [zG (by omega)]; simp [okO,hb,hv]
    ·rw [zI (by omega)]
     have:okO l[i]=false:=by simp [okO,hb]
     rw [this]; rfl
   ·rw [zI (by omega)]
    have:okO l[i]=false:=by simp [okO,hv]
    rw [this]; rfl
  ·rw [zG (by omega),WK (by omega)]; rfl
theorem z2w{L:Nat}(kr:Bool→Option β)(kx:Ls→Int→Int→List V→Option β)(wt:List (List Int))(hw:wt.length≤1000000)(p37:Ls)(p38 p39:Int)(b1:List V):∀ (n i:Nat),i≤wt.length→wt.length-i<n →
  zdE yi L kr kx n p37 p38 p39 (zjh wt) (wt.length:Int) (i:Int) b1=ifb ((wt.drop i).all fun y=>decide (y.length≤520)) (kx p37 p38 p39 b1) (kr false)
 | 0,i,h1,h2=>by omega
 | n+1,i,h1,h2=>by
  simp only [zdE,ziN,yt]
  by_cases h:i<wt.length
  ·rw [zI (by omega),zaC (ztM h),znb rfl]
   rw [up (by omega),z2w kr kx wt hw p37 p38 p39 b1 n (i+1) (by omega) (by omega),zhy h,zF]
   by_cases hb:wt[i].length≤520
   ·rw [zG (by omega)]; simp [hb]
   ·rw [zI (by omega)]; simp [hb,ifb]
  ·rw [zG (by omega),WK (by omega)]; rfl
theorem ya2{L:Nat}(hL:2000≤L)(kr:Bool→Option β)(kx:List V→Option β)(l:List Inp)(hl:l.length≤1000000)(b1:List V):∀ (n i:Nat),i≤l.length→l.length-i<n →
  zjP yi L kr kx n (l.map zgq) (l.length:Int) (i:Int) b1=ifb ((l.drop i).all okI) (kx b1) (kr false):=by
 intro n
 induction n with
 | zero=>intro i h1 h2; omega
 | succ n ih=>
  intro i h1 h2
  simp only [zjP,zl0,zup,yt]
  by_cases h:i<l.length
  ·rw [zI (by omega),zaC (ztv h)]
   rw [zlV,zjF,zo2]
   simp only [zow,zpp,zyM]
   rw [zhy h]
   by_cases hw:l[i].wit.length≤32
   ·rw [zG (by omega),show ((0:Int))=((0:Nat):Int) from rfl,z2w _ _ _ (by omega) _ _ _ _ L 0 (by omega) (by omega)]
    simp only [zhx,zg0,yt,Yd]
    rw [up (by omega),ih (i+1) (by omega) (by omega)]
    have:okI l[i]=l[i].wit.all fun y=>decide (y.length≤520):=by simp [okI,hw]
    rw [this]
    cases l[i].wit.all fun y=>decide (y.length≤520) <;> rfl
   ·rw [zI (by omega)]
    have:okI l[i]=false:=by simp [okI,hw]
    rw [this]; rfl
  ·rw [zG (by omega),WK (by omega)]; rfl
theorem z9i{L:Nat}(hL:2000≤L){t:TxT}(h:KeptP t)(k:Bool→Option β):zJ β L (zcA t) k=k (zbD t):=by
 have hi:=h.ni
 have ho:=h.no
 simp only [zJ,zFR,zOU,zmC,zsv]
 simp only [ziJ,zho,zKG,zqa,QB]
 by_cases h1:t.ins.length≤64
 ·rw [zG (by omega)]
  by_cases h2:t.outs.length≤64
  ·rw [zG (by omega),show ((0:Int))=((0:Nat):Int) from rfl,z4M _ _ _ (by omega) _ L 0 (by omega) (by omega)]
   simp only [zkR,zs4,zq2,ziJ,zho,QB,Yd]
   cases e1:t.outs.all okO
   ·have e:zbD t=false:=by simp [zbD,e1]
    rw [e]; rfl
   ·rw [zhB,show ((0:Int))=((0:Nat):Int) from rfl,ya2 hL _ _ _ (by omega) _ L 0 (by omega) (by omega)]
    simp only [zqU,zoT,ziJ,zho,Yd,zgk,zgh]
    cases e2:t.ins.all okI
    ·have e:zbD t=false:=by simp [zbD,e2]
     rw [e]; rfl
    ·rw [zhB,zZe hL h,zF]
     have e:decide (((zlG t true).length:Int)≤20000)=zbD t:=by
      simp only [zbD,h1,h2,e1,e2,decide_true,Ym]
      exact decide_eq_decide.2 (by omega)
     rw [e]
  ·have e:zbD t=false:=by simp [zbD,h2]
   rw [zI (by omega),e]
 ·have e:zbD t=false:=by simp [zbD,h1]
  rw [zI (by omega),e]
theorem z2o{L:Nat}(kr:Bool→Option β)(kx:List V→Option β)(l:List Outp)(hl:l.length≤1000000)(b1:List V):∀ (n i:Nat),i≤l.length→l.length-i<n →
  zhK yd L kr kx n (l.map zhD) (l.length:Int) (i:Int) b1=ifb ((l.drop i).all okO) (kx b1) (kr false)
 | 0,i,h1,h2=>by omega
 | n+1,i,h1,h2=>by
  simp only [zhK,zq0,yt]
  by_cases h:i<l.length
  ·rw [zI (by omega),zaC (zD9 h)]
   rw [zDR,ztU,zDw]
   simp only [zLi,zJY,zF]
   rw [up (by omega),z2o kr kx l hl b1 n (i+1) (by omega) (by omega),zhy h]
   by_cases hv:0≤l[i].val
   ·rw [zG (by omega)]
    by_cases hb:l[i].scr.length≤520
    ·rw [zG (by omega)]; simp [okO,hb,hv]
    ·rw [zI (by omega)]
     have:okO l[i]=false:=by simp [okO,hb]
     rw [this]; rfl
   ·rw [zI (by omega)]
    have:okO l[i]=false:=by simp [okO,hv]
    rw [this]; rfl
  ·rw [zG (by omega),WK (by omega)]; rfl
theorem zY4{L:Nat}(kr:Bool→Option β)(kx:Ls→Int→Int→List V→Option β)(wt:List (List Int))(hw:wt.length≤1000000)(p37:Ls)(p38 p39:Int)(b1:List V):∀ (n i:Nat),i≤wt.length→wt.length-i<n →
  zcB yd L kr kx n p37 p38 p39 (zjh wt) (wt.length:Int) (i:Int) b1=ifb ((wt.drop i).all fun y=>decide (y.length≤520)) (kx p37 p38 p39 b1) (kr false)
 | 0,i,h1,h2=>by omega
 | n+1,i,h1,h2=>by
  simp only [zcB,zg6,yt]
  by_cases h:i<wt.length
  ·rw [zI (by omega),zaC (ztM h),znb rfl]
   rw [up (by omega),zY4 kr kx wt hw p37 p38 p39 b1 n (i+1) (by omega) (by omega),zhy h,zF]
   by_cases hb:wt[i].length≤520
   ·rw [zG (by omega)]; simp [hb]
   ·rw [zI (by omega)]; simp [hb,ifb]
  ·rw [zG (by omega),WK (by omega)]; rfl
theorem yaJ{L:Nat}(hL:2000≤L)(kr:Bool→Option β)(kx:List V→Option β)(l:List Inp)(hl:l.length≤1000000)(b1:List V):∀ (n i:Nat),i≤l.length→l.length-i<n →
  zg5 yd L kr kx n (l.map zgq) (l.length:Int) (i:Int) b1=ifb ((l.drop i).all okI) (kx b1) (kr false):=by
 intro n
 induction n with
 | zero=>intro i h1 h2; omega
 | succ n ih=>
  intro i h1 h2
  simp only [zg5,zji,zpt,yt]
  by_cases h:i<l.length
  ·rw [zI (by omega),zaC (ztv h)]
   rw [zlV,zjF,zo2]
   simp only [zow,zpp,zyM]
   rw [zhy h]
   by_cases hw:l[i].wit.length≤32
   ·rw [zG (by omega),show ((0:Int))=((0:Nat):Int) from rfl,zY4 _ _ _ (by omega) _ _ _ _ L 0 (by omega) (by omega)]
    simp only [zfU,zfx,yt,Yd]
    rw [up (by omega),ih (i+1) (by omega) (by omega)]
    have:okI l[i]=l[i].wit.all fun y=>decide (y.length≤520):=by simp [okI,hw]
    rw [this]
    cases l[i].wit.all fun y=>decide (y.length≤520) <;> rfl
   ·rw [zI (by omega)]
    have:okI l[i]=false:=by simp [okI,hw]
    rw [this]; rfl
  ·rw [zG (by omega),WK (by omega)]; rfl
theorem zPY{L:Nat}(hL:2000≤L){t:TxT}(h:KeptP t)(k:Bool→Option β):yc β L (zcA t) k=k (zbD t):=by
 have hi:=h.ni
 have ho:=h.no
 simp only [yc,zvs,zCM,zmC,zsv]
 simp only [ziJ,zho,zKG,zqa,QB]
 by_cases h1:t.ins.length≤64
 ·rw [zG (by omega)]
  by_cases h2:t.outs.length≤64
  ·rw [zG (by omega),show ((0:Int))=((0:Nat):Int) from rfl,z2o _ _ _ (by omega) _ L 0 (by omega) (by omega)]
   simp only [zii,znP,zmw,ziJ,zho,QB,Yd]
   cases e1:t.outs.all okO
   ·have e:zbD t=false:=by simp [zbD,e1]
    rw [e]; rfl
   ·rw [zhB,show ((0:Int))=((0:Nat):Int) from rfl,yaJ hL _ _ _ (by omega) _ L 0 (by omega) (by omega)]
    simp only [zml,zk2,ziJ,zho,Yd,zgk,zgh]
    cases e2:t.ins.all okI
    ·have e:zbD t=false:=by simp [zbD,e2]
     rw [e]; rfl
    ·rw [zhB,zL0 hL h,zF]
     have e:decide (((zlG t true).length:Int)≤20000)=zbD t:=by
      simp only [zbD,h1,h2,e1,e2,decide_true,Ym]
      exact decide_eq_decide.2 (by omega)
     rw [e]
  ·have e:zbD t=false:=by simp [zbD,h2]
   rw [zI (by omega),e]
 ·have e:zbD t=false:=by simp [zbD,h1]
  rw [zI (by omega),e]
def z9S:List V:=We 32 (Qa (0:Int))++[(Qc (4294967295:Int))]
def eqP(x y:Inp):Bool:=(zgy (zuA x) (zuA y)).getD false
def eqN(x:Inp):Bool:=(zgy (zuA x) z9S).getD false
def cbB(t:TxT):Bool:=match t.ins with
 | [x]=>eqN x
 | _=>false
end
section
variable {β:Type}
theorem zlp{a b:List Int}(ha:zcV a)(hb:zcV b):zcV (a++b):=by
 intro x hx
 rcases QD.1 hx with h | h
 ·exact ha x h
 ·exact hb x h
theorem zUA{α:Type}{l:List α}{f:α→List Int}(h:∀ x∈l,zcV (f x)):zcV (l.flatMap f):=by
 intro x hx
 obtain ⟨y,hy,hx⟩:=List.mem_flatMap.1 hx
 exact h y hy x hx
theorem zDI{a:Int}{l:List Int}(ha:0≤a∧a≤255)(hl:zcV l):zcV (a::l):=by
 intro x hx
 rcases Q9.1 hx with rfl | h
 ·exact ha
 ·exact hl x h
theorem zXw:zcV []:=fun x hx=>by cases hx
theorem zmE(n:Int)(w:Nat):zcV (zfW n w):=by
 intro x hx
 rw [zfW,Xy] at hx
 obtain ⟨i,_,rfl⟩:=hx
 exact zsn _
theorem zWy(n:Int):zcV (szB n):=by
 unfold szB
 split
 ·exact zDI (zsn _) zXw
 ·split
  ·exact zDI ⟨by decide,by decide⟩ (zmE _ _)
  ·split
   ·exact zDI ⟨by decide,by decide⟩ (zmE _ _)
   ·exact zDI ⟨by decide,by decide⟩ (zmE _ _)
theorem z6o{s:List Int}(h:zcV s):zcV (bsB s):=zlp (zWy _) h
theorem z8y{x:Inp}(h:InpOk x):zcV (zMP x):=by
 unfold zMP
 have b:=h.by_
 repeat' (first | exact zXw | refine zDI (b _ (by decide)) ?_)
theorem z3S{t:TxT}(h:TxOk t)(w:Bool):zcV (zlG t w):=by
 unfold zlG
 refine zlp (zlp (zlp (zlp (zlp (zlp (zmE _ _) (zWy _)) (zUA fun x hx=>?_)) (zWy _)) (zUA fun x hx=>?_)) (zmE _ _)) ?_
 ·exact zlp (zlp (z8y (h.ins x hx)) (zmE _ _)) (zmE _ _)
 ·exact zlp (zmE _ _) (z6o (h.outs x hx).scr)
 ·cases w
  ·exact zXw
  ·exact zUA fun x hx=>zlp (zWy _) (zUA fun y hy=>z6o ((h.ins x hx).wit y hy).1)
theorem zLP{t:TxT}(h:KeptP t)(w:Bool):(zlG t w).length≤3000000:=by
 obtain ⟨q1,q2,q3⟩:=h.lens
 have s1:=zhp (t.ins.length:Int)
 have s2:=zhp (t.outs.length:Int)
 cases w <;> simp only [zlG,Wm,zbu,if_true,Bool.false_eq_true,if_false,Yi] <;> omega
theorem z1w{L:Nat}(hL:2000≤L){t:TxT}(h:KeptP t)(w:Bool)(k:Ls→Int→Option β):yA β L (zcA t) w k=if zbD t=true then k (yq .u8 (zlG t w)) 0 else k (yq .u8 []) 4:=by
 simp only [yA,zIW,zgk,zgh]
 rw [z9i hL h,zZe hL h]
 cases zbD t <;> rfl
def zso(t:TxT)(w:Bool):List Int:=if zbD t=true then zIO (zlG t w) else We 32 0
theorem zHh(t:TxT)(w:Bool):(zso t w).length=32:=by
 unfold zso; split
 ·exact zs0 _
 ·exact XR
theorem z1h(k:List V→Option β):(lt (We 32 (Qa (0:Int))) fun r2=>chk (0=0∧(XK r2)=32∧32≠0) (k r2))=k (row .u8 (We 32 0)):=by
 rw [yt,zxL,yf ⟨rfl,by rw [xr,XR],by decide⟩]
theorem zLO{w:List Int}(hw:w.length=32)(k:List V→Option β):chk ((XK (row .u8 w))=32∧0+32≤32) (lt (zk (We 32 (Qa (0:Int))) 0 (row .u8 w)) fun r4=>chk (0=0∧(XK r4)=32∧32≠0) (k r4))=k (row .u8 w):=by
 rw [yt,zws hw,yf ⟨by rw [xr,hw],by decide⟩,yf ⟨rfl,by rw [xr,hw],by decide⟩]
theorem z8x{L:Nat}(hL:4000000≤L){t:TxT}(ht:TxOk t)(h:KeptP t)(w:Bool)(k:List V→Option β):zaJ β L (zcA t) w k=k (row .u8 (zso t w)):=by
 have hl:=zLP h w
 unfold zaJ zH7
 rw [zgk,zgh,z1w (by omega) h]
 unfold zso
 split
 ·rw [zlg,if_pos rfl,zO9 (by omega) (by omega) (z3S ht w),zLO (zs0 _)]
 ·rw [zlg,if_neg (by decide),z1h]
theorem ybw{L:Nat}(hL:4000000≤L){t:TxT}(ht:TxOk t)(h:KeptP t)(k:List V→Option β):xT β L (zcA t) k=k (row .u8 (zso t true)):=by
 unfold xT zO0
 rw [zgk,zgh,z8x hL ht h,zLO (zHh _ _)]
theorem yaF{L:Nat}(hL:4000000≤L){t:TxT}(ht:TxOk t)(h:KeptP t)(k:List V→Option β):yI β L (zcA t) k=k (row .u8 (zso t true)):=by
 have hl:=zLP h true
 unfold yI zET
 rw [zgk,zgh,zPY (by omega) h]
 unfold zso
 cases zbD t
 ·rw [if_neg (by decide)]
  exact z1h k
 ·rw [if_pos rfl]
  rw [Xh,zeR,zgk,zL0 (by omega) h,zLG (by omega) (by omega) (z3S ht true),zLO (zs0 _)]
end
section
variable {β:Type}
def ybV:List Outp→Int
 | []=>0
 | o::l=>o.val+ybV l
def yc9(l:List Inp):Lm:=l.map fun x=>(V.agg (zuA x),V.sc (.bool true))
def zYt:List Inp→List Inp→Bool
 | _,[]=>false
 | pre,x::l=>pre.any (eqP x)||zYt (pre++[x]) l
def yde(o:Outp):Bool:=decide (o.val>2100000000000000)
def z61(t:TxT):Int:=if zbD t=true then (if t.ins.length=0 then 93 else if t.outs.length=0 then 93 else if ybV t.outs≤2100000000000000 then (if zYt [] t.ins=true then 91 else if (t.ins.any eqN&&!(cbB t))=true then 92 else 0) else 90) else 4
end
section
variable {β:Type}
structure HdT where
 ver:Int
 prev:List Int
 root:List Int
 tm:Int
 bits:Int
 nonce:Int
def hrow(h:HdT):List V:=V.sc (.int .u32 h.ver)::(row .u8 h.prev++(row .u8 h.root++[V.sc (.int .u32 h.tm),V.sc (.int .u32 h.bits),V.sc (.int .u32 h.nonce)]))
structure HdOk (h:HdT):Prop where
 pl:h.prev.length=32
 rl:h.root.length=32
 pb:zcV h.prev
 rb:zcV h.root
 ver:0≤h.ver∧h.ver≤4294967295
 tm:0≤h.tm∧h.tm≤4294967295
 bits:0≤h.bits∧h.bits≤4294967295
 nonce:0≤h.nonce∧h.nonce≤4294967295
structure BkT where
 hd:HdT
 txs:List TxT
def zlo(b:BkT):List V:=hrow b.hd++[V.sl 4 (b.txs.map zcA)]
theorem zpu{h:HdT}(ho:HdOk h):(hrow h).length=68:=by
 simp only [hrow,Yh,Wm,xr,ho.pl,ho.rl,Yi]
theorem zTY{b:BkT}(ho:HdOk b.hd):(zlo b).length=69:=by
 simp only [zlo,Wm,zpu ho,Yh,Yi]
theorem z8k{b:BkT}(ho:HdOk b.hd):(zlo b)[68]?=some (V.sl 4 (b.txs.map zcA)):=by
 unfold zlo
 rw [Wt (by rw [zpu ho]; omega),zpu ho]; rfl
theorem zKL{b:BkT}(ho:HdOk b.hd)(k:Ls→Option β):cLd 4 (zlo b) 68 k=k (b.txs.map zcA):=zD3 (z8k ho) k
theorem zZb{b:BkT}(ho:HdOk b.hd):XL 68 (zlo b)=hrow b.hd:=by
 unfold zlo
 rw [← zpu ho,List.take_left]
theorem yaO(k:IntKind)(l:List Int):(row k l).map V.dem=row k l:=by
 simp only [row,List.map_map]; rfl
theorem z85(h:HdT):(hrow h).map V.dem=hrow h:=by
 simp only [hrow,QW,Yn,yaO]; rfl
theorem zME{b:BkT}(ho:HdOk b.hd):List.map V.dem (XL 69 (zlo b))=zlo b:=by
 rw [XE (by rw [zTY ho]; omega)]
 simp only [zlo,Yn,z85]; rfl
theorem zCz{b:BkT}(ho:HdOk b.hd)(k:Option β):chk (0+69≤(XK (zlo b))) k=k:=yf (by rw [zTY ho]; omega) k
theorem z4w{b:BkT}(ho:HdOk b.hd)(k:Option β):chk (0+68≤(XK (zlo b))) k=k:=yf (by rw [zTY ho]; omega) k
theorem zZt{h:HdT}(ho:HdOk h):XL 32 (XO 1 (hrow h))=row .u8 h.prev:=by
 simp only [hrow,Yo,Yd]
 exact Yl (by rw [xr,ho.pl])
theorem zYL{h:HdT}(ho:HdOk h):XL 32 (XO 33 (hrow h))=row .u8 h.root:=by
 simp only [hrow,Yo]
 rw [Yj (by rw [xr,ho.pl])]
 exact Yl (by rw [xr,ho.rl])
theorem z6Q(h:HdT)(k:Int→Option β):cI .u32 (hrow h) 0 k=k h.ver:=zhi rfl k
theorem zTh{h:HdT}(ho:HdOk h)(j:Nat):(hrow h)[65+j]?=[V.sc (.int .u32 h.tm),V.sc (.int .u32 h.bits),V.sc (.int .u32 h.nonce)][j]?:=by
 unfold hrow
 rw [show 65+j=(64+j)+1 by omega,List.getElem?_cons_succ,Wt (by rw [xr,ho.pl]; omega),xr,ho.pl,
  Wt (by rw [xr,ho.rl]; omega),xr,ho.rl]
 congr 1; omega
theorem z6j{h:HdT}(ho:HdOk h)(k:Int→Option β):cI .u32 (hrow h) 65 k=k h.tm:=zhi (zTh ho 0) k
theorem z7G{h:HdT}(ho:HdOk h)(k:Int→Option β):cI .u32 (hrow h) 66 k=k h.bits:=zhi (zTh ho 1) k
theorem z6u{h:HdT}(ho:HdOk h)(k:Int→Option β):cI .u32 (hrow h) 67 k=k h.nonce:=zhi (zTh ho 2) k
theorem zkv(kd:IntKind):∀ (l:List Int) (n:Nat),l.length=n→yl 1 n (row kd l)=yq kd l
 | [],_,h=>by subst h; rfl
 | x::l,n,h=>by
  obtain ⟨m,rfl⟩:∃ m,n=m+1:=⟨n-1,by simp at h; omega⟩
  have:=zkv kd l m (by simpa using h)
  simp only [row,QW,yl,yq] at this ⊢
  simp [this]
theorem z7J{kd:IntKind}{l:List Int}(h:l≠[]):(row kd l).isEmpty=false:=by
 cases l with
 | nil=>exact absurd rfl h
 | cons x l=>rfl
def hdB(h:HdT):List Int:=zsV h.ver++h.prev++h.root++zsV h.tm++zsV h.bits++zsV h.nonce
theorem znc{h:HdT}(ho:HdOk h):(hdB h).length=80:=by simp [hdB,zbu,ho.pl,ho.rl]
theorem z32{L:Nat}{b h:List Int}(hh:h.length=32)(hb:b.length≤900000000000)(k:Ls→Option β):zH β L (yq .u8 b) (row .u8 h) k=k (yq .u8 (b++h)):=by
 simp only [zH,zke]
 rw [yf (by rw [xr,hh]; omega),z7J (by intro e; rw [e] at hh; cases hh),zeR,zkv _ _ _ hh,zrS (by omega)]
theorem z0S{L:Nat}{b h:List Int}(hh:h.length=32)(hb:b.length≤900000000000)(k:Ls→Option β):yn β L (yq .u8 b) (row .u8 h) k=k (yq .u8 (b++h)):=by
 simp only [yn,zjy]
 rw [yf (by rw [xr,hh]; omega),z7J (by intro e; rw [e] at hh; cases hh),zeR,zkv _ _ _ hh,ziH (by omega)]
theorem zGJ{L:Nat}(hL:20≤L){h:HdT}(ho:HdOk h)(k:Ls→Option β):zg β L (hrow h) k=k (yq .u8 (hdB h)):=by
 have e1:=zbu h.ver
 have e2:=zbu h.tm
 have e3:=zbu h.bits
 simp only [zg,zl5]
 rw [z6Q,zgr .u8,zCi hL (by simp),Ye,yf (by rw [zpu ho]; omega),zZt ho,z32 ho.pl (by omega),yf (by rw [zpu ho]; omega),zYL ho,z32 ho.rl (by rw [Wm,ho.pl]; omega),
  z6j ho,zCi hL (by simp only [Wm,ho.pl,ho.rl]; omega),z7G ho,zCi hL (by simp only [Wm,ho.pl,ho.rl]; omega),z6u ho,zCi hL (by simp only [Wm,ho.pl,ho.rl]; omega)]
 rfl
theorem zLD{L:Nat}(hL:20≤L){h:HdT}(ho:HdOk h)(k:Ls→Option β):xh β L (hrow h) k=k (yq .u8 (hdB h)):=by
 have e1:=zbu h.ver
 have e2:=zbu h.tm
 have e3:=zbu h.bits
 obtain ⟨m,rfl⟩:∃ m,L=m+4:=⟨L-4,by omega⟩
 simp only [xh,zh5,zl9]
 rw [z6Q,zgr .u8,zyZ (by omega) (by simp),Ye,yf (by rw [zpu ho]; omega),zZt ho,z0S ho.pl (by omega),yf (by rw [zpu ho]; omega),zYL ho,z0S ho.rl (by rw [Wm,ho.pl]; omega),
  z6j ho,z7G ho,z6u ho]
 have up0:QG .i64 ((0:Int)+1)=1:=rfl
 have up1:QG .i64 ((1:Int)+1)=2:=rfl
 have up2:QG .i64 ((2:Int)+1)=3:=rfl
 have c0:∀ (x y z:Int) (k:Int→Option β),(idx (yl 1 3 [V.sc (.int .u32 x),V.sc (.int .u32 y),V.sc (.int .u32 z)]) 0 fun c7=>cI .u32 c7 0 k)=k x:=fun x y z k=>(zxY (by omega) rfl _).trans (zhi rfl _)
 have c1:∀ (x y z:Int) (k:Int→Option β),(idx (yl 1 3 [V.sc (.int .u32 x),V.sc (.int .u32 y),V.sc (.int .u32 z)]) 1 fun c7=>cI .u32 c7 0 k)=k y:=fun x y z k=>(zxY (by omega) rfl _).trans (zhi rfl _)
 have c2:∀ (x y z:Int) (k:Int→Option β),(idx (yl 1 3 [V.sc (.int .u32 x),V.sc (.int .u32 y),V.sc (.int .u32 z)]) 2 fun c7=>cI .u32 c7 0 k)=k z:=fun x y z k=>(zxY (by omega) rfl _).trans (zhi rfl _)
 have n3:∀ (x y z:Int),(((yl 1 3 [V.sc (.int .u32 x),V.sc (.int .u32 y),V.sc (.int .u32 z)]).length:Nat):Int)=3:=fun x y z=>rfl
 rw [n3]
 rw [zbv,zb1,zI (by omega),c0,zyZ (by omega) (by simp only [Wm,ho.pl,ho.rl]; omega),yt,up0]
 rw [zbv,zb1,zI (by omega),c1,zyZ (by omega) (by simp only [Wm,ho.pl,ho.rl]; omega),yt,up1]
 rw [zbv,zb1,zI (by omega),c2,zyZ (by omega) (by simp only [Wm,ho.pl,ho.rl]; omega),yt,up2]
 rw [zbv,zb1,zG (by omega)]
 rfl
structure BkOk (b:BkT):Prop where
 hd:HdOk b.hd
 n:b.txs.length≤10000
 tx:∀ t∈b.txs,TxOk t∧KeptP t
def zON(b:BkT):List Int:=hdB b.hd++szB (b.txs.length:Int)++b.txs.flatMap fun t=>zlG t true
def okK(b:BkT):Bool:=decide (b.txs.length≤256)&&b.txs.all zbD&&decide ((zON b).length≤100000)
theorem zCE{l:List TxT}{i:Nat}(h:i<l.length):(l.map zcA)[i]?=some (zcA l[i]):=by simp [h]
theorem zps(x:TxT):XL 4 (zcA x)=zcA x:=by simp [zcA]
theorem zxg(x:TxT):zk [(Qc (0:Int)),(V.gs 35 ([]:Ls)),(V.gs 2 ([]:Ls)),(Qc (0:Int))] 0 (zcA x)=zcA x:=zc3 (by rw [zmC]; rfl)
theorem zx4(x:TxT)(k:Option β):chk ((XK (XL 4 (zcA x)))=4∧0+4≤4) k=k:=yf ⟨by rw [zps,zmC],by decide⟩ k
theorem z5g{L:Nat}(hL:2000≤L)(kr:Ls→Int→Option β)(kx:Ls→Option β)(l:List TxT)(hl:l.length≤10000)(hk:∀ t∈l,KeptP t):∀ (n i:Nat) (acc:List Int),i≤l.length→l.length-i<n→acc.length≤100+i*3000000 →
  zfC zg za yA L kr kx n (yq .u8 acc) (l.map zcA) (l.length:Int) (i:Int)=ifb ((l.drop i).all zbD) (kx (yq .u8 (acc++(l.drop i).flatMap fun t=>zlG t true))) (kr (yq .u8 []) 4):=by
 intro n
 induction n with
 | zero=>intro i acc h1 h2; omega
 | succ n ih=>
  intro i acc h1 h2 h3
  simp only [zfC,zmG,yt]
  by_cases h:i<l.length
  ·have hki:=hk l[i] (W2 h)
   have hlen:=zLP hki true
   rw [zI (by omega),zaC (zCE h),zx4,zps,zxg,zgk,zgh,z1w hL hki,zhy h]
   cases hf:zbD l[i]
   ·rw [if_neg (by decide),zlg,if_neg (by decide)]; rfl
   ·rw [if_pos rfl,zlg,if_pos rfl,yf (by simp only [zF]; unfold xm; omega),zbQ,up (by omega),ih (i+1) _ (by omega) (by omega) (by rw [Wm]; omega),zep h,Wu]
    rfl
  ·rw [zG (by omega),WK (by omega)]
   simp [ifb]
theorem z8R{L:Nat}(hL:20000≤L){b:BkT}(ho:BkOk b)(k:Ls→Int→Option β):zB β L (zlo b) k=if okK b=true then k (yq .u8 (zON b)) 0 else k (yq .u8 []) 4:=by
 have hn:=ho.n
 have hk:∀ t∈b.txs,KeptP t:=fun t ht=>(ho.tx t ht).2
 simp only [zB,zp6,zxX]
 simp only [zKL ho.hd,QB]
 by_cases h1:b.txs.length≤256
 ·rw [zG (by omega),z4w ho.hd,zZb ho.hd,zGJ (by omega) ho.hd,yt,zbV (by omega) (by omega),zKU (by omega) (by rw [znc ho.hd]; omega) (by omega)]
  have hs:=zhp (b.txs.length:Int)
  rw [show ((0:Int))=((0:Nat):Int) from rfl,z5g (by omega) _ _ b.txs hn hk L 0 _ (by omega) (by omega) (by rw [Wm,znc ho.hd]; omega),Yd]
  simp only [zjk,zkD]
  rw [show hdB b.hd++szB (b.txs.length:Int)++(b.txs.flatMap fun t=>zlG t true)=zON b from rfl]
  simp only [zF]
  cases hf:b.txs.all zbD
  ·rw [zeR,if_neg (by simp [okK,hf])]
  ·rw [zhB]
   by_cases h2:(zON b).length≤100000
   ·rw [zG (by omega),if_pos (by simp [okK,hf,h1,h2])]; rfl
   ·rw [zI (by omega),if_neg (by simp [okK,h2])]; rfl
 ·rw [zI (by omega),if_neg (by simp [okK,h1])]; rfl
theorem z8l{L:Nat}(hL:2000≤L){t:TxT}(h:KeptP t)(w:Bool)(k:Ls→Int→Option β):zE β L (zcA t) w k=if zbD t=true then k (yq .u8 (zlG t w)) 0 else k (yq .u8 []) 4:=by
 unfold zE zxp
 have l4:=zmC t
 rw [yf (by omega),zgh,zPY hL h,zL0 hL h]
 cases hf:zbD t with
 | true=>rw [if_pos rfl,Xh,zeR,yf (by omega)]
 | false=>rfl
theorem z5E{L:Nat}(hL:2000≤L)(kx:Ls→Option β)(l:List TxT)(hl:l.length≤10000)(hk:∀ t∈l,KeptP t)(hf:l.all zbD=true):∀ (n i:Nat) (acc:List Int),i≤l.length→l.length-i<n→acc.length≤100+i*3000000 →
  zf9 xh ya zE L kx n (yq .u8 acc) (l.map zcA) (l.length:Int) (i:Int)=kx (yq .u8 (acc++(l.drop i).flatMap fun t=>zlG t true)):=by
 intro n
 induction n with
 | zero=>intro i acc h1 h2; omega
 | succ n ih=>
  intro i acc h1 h2 h3
  simp only [zf9,zn0,yt]
  by_cases h:i<l.length
  ·have hki:=hk l[i] (W2 h)
   have hlen:=zLP hki true
   rw [zI (by omega),zaC (zCE h),zx4,zps,zxg,zgk,zgh,z8l hL hki,if_pos (List.all_eq_true.1 hf _ (W2 h)),yf (by simp only [zF]; unfold xm; omega),zbQ,up (by omega),ih (i+1) _ (by omega) (by omega) (by rw [Wm]; omega),zep h,Wu]
  ·rw [zG (by omega),WK (by omega)]
   simp
theorem zZm{L:Nat}(hL:20000≤L){b:BkT}(ho:BkOk b)(hf:b.txs.all zbD=true)(k:Ls→Option β):yr β L (zlo b) k=k (yq .u8 (zON b)):=by
 have hn:=ho.n
 have hk:∀ t∈b.txs,KeptP t:=fun t ht=>(ho.tx t ht).2
 have hs:=zhp (b.txs.length:Int)
 simp only [yr,zp8,zxi]
 simp only [zKL ho.hd,QB]
 rw [z4w ho.hd,zZb ho.hd,zLD (by omega) ho.hd,yt,zbV (by omega) (by omega),zC7 (by omega) (by rw [znc ho.hd]; omega) (by omega)]
 rw [show ((0:Int))=((0:Nat):Int) from rfl,z5E (by omega) _ b.txs hn hk hf L 0 _ (by omega) (by omega) (by rw [Wm,znc ho.hd]; omega),Yd]
 rfl
theorem z3f{L:Nat}(hL:2000≤L)(kr:Bool→Option β)(kx:List V→Option β)(l:List TxT)(hl:l.length≤10000)(hk:∀ t∈l,KeptP t)(b1:List V):∀ (n i:Nat),i≤l.length→l.length-i<n →
  zhI yc yr L kr kx n (l.map zcA) (l.length:Int) (i:Int) b1=ifb ((l.drop i).all zbD) (kx b1) (kr false):=by
 intro n
 induction n with
 | zero=>intro i h1 h2; omega
 | succ n ih=>
  intro i h1 h2
  simp only [zhI,zrx,yt]
  by_cases h:i<l.length
  ·have hki:=hk l[i] (W2 h)
   rw [zI (by omega),zaC (zCE h),zx4,zps,zxg,zgk,zgh,zPY hL hki,zhy h,up (by omega),ih (i+1) (by omega) (by omega)]
   cases zbD l[i] <;> rfl
  ·rw [zG (by omega),WK (by omega)]; rfl
theorem ybA{L:Nat}(hL:20000≤L){b:BkT}(ho:BkOk b)(k:Bool→Option β):zz β L (zlo b) k=k (okK b):=by
 have hn:=ho.n
 have hk:∀ t∈b.txs,KeptP t:=fun t ht=>(ho.tx t ht).2
 simp only [zz,zvO,zDh]
 simp only [zKL ho.hd,QB]
 by_cases h1:b.txs.length≤256
 ·rw [zG (by omega),show ((0:Int))=((0:Nat):Int) from rfl,z3f (by omega) _ _ b.txs hn hk _ L 0 (by omega) (by omega),Yd]
  simp only [zmF,znn]
  rw [zCz ho.hd,zME ho.hd]
  cases hf:b.txs.all zbD
  ·rw [zeR]; simp [okK,hf]
  ·rw [zhB,zZm hL ho hf]
   have e:decide ((((yq .u8 (zON b)).length:Nat):Int)≤100000)=decide ((zON b).length≤100000):=by
    rw [decide_eq_decide,zF]; omega
   rw [e]
   simp only [okK,hf,h1,decide_true,Ym]
 ·rw [zI (by omega)]; simp [okK,h1]
end
section
variable {β:Type}
def zQ4(a b:List Int):List Int:=zxd ([1]++a++b)
theorem zj2(a b:List Int):(zQ4 a b).length=32:=zbs _
theorem z8n(a b:List Int):zcV (zQ4 a b):=zQR _
def H32(h:List Int):Prop:=h.length=32∧zcV h
theorem yaD(a b:List Int):H32 (zQ4 a b):=⟨zj2 a b,z8n a b⟩
theorem z9y{a b:List Int}(ha:H32 a)(hb:H32 b):∀ x∈[1]++a++b,0≤x∧x≤255:=by
 intro x hx
 simp only [QD,Q9,List.not_mem_nil,or_false] at hx
 rcases hx with (rfl | h) | h
 ·decide
 ·exact ha.2 x h
 ·exact hb.2 x h
theorem z3P:yl 1 1 [(Qa (1:Int))]=yq .u8 [1]:=rfl
theorem z24{w:List Int}(hw:w.length=32)(k:List V→Option β):chk ((XK (row .u8 w))=32∧0+32≤32) (lt (zk (We 32 (Qa (0:Int))) 0 (row .u8 w)) fun r3=>chk (0=0∧(XK r3)=32∧32≠0) (k r3))=k (row .u8 w):=zLO hw k
theorem z5H{L:Nat}(hL:300≤L){a b:List Int}(ha:H32 a)(hb:H32 b)(k:List V→Option β):yp β L (row .u8 a) (row .u8 b) k=k (row .u8 (zQ4 a b)):=by
 have la:=ha.1
 have lb:=hb.1
 simp only [yp,zAw,yt]
 rw [yf (by rw [xr,la]; omega),zkv _ _ _ la,z3P,yf (by simp only [zF,la]; unfold xm; simp),zbQ,yf (by rw [xr,lb]; omega),zkv _ _ _ lb,yf (by simp only [zF,Wm,la,lb]; unfold xm; simp),zbQ,
  zWO (by simp [la,lb]; omega) (by simp [la,lb]) (z9y ha hb)]
 exact z24 (zj2 a b) k
theorem z6v{L:Nat}(kx:Ls→Option β)(w:List (List Int))(hw:w.length≤1000000)(hs:w.flatten.length≤1000000):∀ (n i:Nat) (acc:List Int),i≤w.length→w.length-i<n→acc.length+((w.drop i).flatten).length≤10000000 →
  zhO yg L kx n (yq .u8 acc) (zjh w) (w.length:Int) (i:Int)=kx (yq .u8 (acc++(w.drop i).flatten)):=by
 intro n
 induction n with
 | zero=>intro i acc h1 h2; omega
 | succ n ih=>
  intro i acc h1 h2 h3
  simp only [zhO,zrd,yt]
  by_cases h:i<w.length
  ·have e:=WQ h
   rw [e,WL,Wm] at h3
   rw [zI (by omega),zaC (ztM h),znb rfl,ziH (by omega),up (by omega),ih (i+1) _ (by omega) (by omega) (by rw [Wm]; omega),e,WL,Wu]
  ·rw [zG (by omega),WK (by omega)]; simp
theorem ycq{L:Nat}(hL:100≤L){a b c:List Int}(h:a.length+b.length+c.length≤100000)(k:Ls→Option β):zai β L (zjh [a,b,c]) k=k (yq .u8 (a++b++c)):=by
 simp only [zai,zuk,zEo]
 have e:([a,b,c]:List (List Int)).flatten=a++b++c:=by simp
 have:=z6v (L:=L) (fun p=>k p) [a,b,c] (by simp) (by rw [e]; simp; omega) L 0 [] (by omega) (by simp; omega) (by rw [Yd,e]; simp; omega)
 rw [Yd,e,Ye] at this
 exact this
theorem yaH{L:Nat}(hL:300≤L){a b:List Int}(ha:H32 a)(hb:H32 b)(k:List V→Option β):xq β L (row .u8 a) (row .u8 b) k=k (row .u8 (zQ4 a b)):=by
 have la:=ha.1
 have lb:=hb.1
 have key:xq β L (row .u8 a) (row .u8 b) k=chk (0+32*1≤(XK (row .u8 a))) (chk (0+32*1≤(XK (row .u8 b))) (zai β L (yl 1 3 [(V.sl 1 (yl 1 1 [(Qa (1:Int))])),(V.sl 1 (yl 1 32 (row .u8 a))),(V.sl 1 (yl 1 32 (row .u8 b)))]) (fun v6=>yX β L v6 (fun v7=>chk ((XK v7)=32∧0+32≤32) (lt (zk (We 32 (Qa (0:Int))) 0 v7) fun r8=>chk (0=0∧(XK r8)=32∧32≠0) (k r8)))))):=by
  cases a with
  | nil=>cases la
  | cons x xs=>cases b with
   | nil=>cases lb
   | cons y ys=>exact Eq.trans rfl rfl
 rw [key,yf (by rw [xr,la]; omega),yf (by rw [xr,lb]; omega),zkv _ _ _ la,zkv _ _ _ lb,z3P]
 rw [show yl 1 3 [V.sl 1 (yq .u8 [1]),V.sl 1 (yq .u8 a),V.sl 1 (yq .u8 b)]=zjh [[1],a,b] from rfl,ycq (by omega) (by simp [la,lb])]
 rw [zQJ (by simp [la,lb]; omega) (by simp [la,lb]) (z9y ha hb)]
 exact z24 (zj2 a b) k
def za4(l:List (List Int)):Ls:=l.map (row .u8)
theorem zfl(l:List (List Int)):(za4 l).length=l.length:=by simp [za4]
theorem zqb{l:List (List Int)}{i:Nat}(h:i<l.length):(za4 l)[i]?=some (row .u8 l[i]):=by simp [za4,h]
theorem zxm(l m:List (List Int)):za4 l++za4 m=za4 (l++m):=by simp [za4]
def zdx:List (List Int)→List (List Int)
 | a::b::r=>zQ4 a b::zdx r
 | l=>l
theorem zGh:∀ l:List (List Int),(zdx l).length=(l.length+1) / 2
 | []=>rfl
 | [_]=>by simp [zdx]
 | a::b::r=>by simp only [zdx,Yh,zGh r]; omega
theorem zLu:∀ {l:List (List Int)},(∀ h∈l,H32 h)→∀ h∈zdx l,H32 h
 | [],h=>by simp [zdx]
 | [_],h=>by simpa [zdx] using h
 | a::b::r,h=>fun x hx=>by
  simp only [zdx] at hx
  rcases Q9.1 hx with rfl | hx
  ·exact yaD a b
  ·exact zLu (l:=r) (fun y hy=>h y (by simp [hy])) x hx
def zis:Nat→List (List Int)→List (List Int)
 | 0,l=>l
 | n+1,l=>if l.length≤1 then l else zis n (zdx l)
theorem zGi:∀ (n:Nat) (l:List (List Int)),l.length≤n+1→l≠[]→(zis n l).length=1
 | 0,l,h,h0=>by have:=WY.2 h0; simp only [zis]; omega
 | n+1,l,h,h0=>by
  have:=WY.2 h0
  simp only [zis]
  split
  ·omega
  ·have e:=zGh l
   exact zGi n (zdx l) (by omega) (fun e0=>by rw [e0] at e; simp at e; omega)
theorem zMh:∀ (n:Nat) {l:List (List Int)},(∀ h∈l,H32 h)→∀ h∈zis n l,H32 h
 | 0,_,h=>h
 | n+1,l,h=>by
  simp only [zis]
  split
  ·exact h
  ·exact zMh n (zLu h)
theorem zh0{a:List Int}(h:a.length=32):XL 32 (row .u8 a)=row .u8 a:=XE (by rw [xr,h]; omega)
theorem zKp{a:List Int}(h:a.length=32):zk (We 32 (Qa (0:Int))) 0 (row .u8 a)=row .u8 a:=zws h
theorem zCH{a:List Int}(h:a.length=32):yl 32 1 (row .u8 a)=za4 [a]:=by
 simp only [yl,zh0 h]; rfl
theorem up2{i:Nat}(h:i≤1000000000):QG .i64 ((i:Int)+2)=((i+2:Nat):Int):=by
 rw [zas (by omega) (by omega)]; omega
theorem z2G{l:List (List Int)}{i:Nat}(h:i+1<l.length):l.drop i=l[i]'(by omega)::l[i+1]::l.drop (i+2):=by
 rw [WQ (by omega),WQ h]
theorem zY9{l:List (List Int)}{i:Nat}(h:i<l.length)(h2:¬ i+1<l.length):l.drop i=[l[i]]:=by
 rw [WQ h,WK (by omega)]
theorem ya1{L:Nat}(hL:300≤L)(kx:Ls→Ls→Option β)(l:List (List Int))(hl:l.length≤100000)(hk:∀ h∈l,H32 h)(p3:Ls):∀ (n i:Nat) (acc:List (List Int)),i≤l.length+1→l.length+1-i<n→acc.length≤i →
  zcL yp L kx n (za4 l) p3 (za4 acc) (i:Int)=kx p3 (za4 (acc++zdx (l.drop i))):=by
 intro n
 induction n with
 | zero=>intro i acc h1 h2; omega
 | succ n ih=>
  intro i acc h1 h2 h3
  simp only [zcL,zht,yt,zfl]
  by_cases h:i<l.length
  ·have hi:=hk l[i] (W2 h)
   rw [zI (by omega),up (by omega)]
   by_cases h':i+1<l.length
   ·have hj:=hk l[i+1] (W2 h')
    rw [zI (by omega),zaC (zqb h),zaC (zqb h'),zh0 hi.1,zh0 hj.1,z5H hL hi hj,yf ⟨by rw [xr,zj2],by omega⟩,zKp (zj2 _ _),zCH (zj2 _ _),yf (by simp only [zfl,Yh,Yi]; unfold xm; omega),zxm,up2 (by omega)]
    rw [ih (i+2) _ (by omega) (by omega) (by simp; omega),z2G h']
    simp [zdx]
   ·rw [zG (by omega),zaC (zqb h),zh0 hi.1,yf ⟨by rw [xr,hi.1],by omega⟩,zKp hi.1,zCH hi.1,yf (by simp only [zfl,Yh,Yi]; unfold xm; omega),zxm,up2 (by omega)]
    rw [ih (i+2) _ (by omega) (by omega) (by simp; omega),zY9 h h',WK (by omega)]
    simp [zdx]
  ·rw [zG (by omega),WK (by omega)]
   simp [zdx]
theorem z3W{L:Nat}(hL:300000≤L):∀ (n:Nat) (l:List (List Int)) (pre:Ls),l.length≤n+1→l.length≤100000→(∀ h∈l,H32 h)→pre.length+n≤200000→∀ N,n<N →
  ∃ pre',pre'.length≤200000∧∀ kx:Ls→Option β,zc6 yp L kx N (za4 l) (pre++[[V.sl 32 (za4 l)]])=kx (pre'++[[V.sl 32 (za4 (zis n l))]])
 | n,l,pre,h1,h2,h3,h4,0,hN=>by omega
 | n,l,pre,h1,h2,h3,h4,N+1,hN=>by
  by_cases h:l.length≤1
  ·refine ⟨pre,by omega,fun kx=>?_⟩
   simp only [zc6,zfj,zi3,zfl]
   rw [zG (by omega)]
   have:zis n l=l:=by cases n <;> simp [zis,h]
   rw [this]
  ·obtain ⟨m,rfl⟩:∃ m,n=m+1:=⟨n-1,by omega⟩
   have e:=zGh l
   obtain ⟨pre',hpl,hp⟩:=z3W hL m (zdx l) (pre++[[V.sl 32 (za4 l)]]) (by omega) (by omega) (zLu h3) (by simp; omega) N (by omega)
   refine ⟨pre',hpl,fun kx=>?_⟩
   simp only [zc6,zfj,zi3,zfl]
   rw [zI (by omega)]
   have:=ya1 (L:=L) (by omega) (fun p3 p4=>zd8 yp L p3 p4 (fun p0 p3=>zc6 yp L kx N p0 p3)) l h2 h3 (pre++[[V.sl 32 (za4 l)]]) L 0 [] (by omega) (by omega) (by simp)
   refine Eq.trans this ?_
   simp only [zd8,Yd,Ye,yt]
   rw [yf (by rw [show (yl 1 1 [V.sl 32 (za4 (zdx l))]).length=1 from rfl]; simp only [Wm,Yh,Yi]; unfold xm; omega)]
   have q:zis (m+1) l=zis m (zdx l):=by simp only [zis]; rw [if_neg h]
   rw [q,show yl 1 1 [V.sl 32 (za4 (zdx l))]=[[V.sl 32 (za4 (zdx l))]] from rfl]
   exact hp kx
def zqh(l:List (List Int)):List Int:=if l.length=0 then We 32 0 else if l.length>1024 then We 32 0 else (zis l.length l).headD []
theorem z4c(pre:Ls)(x:List V):(pre++[x])[pre.length]?=some x:=by simp
theorem zLJ:We 32 (Qa (0:Int))=row .u8 (We 32 0):=zxL 32 .u8 0
theorem yak{l:List (List Int)}(h:∀ x∈l,H32 x):H32 (zqh l):=by
 have z:H32 (We 32 (0:Int)):=⟨by simp,fun x hx=>by rw [(Yc.1 hx).2]; decide⟩
 unfold zqh
 split
 ·exact z
 ·split
  ·exact z
  ·have h1:=zGi l.length l (by omega) (fun e=>by simp_all)
   obtain ⟨x,hx⟩:=Yk.1 h1
   rw [hx]
   exact zMh l.length h x (by rw [hx]; simp)
theorem yci{L:Nat}(hL:300000≤L){l:List (List Int)}(h:∀ x∈l,H32 x)(hl:l.length≤100000)(k:List V→Option β):yF β L (za4 l) k=k (row .u8 (zqh l)):=by
 simp only [yF,zzT,zfl]
 by_cases h0:l.length=0
 ·rw [zna (by omega),yt,yf (by simp),zLJ]; simp [zqh,h0]
 ·rw [zSc (by omega)]
  by_cases h1:l.length>1024
  ·rw [zI (by omega),yt,yf (by simp),zLJ]; simp [zqh,h0,h1]
  ·rw [zG (by omega)]
   have o1:=zGi l.length l (by omega) (fun e=>by simp_all)
   obtain ⟨x,hx⟩:=Yk.1 o1
   have hx32:H32 x:=zMh l.length h x (by rw [hx]; simp)
   obtain ⟨pre',hpl,hp⟩:=z3W (β:=β) hL l.length l [] (by omega) hl h (by simp; omega) L (by omega)
   simp only [zaI,zoi,zv3,zll]
   refine Eq.trans (hp _) ?_
   rw [hx]
   simp only [yt,Wm,Yh,Yi]
   rw [show QG .i64 ((((pre'.length+(0+1):Nat)):Int)-1)=((pre'.length:Nat):Int) by
    rw [zas (by omega) (by omega)]; omega,zaC (z4c pre' _),znb rfl,zxY (by omega) rfl,zh0 hx32.1,yf ⟨by rw [xr,hx32.1],by omega⟩,zKp hx32.1,yf (by rw [xr,hx32.1]; simp)]
   simp [zqh,h0,h1,hx]
theorem ybF{L:Nat}(hL:300≤L)(kx:Ls→Ls→Option β)(l:List (List Int))(hl:l.length≤100000)(hk:∀ h∈l,H32 h)(p3:Ls):∀ (n i:Nat) (acc:List (List Int)),i≤l.length+1→l.length+1-i<n→acc.length≤i →
  zdl xq L kx n (za4 l) p3 (za4 acc) (i:Int)=kx p3 (za4 (acc++zdx (l.drop i))):=by
 intro n
 induction n with
 | zero=>intro i acc h1 h2; omega
 | succ n ih=>
  intro i acc h1 h2 h3
  simp only [zdl,zij,yt,zfl]
  by_cases h:i<l.length
  ·have hi:=hk l[i] (W2 h)
   rw [zI (by omega),up (by omega)]
   by_cases h':i+1<l.length
   ·have hj:=hk l[i+1] (W2 h')
    rw [zI (by omega),zaC (zqb h),zaC (zqb h'),zh0 hi.1,zh0 hj.1,yaH hL hi hj,yf ⟨by rw [xr,zj2],by omega⟩,zKp (zj2 _ _),zCH (zj2 _ _),yf (by simp only [zfl,Yh,Yi]; unfold xm; omega),zxm,up2 (by omega)]
    rw [ih (i+2) _ (by omega) (by omega) (by simp; omega),z2G h']
    simp [zdx]
   ·rw [zG (by omega),zaC (zqb h),zh0 hi.1,yf ⟨by rw [xr,hi.1],by omega⟩,zKp hi.1,zCH hi.1,yf (by simp only [zfl,Yh,Yi]; unfold xm; omega),zxm,up2 (by omega)]
    rw [ih (i+2) _ (by omega) (by omega) (by simp; omega),zY9 h h',WK (by omega)]
    simp [zdx]
  ·rw [zG (by omega),WK (by omega)]
   simp [zdx]
theorem z4C{L:Nat}(hL:300000≤L):∀ (n:Nat) (l:List (List Int)) (pre:Ls),l.length≤n+1→l.length≤100000→(∀ h∈l,H32 h)→pre.length+n≤200000→∀ N,n<N →
  ∃ pre',pre'.length≤200000∧∀ kx:Ls→Option β,zdI xq L kx N (za4 l) (pre++[[V.sl 32 (za4 l)]])=kx (pre'++[[V.sl 32 (za4 (zis n l))]])
 | n,l,pre,h1,h2,h3,h4,0,hN=>by omega
 | n,l,pre,h1,h2,h3,h4,N+1,hN=>by
  by_cases h:l.length≤1
  ·refine ⟨pre,by omega,fun kx=>?_⟩
   simp only [zdI,zgb,zkd,zfl]
   rw [zG (by omega)]
   have:zis n l=l:=by cases n <;> simp [zis,h]
   rw [this]
  ·obtain ⟨m,rfl⟩:∃ m,n=m+1:=⟨n-1,by omega⟩
   have e:=zGh l
   obtain ⟨pre',hpl,hp⟩:=z4C hL m (zdx l) (pre++[[V.sl 32 (za4 l)]]) (by omega) (by omega) (zLu h3) (by simp; omega) N (by omega)
   refine ⟨pre',hpl,fun kx=>?_⟩
   simp only [zdI,zgb,zkd,zfl]
   rw [zI (by omega)]
   have:=ybF (L:=L) (by omega) (fun p3 p4=>zek xq L p3 p4 (fun p0 p3=>zdI xq L kx N p0 p3)) l h2 h3 (pre++[[V.sl 32 (za4 l)]]) L 0 [] (by omega) (by omega) (by simp)
   refine Eq.trans this ?_
   simp only [zek,Yd,Ye,yt]
   rw [yf (by rw [show (yl 1 1 [V.sl 32 (za4 (zdx l))]).length=1 from rfl]; simp only [Wm,Yh,Yi]; unfold xm; omega)]
   have q:zis (m+1) l=zis m (zdx l):=by simp only [zis]; rw [if_neg h]
   rw [q,show yl 1 1 [V.sl 32 (za4 (zdx l))]=[[V.sl 32 (za4 (zdx l))]] from rfl]
   exact hp kx
theorem ycr{L:Nat}(hL:300000≤L){l:List (List Int)}(h:∀ x∈l,H32 x)(hl:l.length≤100000)(k:List V→Option β):xI β L (za4 l) k=k (row .u8 (zqh l)):=by
 simp only [xI,zCR,zfl]
 by_cases h0:l.length=0
 ·rw [zna (by omega),yt,yf (by simp),zLJ]; simp [zqh,h0]
 ·rw [zSc (by omega)]
  by_cases h1:l.length>1024
  ·rw [zI (by omega),yt,yf (by simp),zLJ]; simp [zqh,h0,h1]
  ·rw [zG (by omega)]
   have o1:=zGi l.length l (by omega) (fun e=>by simp_all)
   obtain ⟨x,hx⟩:=Yk.1 o1
   have hx32:H32 x:=zMh l.length h x (by rw [hx]; simp)
   obtain ⟨pre',hpl,hp⟩:=z4C (β:=β) hL l.length l [] (by omega) hl h (by simp; omega) L (by omega)
   simp only [zaY,zqg,zx1,zmm]
   refine Eq.trans (hp _) ?_
   rw [hx]
   simp only [yt,Wm,Yh,Yi]
   rw [show QG .i64 ((((pre'.length+(0+1):Nat)):Int)-1)=((pre'.length:Nat):Int) by
    rw [zas (by omega) (by omega)]; omega,zaC (z4c pre' _),znb rfl,zxY (by omega) rfl,zh0 hx32.1,yf ⟨by rw [xr,hx32.1],by omega⟩,zKp hx32.1,yf (by rw [xr,hx32.1]; simp)]
   simp [zqh,h0,h1,hx]
end
section
variable {β:Type}
def zVF:List (List Int)→List Int→Nat→Option Nat
 | [],_,_=>none
 | x::l,h,n=>if x=h then some n else zVF l h (n+1)
def yb3:List (List Int)→Nat→Lm
 | [],_=>[]
 | x::l,n=>(V.agg (row .u8 x),V.sc (.int .i64 (n:Int)))::yb3 l (n+1)
def ya6:List (List Int)→List (List Int)→Bool
 | _,[]=>false
 | pre,x::l=>(zVF pre x 0).isSome||ya6 (pre++[x]) l
def ya7(l:List TxT):List (List Int):=l.map fun t=>zso t false
theorem yas{t:TxT}(h:TxOk t)(w:Bool):H32 (zso t w):=by
 refine ⟨zHh t w,fun x hx=>?_⟩
 unfold zso at hx
 split at hx
 ·exact z9O _ x hx
 ·rw [(Yc.1 hx).2]; decide
def ycJ(ids:List (List Int))(i:Nat)(x:Inp):Bool:=match zVF ids (zMP x) 0 with
 | some p=>decide (i≤p)
 | none=>false
def z4m(ids:List (List Int)):List TxT→Nat→Bool
 | [],_=>false
 | t::l,i=>t.ins.any (ycJ ids i)||z4m ids l (i+1)
def ycO(l:List TxT):List Inp:=l.flatMap TxT.ins
def z6B(l:List TxT):Int:=if ya6 [] (ya7 l)=true then 91 else if z4m (ya7 l) l 0=true then 101 else if zYt [] (ycO l)=true then 91 else 0
end
section
variable {β:Type}
def zlF(l:List TxT):List (List Int):=l.map fun t=>zso t true
theorem zX6{l:List TxT}(h:∀ t∈l,TxOk t):∀ x∈zlF l,H32 x:=fun x hx=>by
 obtain ⟨t,ht,rfl⟩:=Xy.1 hx
 exact yas (h t ht) true
theorem zHz(l:List TxT):(zlF l).length=l.length:=by simp [zlF]
theorem zVx{l:List TxT}{i:Nat}(h:i<l.length):zlF (l.take i)++[zso l[i] true]=zlF (l.take (i+1)):=by
 simp only [zlF,List.take_succ_eq_append_getElem h,Yn,QW,List.map_nil]
def zQI(l:List TxT):List Int:=zqh (zlF l)
theorem zW6{l:List TxT}(h:∀ t∈l,TxOk t):H32 (zQI l):=yak (zX6 h)
theorem z3J{L:Nat}(hL:4000000≤L)(kx:Ls→List V→Option β)(l:List TxT)(hl:l.length≤10000)(hk:∀ t∈l,TxOk t∧KeptP t)(b2:List V):∀ (n i:Nat),i≤l.length→l.length-i<n →
  zhQ xT yF L kx n (za4 (zlF (l.take i))) (l.map zcA) (l.length:Int) (i:Int) b2=kx (za4 (zlF l)) b2:=by
 intro n
 induction n with
 | zero=>intro i h1 h2; omega
 | succ n ih=>
  intro i h1 h2
  simp only [zhQ,zq5,yt]
  by_cases h:i<l.length
  ·obtain ⟨ht,hki⟩:=hk l[i] (W2 h)
   have hn:=zHh l[i] true
   rw [zI (by omega),zaC (zCE h),zx4,zps,zxg,zgk,zgh,ybw hL ht hki,yf ⟨by rw [xr,hn],by omega⟩,zws hn,zCH hn,yf (by simp only [zfl,zHz,Ww,Yh,Yi]; unfold xm; omega),zxm,zVx h,up (by omega)]
   exact ih (i+1) (by omega) (by omega)
  ·rw [zG (by omega),XE (by omega)]
theorem z3s{L:Nat}(hL:4000000≤L)(kx:Ls→List V→Option β)(l:List TxT)(hl:l.length≤10000)(hk:∀ t∈l,TxOk t∧KeptP t)(b2:List V):∀ (n i:Nat),i≤l.length→l.length-i<n →
  zhL yI xI L kx n (za4 (zlF (l.take i))) (l.map zcA) (l.length:Int) (i:Int) b2=kx (za4 (zlF l)) b2:=by
 intro n
 induction n with
 | zero=>intro i h1 h2; omega
 | succ n ih=>
  intro i h1 h2
  simp only [zhL,zqR,yt]
  by_cases h:i<l.length
  ·obtain ⟨ht,hki⟩:=hk l[i] (W2 h)
   have hn:=zHh l[i] true
   rw [zI (by omega),zaC (zCE h),zx4,zps,zxg,zgk,zgh,yaF hL ht hki,yf ⟨by rw [xr,hn],by omega⟩,zws hn,zCH hn,yf (by simp only [zfl,zHz,Ww,Yh,Yi]; unfold xm; omega),zxm,zVx h,up (by omega)]
   exact ih (i+1) (by omega) (by omega)
  ·rw [zG (by omega),XE (by omega)]
theorem z7I{L:Nat}(hL:4000000≤L){l:List TxT}(hl:l.length≤10000)(hk:∀ t∈l,TxOk t∧KeptP t)(k:List V→Option β):xH β L (l.map zcA) k=k (row .u8 (zQI l)):=by
 have hh:=zX6 fun t ht=>(hk t ht).1
 have hr:=(zW6 fun t ht=>(hk t ht).1).1
 simp only [xH,zt2,zDK,QB]
 have q:=z3J (L:=L) hL (fun p3 b2=>zi2 xT yF L p3 b2 k) l hl hk (We 32 (Qa (0:Int))) L 0 (by omega) (by omega)
 rw [List.take_zero] at q
 refine Eq.trans q ?_
 simp only [zi2]
 rw [yci (by omega) hh (by rw [zHz]; omega)]
 rw [show zqh (zlF l)=zQI l from rfl,yf ⟨by rw [xr,hr],by simp⟩,yt,zws hr,yf (by rw [xr,hr]; simp)]
theorem z6M{L:Nat}(hL:4000000≤L){l:List TxT}(hl:l.length≤10000)(hk:∀ t∈l,TxOk t∧KeptP t)(k:List V→Option β):zw β L (l.map zcA) k=k (row .u8 (zQI l)):=by
 have hh:=zX6 fun t ht=>(hk t ht).1
 have hr:=(zW6 fun t ht=>(hk t ht).1).1
 simp only [zw,zvB,zEE,QB]
 have q:=z3s (L:=L) hL (fun p3 b2=>zjf yI xI L p3 b2 k) l hl hk (We 32 (Qa (0:Int))) L 0 (by omega) (by omega)
 rw [List.take_zero] at q
 refine Eq.trans q ?_
 simp only [zjf]
 rw [ycr (by omega) hh (by rw [zHz]; omega)]
 rw [show zqh (zlF l)=zQI l from rfl,yf ⟨by rw [xr,hr],by simp⟩,yt,zws hr,yf (by rw [xr,hr]; simp)]
def yc5(ids:List (List Int))(h:List Int):Int:=match zVF ids h 0 with
 | some j=>(j:Int)
 | none=>-1
def pts(l:List Inp):Ls:=l.map zuA
def z9p:List TxT→Nat→Bool
 | [],_=>true
 | t::l,i=>(cbB t==((i:Int)==0))&&z9p l (i+1)
def z4T:List TxT→Int
 | []=>0
 | t::l=>if z61 t=0 then z4T l else z61 t
def yc6(b:BkT):Int:=if okK b=true then (if b.txs.length=0 then 93 else if z9p b.txs 0=true then (if z4T b.txs=0 then (if z6B b.txs=0 then (if zQI b.txs=b.hd.root then 0 else 110) else z6B b.txs) else z4T b.txs) else 111) else 4
end
section
variable {β:Type}
theorem z9v:∀ {es:Ls},(∀ e∈es,HasRow ([.int .u32]++[.sl (We 32 (.int .u8)++We 2 (.int .u32)++[.sl ([.sl ([.int .u8])])])]++[.sl ([.int .i64]++[.sl ([.int .u8])])]++[.int .u32]) e)→∃ w:List TxT,es=w.map zcA∧∀ t∈w,TxOk t
 | [],_=>⟨[],rfl,by simp⟩
 | e::es,h=>by
  obtain ⟨t,rfl,ht⟩:=yca (h e (by simp))
  obtain ⟨w,rfl,hw⟩:=z9v (es:=es) (fun x hx=>h x (by simp [hx]))
  refine ⟨t::w,rfl,fun b hb=>?_⟩
  rcases Q9.1 hb with rfl | hb
  ·exact ht
  ·exact hw b hb
theorem z67{a:List V}(h:HasRow ([.int .u32]++We 64 (.int .u8)++We 3 (.int .u32)) a):∃ d,a=hrow d∧HdOk d:=by
 rw [Wu] at h
 obtain ⟨v1,r1,rfl,g1,hh⟩:=h.tail
 obtain ⟨n,rfl,hn⟩:=g1.int_inv
 have hh:HasRow (We 64 (.int .u8)++We 3 (.int .u32)) r1:=hh
 obtain ⟨r,s,rfl,h1,h2⟩:=zG3 hh
 rw [show We 64 (CT.int .u8)=We 32 (CT.int .u8)++We 32 (CT.int .u8) from rfl] at h1
 obtain ⟨p,q,rfl,hp,hq⟩:=zG3 h1
 obtain ⟨lp,rfl,lpl,lpw⟩:=zWn hp
 obtain ⟨lq,rfl,lql,lqw⟩:=zWn hq
 obtain ⟨v2,r2,rfl,g2,h2⟩:=h2.tail
 obtain ⟨v3,r3,rfl,g3,h2⟩:=h2.tail
 obtain ⟨v4,r4,rfl,g4,h2⟩:=h2.tail
 obtain rfl:=h2.nil
 obtain ⟨x,rfl,hx⟩:=g2.int_inv
 obtain ⟨y,rfl,hy⟩:=g3.int_inv
 obtain ⟨z,rfl,hz⟩:=g4.int_inv
 exact ⟨⟨n,lp,lq,x,y,z⟩,by simp only [hrow,Wu],⟨lpl,lql,fun i hi=>zQM (lpw i hi),fun i hi=>zQM (lqw i hi),zzz hn,zzz hx,zzz hy,zzz hz⟩⟩
structure BkW (b:BkT):Prop where
 hd:HdOk b.hd
 tx:∀ t∈b.txs,TxOk t
theorem ybG{a:List V}(h:HasRow ([.int .u32]++We 64 (.int .u8)++We 3 (.int .u32)++[.sl ([.int .u32]++[.sl (We 32 (.int .u8)++We 2 (.int .u32)++[.sl ([.sl ([.int .u8])])])]++[.sl ([.int .i64]++[.sl ([.int .u8])])]++[.int .u32])]) a):∃ b,a=zlo b∧BkW b:=by
 obtain ⟨r,s,rfl,h1,h2⟩:=zG3 h
 obtain ⟨d,rfl,hd⟩:=z67 h1
 obtain ⟨v,r1,rfl,g,h2⟩:=h2.tail
 obtain rfl:=h2.nil
 obtain ⟨xs,rfl,hl,hx⟩:=g.sl_inv
 obtain ⟨w,rfl,hw⟩:=z9v hx
 exact ⟨⟨d,w⟩,rfl,hd,hw⟩
theorem z3j{L:Nat}(hL:2000≤L)(kr:Bool→Option β)(kx:Option β)(l:List TxT)(hl:l.length≤12):∀ (n i:Nat),i≤l.length→l.length-i<n →
  zhP xO L kr kx n (l.map zcA) (l.length:Int) (i:Int)=ifb ((l.drop i).all zIa) kx (kr false):=by
 intro n
 induction n with
 | zero=>intro i h1 h2; omega
 | succ n ih=>
  intro i h1 h2
  simp only [zhP,zq8,yt]
  by_cases h:i<l.length
  ·rw [zI (by omega),zaC (zCE h),zx4,zps,zxg,zgk,zgh,yaY hL,zhy h,up (by omega),ih (i+1) (by omega) (by omega)]
   cases zIa l[i] <;> rfl
  ·rw [zG (by omega),WK (by omega)]; rfl
def zQ1(b:BkT):Bool:=decide (b.txs.length≤12)&&b.txs.all zIa
theorem ybd{L:Nat}(hL:2000≤L){b:BkT}(hb:BkW b)(k:Bool→Option β):zav β L (zlo b) k=k (zQ1 b):=by
 simp only [zav,zt4,zEC]
 simp only [zKL hb.hd,QB]
 by_cases h:b.txs.length≤12
 ·rw [zG (by omega),show ((0:Int))=((0:Nat):Int) from rfl,z3j hL _ _ b.txs h L 0 (by omega) (by omega),Yd]
  simp only [zQ1,h,decide_true,Ym,zmg,zno]
  cases b.txs.all zIa <;> rfl
 ·rw [zI (by omega)]; simp [zQ1,h]
theorem z81{b:BkT}(hb:BkW b)(h:zQ1 b=true):BkOk b:=by
 simp only [zQ1,Bool.and_eq_true,decide_eq_true_eq,List.all_eq_true] at h
 exact ⟨hb.hd,by omega,fun t ht=>⟨hb.tx t ht,ybW (h.2 t ht)⟩⟩
def ycW(b:BkT)(r:List Int):BkT:=⟨{ b.hd with root:=r },b.txs⟩
theorem zYY(A B C D:List V)(h:B.length=C.length):zk (A++(B++D)) A.length C=A++(C++D):=by
 unfold zk
 rw [List.take_left,Wu,← h,← WO,List.drop_left,List.drop_left]
end
section
set_option linter.unusedSectionVars false
variable {β:Type}
def z8V{α:Type}(r:Except Int (α × Nat))(k:α→Nat→Option β)(b:Int→Option β):Option β:=match r with
 | .ok (v,a)=>k v a
 | .error e=>b e
theorem zQO{α:Type}(v:α)(a:Nat)(k:α→Nat→Option β)(b:Int→Option β):z8V (.ok (v,a)) k b=k v a:=rfl
def gN(j:List Int)(w a:Nat):Except Int (Nat × Nat):=if a+w≤j.length then .ok (le j a w,a+w) else .error 1
def zQN(j:List Int)(a:Nat):Except Int (List Int × Nat):=if a+32≤j.length then .ok ((j.drop a).take 32,a+32) else .error 1
def zWP:List V:=We 32 (Qa (0:Int))
theorem z7i(k:IntKind)(l:List Int):(yq k l).flatten=row k l:=by
 induction l with
 | nil=>rfl
 | cons x l ih=>simp only [yq,row,QW,WL] at ih ⊢; rw [ih]; rfl
theorem zX1{w:List Int}(hw:w.length=32):zk (We 32 (Qa (0:Int))) 0 (row .u8 w)=row .u8 w:=zc3 (by rw [xr,hw,XR])
theorem z08{w:List Int}(hw:w.length=32):XL 32 (row .u8 w)=row .u8 w:=XE (by rw [xr]; omega)
theorem z2V{j:List Int}{a:Nat}(h:a+32≤j.length):zk (We 32 (Qa (0:Int))) 0 (List.flatten (XL (min (XK (XL ((XK (yq .u8 j))-(XM (a:Int))) (XO (XM (a:Int)) (yq .u8 j)))) 32) (XL ((XK (yq .u8 j))-(XM (a:Int))) (XO (XM (a:Int)) (yq .u8 j)))))=row .u8 ((j.drop a).take 32):=by
 rw [Int.toNat_natCast,zY8,zF,zHs,zF,XE (l:=j.drop a) (by rw [XS]; omega),XS,Nat.min_eq_right (by omega),zHs,z7i]
 exact zX1 (by rw [Ww,XS]; omega)
theorem z1s(k:Option β):chk (0=0∧(XK zWP)=32∧32≠0) k=k:=yf (by simp [zWP]) k
theorem z4A{L:Nat}(hL:20≤L){j:List Int}(hj:j.length≤100000000){a:Nat}(ha:a≤j.length)(k:List V→Int→Int→Option β):za5 β L (yq .u8 j) (a:Int) k=z8V (zQN j a) (fun v a'=>k (row .u8 v) (a':Int) 0) (fun e=>k zWP 0 e):=by
 unfold za5 zEh
 refine (z4b L j ha hj (w:=32) (by decide) _).trans ?_
 unfold zQN
 by_cases h:a+32≤j.length
 ·have hl:((j.drop a).take 32).length=32:=by rw [Ww,XS]; omega
  rw [if_pos h,if_pos h,zlg,if_pos rfl,yf (by rw [zF]; omega),z2V h,yt,yf (by rw [xr]; omega),zas (by omega) (by omega),yt,z08 hl,yf (by rw [xr]; omega),zX1 hl,yt,yf (by rw [xr]; omega)]
  rfl
 ·rw [if_neg h,if_neg h,zlg,if_neg (by decide),yt]
  exact z1s _
theorem z26{L:Nat}(hL:20≤L){j:List Int}(hj:j.length≤100000000){a:Nat}(ha:a≤j.length)(k:List V→Int→Int→Option β):za7 β L (yq .u8 j) (a:Int) k=z8V (zQN j a) (fun v a'=>k (row .u8 v) (a':Int) 0) (fun e=>k zWP 0 e):=by
 unfold za7 zCZ
 rw [zG (by omega),zF,zG (by omega),zas (by omega) (by omega),yt]
 unfold zQN
 by_cases h:a+32≤j.length
 ·have hl:((j.drop a).take 32).length=32:=by rw [Ww,XS]; omega
  have hr:=z2V h
  rw [zF] at hr
  rw [if_pos h,zG (by omega),yf (by omega),hr,yt,yf (by rw [xr]; omega),zas (by omega) (by omega),yt,z08 hl,yf (by rw [xr]; omega),zX1 hl,yt,yf (by rw [xr]; omega)]
  rfl
 ·rw [if_neg h,zI (by omega),yt]
  exact z1s _
def leB(n:Nat):Nat→List Int
 | 0=>[]
 | w+1=>((n % 256:Nat):Int)::leB (n / 256) w
theorem zQU:∀ (w n:Nat),(leB n w).length=w
 | 0,n=>rfl
 | w+1,n=>by simp [leB,zQU w]
theorem z97(n i:Nat)(hi:i≤7):QG .u8 (zcM .u64 ((n:Nat):Int) (8*(i:Int)))=((n / 256 ^ i % 256:Nat):Int):=by
 have e1:(8*(i:Int)).toNat=8*i:=by omega
 have e2:min (8*i) (IntKind.bits .u64)=8*i:=Nat.min_eq_left (by show 8*i≤64; omega)
 unfold zcM
 rw [e1,e2]
 have e3:((2:Int) ^ (8*i))=((256 ^ i:Nat):Int):=by rw [z2r,Int.natCast_pow]; rfl
 rw [e3,Int.fdiv_eq_ediv_of_nonneg _ (Int.natCast_nonneg _),← Int.natCast_ediv]
 have:=z9X (n:=((n / 256 ^ i % 256:Nat):Int)) (by omega) (by omega)
 rw [← this]
 unfold QG
 simp only [IntKind.signed,IntKind.bits]
 have h8:(2:Int) ^ 8=256:=by decide
 have hh:(((n / 256 ^ i:Nat):Int) % 256)=(((n / 256 ^ i % 256:Nat):Int) % 256):=by omega
 simp [h8,hh]
theorem zVM:∀ (w n:Nat),(List.range w).map (fun i=>((n / 256 ^ i % 256:Nat):Int))=leB n w
 | 0,n=>rfl
 | w+1,n=>by
  rw [List.range_succ_eq_map,QW,List.map_map,leB,← zVM w (n / 256)]
  simp only [Nat.pow_zero,Nat.div_one]
  congr 1
  apply Yp
  intro i _
  simp only [Function.comp_apply,Nat.pow_succ,Nat.div_div_eq_div_mul,Nat.mul_comm]
theorem z99(n w:Nat)(hw:w≤8):zfW ((n:Nat):Int) w=leB n w:=by
 rw [← zVM]
 unfold zfW
 apply Yp
 intro i hi
 exact z97 n i (by have:=List.mem_range.1 hi; omega)
theorem zQT{n:Nat}(h:n<4294967296):zsV ((n:Nat):Int)=leB n 4:=by
 unfold zsV
 rw [zbV (by omega) (by omega),z99 _ _ (by decide)]
theorem zVk:∀ (w n a:Nat) {j r:List Int},n<256 ^ w→j.drop a=leB n w++r→le j a w=n
 | 0,n,a,j,r,hn,h=>by simp [le] at hn ⊢; omega
 | w+1,n,a,j,r,hn,h=>by
  rw [leB,List.cons_append] at h
  have hlt:a<j.length:=by
   rcases Nat.lt_or_ge a j.length with h1 | h1
   ·exact h1
   ·rw [List.drop_eq_nil_of_le h1] at h; cases h
  rw [WQ hlt] at h
  have h0:=(List.cons.inj h).1
  have h1:=(List.cons.inj h).2
  have hb:zv4 j a=n % 256:=by
   unfold zv4
   rw [Ws,Wc hlt,Option.getD_some,h0]
   omega
  rw [zX3,zVk w (n / 256) (a+1) (by rw [Nat.pow_succ] at hn; exact Nat.div_lt_of_lt_mul (by omega)) h1,hb]
  omega
theorem z2L:∀ (l:List Int),ziD (yq .u8 l)=some (l.map fun n=>UInt8.ofNat n.toNat)
 | []=>rfl
 | n::l=>by
  have:=z2L l
  simp only [yq] at this
  simp [yq,ziD,this]
theorem zOH{L:Nat}(l:List Int)(k:Bool→Option β):zW β L (yq .u8 l) (yq .u8 l) k=k true:=by
 simp only [zW,zEL,zXt,z2L,BEq.rfl]
theorem z8K{L:Nat}(hL:20000≤L){b:BkT}(ho:BkOk b)(k:Ls→Int→Option β):zaO β L (zlo b) k=if okK b=true then k (yq .u8 (zON b)) 0 else k (yq .u8 []) 4:=by
 simp only [zaO,zxT]
 rw [zCz ho.hd,zME ho.hd,ybA hL ho]
 cases h:okK b
 ·rfl
 ·have hf:b.txs.all zbD=true:=by simp only [okK,Bool.and_eq_true] at h; exact h.1.2
  rw [if_pos rfl,Xh,zeR,zCz ho.hd,zZm hL ho hf]
theorem zO3(a0:List V)(wf0:HasRow ([.int .u32]++We 64 (.int .u8)++We 3 (.int .u32)++[.sl ([.int .u32]++[.sl (We 32 (.int .u8)++We 2 (.int .u32)++[.sl ([.sl ([.int .u8])])])]++[.sl ([.int .i64]++[.sl ([.int .u8])])]++[.int .u32])]) a0) :
  ∃ L,∀ k:Bool→Option Bool,zb3 Bool L a0 k=k true:=by
 obtain ⟨b,rfl,hw⟩:=ybG wf0
 obtain ⟨L,hL⟩:∃ L,4000000≤L:=⟨4000000,Nat.le_refl _⟩
 refine ⟨L,fun k=>?_⟩
 simp only [zb3,zmj,yR]
 rw [yf (by omega),zCz hw.hd,zME hw.hd,ybd (by omega) hw]
 cases hk:zQ1 b
 ·rfl
 ·have hb:=z81 hw hk
  have hr:=zW6 fun t ht=>(hb.tx t ht).1
  have last:∀ (l:List Int),(ifb ((0:Int)==0) (zW Bool L (yq .u8 l) (yq .u8 l) fun v5=>ifb v5 (cLd 4 (zlo b) 68 fun v6=>xH Bool L v6 fun v7=>cLd 4 (zlo b) 68 fun v8=>zw Bool L v8 fun v9=>eqC 32 v7 v9 fun v10=>k v10) (k false)) (k false))=k true:=fun l=>by
   rw [zna rfl,zOH,zhB]
   simp only [zKL hw.hd]
   rw [z7I hL hb.n hb.tx,z6M hL hb.n hb.tx,zXr .u8 hr.1 hr.1,decide_eq_true rfl]
  rw [Xh,zeR,zCz hw.hd,z8R (by omega) hb]
  simp only [zCz hw.hd,zME hw.hd,z8K (L:=L) (by omega) hb]
  cases okK b
  ·rw [if_neg (by decide),if_neg (by decide),zna rfl,zOH,zhB]
   simp only [zKL hw.hd]
   rw [z7I hL hb.n hb.tx,z6M hL hb.n hb.tx,zXr .u8 hr.1 hr.1,decide_eq_true rfl]
  ·rw [if_pos rfl,if_pos rfl]
   exact last _
def zHd:HdT:=⟨0,We 32 0,We 32 0,0,0,0⟩
theorem zYE(v:Int):[(Qc v)]++We 64 (Qa (0:Int))++[(Qc (0:Int)),(Qc (0:Int)),(Qc (0:Int))]=hrow { zHd with ver:=v }:=by rfl
structure HL (h:HdT):Prop where
 p:h.prev.length=32
 r:h.root.length=32
theorem HL.len{h:HdT}(hl:HL h):(hrow h).length=68:=by
 simp only [hrow,Yh,Wm,xr,hl.p,hl.r,Yi]
theorem z6P{h:HdT}(hl:HL h){r:List Int}(hr:r.length=32):zk (hrow h) 1 (row .u8 r)=hrow { h with prev:=r }:=
 zYY [V.sc (.int .u32 h.ver)] (row .u8 h.prev) (row .u8 r) _ (by rw [xr,xr,hl.p,hr])
theorem z7P{h:HdT}(hl:HL h){r:List Int}(hr:r.length=32):zk (hrow h) 33 (row .u8 r)=hrow { h with root:=r }:=by
 have e:∀ (c:HdT),hrow c=(V.sc (.int .u32 c.ver)::row .u8 c.prev)++(row .u8 c.root++[V.sc (.int .u32 c.tm),V.sc (.int .u32 c.bits),V.sc (.int .u32 c.nonce)]):=fun c=>by simp [hrow]
 rw [e,e]
 have l:(V.sc (.int .u32 h.ver)::row .u8 h.prev).length=33:=by simp [xr,hl.p]
 rw [← l]
 exact zYY _ _ _ _ (by rw [xr,xr,hr,hl.r])
theorem zxz(c:HdT):hrow c=(Qc c.ver)::(row .u8 c.prev++row .u8 c.root)++[V.sc (.int .u32 c.tm),V.sc (.int .u32 c.bits),V.sc (.int .u32 c.nonce)]:=by simp [hrow]
theorem zTw{h:HdT}(hl:HL h):(Qc h.ver)::(row .u8 h.prev++row .u8 h.root).length=65:=by simp [xr,hl.p,hl.r]
theorem zMg(A B x:List V)(j:Nat):zk (A++B) (A.length+j) x=A++zk B j x:=by
 unfold zk
 rw [List.take_append,XE (by omega),show A.length+j-A.length=j by omega,List.drop_append,WK (by omega),show A.length+j+x.length-A.length=j+x.length by omega]
 simp [Wu]
theorem z7b{h:HdT}(hl:HL h)(x:Int):zk (hrow h) 65 [V.sc (.int .u32 x)]=hrow { h with tm:=x }:=by
 rw [zxz,zxz,show 65=(Qc h.ver)::(row .u8 h.prev++row .u8 h.root).length+0 by rw [zTw hl],zMg]; rfl
theorem z6w{h:HdT}(hl:HL h)(x:Int):zk (hrow h) 66 [V.sc (.int .u32 x)]=hrow { h with bits:=x }:=by
 rw [zxz,zxz,show 66=(Qc h.ver)::(row .u8 h.prev++row .u8 h.root).length+1 by rw [zTw hl],zMg]; rfl
theorem z7z{h:HdT}(hl:HL h)(x:Int):zk (hrow h) 67 [V.sc (.int .u32 x)]=hrow { h with nonce:=x }:=by
 rw [zxz,zxz,show 67=(Qc h.ver)::(row .u8 h.prev++row .u8 h.root).length+2 by rw [zTw hl],zMg]; rfl
theorem zYx{h:HdT}(hl:HL h)(g:HdT)(hg:HL g):zk (hrow g) 0 (hrow h)=hrow h:=zc3 (by rw [hl.len,hg.len])
theorem zHL(v:Int):HL { zHd with ver:=v }:=⟨rfl,rfl⟩
def zp7(j:List Int)(a:Nat):List Int:=(j.drop a).take 32
def zLV(j:List Int):HdT:=⟨(le j 0 4:Nat),zp7 j 4,zp7 j 36,(le j 68 4:Nat),(le j 72 4:Nat),(le j 76 4:Nat)⟩
theorem zcD{j:List Int}{a:Nat}(h:a+32≤j.length):(zp7 j a).length=32:=by unfold zp7; rw [Ww,XS]; omega
theorem zGc{j:List Int}{a:Nat}(h:a+32≤j.length):zQN j a=.ok (zp7 j a,a+32):=by unfold zQN zp7; rw [if_pos h]
theorem z9s(k:List V→Int→Option β):(lt ([(Qc (0:Int))]++We 64 (Qa (0:Int))++[(Qc (0:Int)),(Qc (0:Int)),(Qc (0:Int))]) fun r0=>chk (0=0∧(XK r0)=68∧68≠0) (k r0 8))=k (hrow zHd) 8:=by
 rw [yt,zYE,yf (by rw [(zHL 0).len]; simp)]; rfl
theorem r68{h:HdT}(hl:HL h):XL 68 (hrow h)=hrow h:=XE (by rw [hl.len]; omega)
theorem z9q{h:HdT}(hl:HL h)(k:List V→Option β):chk (0+68≤(XK (hrow h))) (chk ((XK (XL 68 (hrow h)))=68∧0+68≤68) (lt (zk ([(Qc (0:Int))]++We 64 (Qa (0:Int))++[(Qc (0:Int)),(Qc (0:Int)),(Qc (0:Int))]) 0 (XL 68 (hrow h))) fun r25=>chk (0=0∧(XK r25)=68∧68≠0) (k r25)))=k (hrow h):=by
 rw [yf (by rw [hl.len]; omega),r68 hl,yf ⟨hl.len,by omega⟩,yt,zYE,zYx hl _ (zHL 0),yf (by rw [hl.len]; simp)]
theorem z25{L:Nat}(hL:20≤L){j:List Int}(hb:Byt j)(hj:j.length≤100000000)(k:List V→Int→Option β):zM β L (yq .u8 j) k=if j.length=80 then k (hrow (zLV j)) 0 else k (hrow zHd) 8:=by
 unfold zM zmo
 by_cases h:j.length=80
 ·have hl1:HL (zLV j):=⟨zcD (by omega),zcD (by omega)⟩
  rw [zF,if_pos h,h,show ((((80:Nat)):Int) != (80:Int))=false from rfl,zeR]
  refine (zWJ (a:=0) hL hb hj (by omega) _).trans ?_
  rw [if_pos (by omega),yt]
  refine (z4A (a:=4) hL hj (by omega) _).trans ?_
  rw [zGc (by omega),zQO,zYE,yf ⟨by rw [xr,zcD (by omega)],by rw [(zHL _).len]; omega⟩,yt,z6P (zHL _) (zcD (by omega))]
  refine (z4A (a:=36) hL hj (by omega) _).trans ?_
  have h2:∀ v,HL { zHd with ver:=v,prev:=zp7 j 4 }:=fun v=>⟨zcD (by omega),rfl⟩
  rw [zGc (by omega),zQO,yf ⟨by rw [xr,zcD (by omega)],by rw [(h2 _).len]; omega⟩,yt,z7P (h2 _) (zcD (by omega))]
  have h3:∀ v t b n,HL ⟨v,zp7 j 4,zp7 j 36,t,b,n⟩:=fun v t b n=>⟨zcD (by omega),zcD (by omega)⟩
  refine (zWJ (a:=68) hL hb hj (by omega) _).trans ?_
  rw [if_pos (by omega),yf ⟨rfl,by rw [(h3 _ _ _ _).len]; omega⟩,yt,z7b (h3 _ _ _ _)]
  refine (zWJ (a:=72) hL hb hj (by omega) _).trans ?_
  rw [if_pos (by omega),yf ⟨rfl,by rw [(h3 _ _ _ _).len]; omega⟩,yt,z6w (h3 _ _ _ _)]
  refine (zWJ (a:=76) hL hb hj (by omega) _).trans ?_
  rw [if_pos (by omega),yf ⟨rfl,by rw [(h3 _ _ _ _).len]; omega⟩,yt,z7z (h3 _ _ _ _)]
  exact z9q hl1 fun r=>k r 0
 ·rw [zF,if_neg h,zlg,if_neg (by omega)]
  exact z9s k
theorem yat{L:Nat}(hL:20≤L){j:List Int}(hb:Byt j)(hj:j.length≤100000000)(h:80≤j.length)(k:List V→Option β):zaN β L (yq .u8 j) k=k (hrow (zLV j)):=by
 unfold zaN zyd
 have hl1:HL (zLV j):=⟨zcD (by omega),zcD (by omega)⟩
 refine (zQQ (a:=0) hL hb hj (by omega) _).trans ?_
 rw [if_pos (by omega),yt]
 refine (z26 (a:=4) hL hj (by omega) _).trans ?_
 rw [zGc (by omega),zQO,zYE,yf ⟨by rw [xr,zcD (by omega)],by rw [(zHL _).len]; omega⟩,yt,z6P (zHL _) (zcD (by omega))]
 refine (z26 (a:=36) hL hj (by omega) _).trans ?_
 have h2:∀ v,HL { zHd with ver:=v,prev:=zp7 j 4 }:=fun v=>⟨zcD (by omega),rfl⟩
 rw [zGc (by omega),zQO,yf ⟨by rw [xr,zcD (by omega)],by rw [(h2 _).len]; omega⟩,yt,z7P (h2 _) (zcD (by omega))]
 have h3:∀ v t b n,HL ⟨v,zp7 j 4,zp7 j 36,t,b,n⟩:=fun v t b n=>⟨zcD (by omega),zcD (by omega)⟩
 refine (zQQ (a:=68) hL hb hj (by omega) _).trans ?_
 rw [if_pos (by omega),yf ⟨rfl,by rw [(h3 _ _ _ _).len]; omega⟩,yt,z7b (h3 _ _ _ _)]
 refine (zQQ (a:=72) hL hb hj (by omega) _).trans ?_
 rw [if_pos (by omega),yf ⟨rfl,by rw [(h3 _ _ _ _).len]; omega⟩,yt,z6w (h3 _ _ _ _)]
 refine (zQQ (a:=76) hL hb hj (by omega) _).trans ?_
 rw [if_pos (by omega),yf ⟨rfl,by rw [(h3 _ _ _ _).len]; omega⟩,yt,z7z (h3 _ _ _ _)]
 exact z9q hl1 k
theorem z7N{L:Nat}(hL:20≤L){j:List Int}(hb:Byt j)(hj:j.length≤100000000)(k:List V→Int→Option β):yS β L (yq .u8 j) k=if j.length=80 then k (hrow (zLV j)) 0 else k (hrow zHd) 8:=by
 unfold yS zmR
 by_cases h:j.length=80
 ·have hl1:HL (zLV j):=⟨zcD (by omega),zcD (by omega)⟩
  rw [zF,if_pos h,h,show ((((80:Nat)):Int) != (80:Int))=false from rfl,zeR,yat hL hb hj (by omega),yf ⟨hl1.len,by omega⟩,yt,zYE,zYx hl1 _ (zHL 0),yf (by rw [hl1.len]; simp)]
 ·rw [zF,if_neg h,zlg,if_neg (by omega)]
  exact z9s k
theorem z20:∀ {l:List V},(∀ v∈l,∃ k n,v=V.sc (.int k n))→zgy l l=some true
 | [],_=>rfl
 | v::l,h=>by
  obtain ⟨k,n,rfl⟩:=h v (by simp)
  simp only [zgy,if_true,z20 (l:=l) (fun x hx=>h x (by simp [hx])),QN,beq_self_eq_true,Bool.and_self]
theorem z6G{k:IntKind}{l:List Int}:∀ v∈row k l,∃ k n,v=V.sc (.int k n):=fun v hv=>by
 obtain ⟨n,_,rfl⟩:=Xy.1 hv
 exact ⟨_,_,rfl⟩
theorem yax(h:HdT):∀ v∈hrow h,∃ k n,v=V.sc (.int k n):=fun v hv=>by
 simp only [hrow,Q9,QD,List.not_mem_nil,or_false] at hv
 rcases hv with rfl | hv | hv | rfl | rfl | rfl
 ·exact ⟨_,_,rfl⟩
 ·exact z6G v hv
 ·exact z6G v hv
 ·exact ⟨_,_,rfl⟩
 ·exact ⟨_,_,rfl⟩
 ·exact ⟨_,_,rfl⟩
theorem z13{h:HdT}(hl:HL h)(k:Bool→Option β):eqC 68 (hrow h) (hrow h) k=k true:=by
 simp only [eqC,hl.len,and_self,zsv,z20 (yax h)]
theorem yag{h:HdT}(ho:HdOk h):zLV (hdB h)=h:=by
 obtain ⟨v,hv⟩:=XY ho.ver.1
 obtain ⟨t,ht⟩:=XY ho.tm.1
 obtain ⟨b,hb⟩:=XY ho.bits.1
 obtain ⟨n,hn⟩:=XY ho.nonce.1
 have bv:=ho.ver.2
 have bt:=ho.tm.2
 have bb:=ho.bits.2
 have bn:=ho.nonce.2
 have e:hdB h=leB v 4++(h.prev++(h.root++(leB t 4++(leB b 4++leB n 4)))):=by
  simp only [hdB,hv,ht,hb,hn,Wu]
  rw [zQT (n:=v) (by omega),zQT (n:=t) (by omega),zQT (n:=b) (by omega),zQT (n:=n) (by omega)]
 have d0:(hdB h).drop 0=leB v 4++(h.prev++(h.root++(leB t 4++(leB b 4++leB n 4)))):=e
 have d1:(hdB h).drop 4=h.prev++(h.root++(leB t 4++(leB b 4++leB n 4))):=by rw [e]; exact Yj (zQU _ _)
 have d2:(hdB h).drop 36=h.root++(leB t 4++(leB b 4++leB n 4)):=by rw [show 36=4+32 from rfl,← WO,d1]; exact Yj ho.pl
 have d3:(hdB h).drop 68=leB t 4++(leB b 4++leB n 4):=by rw [show 68=36+32 from rfl,← WO,d2]; exact Yj ho.rl
 have d4:(hdB h).drop 72=leB b 4++leB n 4:=by rw [show 72=68+4 from rfl,← WO,d3]; exact Yj (zQU _ _)
 have d5:(hdB h).drop 76=leB n 4++[]:=by rw [show 76=72+4 from rfl,← WO,d4,List.append_nil]; exact Yj (zQU _ _)
 have p4:(256:Nat) ^ 4=4294967296:=by decide
 obtain ⟨ver,prev,root,tm,bits,nonce⟩:=h
 simp only at hv ht hb hn bv bt bb bn d0 d1 d2 d3 d4 d5
 unfold zLV zp7
 rw [zVk 4 v 0 (by omega) d0,zVk 4 t 68 (by omega) d3,zVk 4 b 72 (by omega) d4,zVk 4 n 76 (by omega) d5,d1,d2,Yl ho.pl,Yl ho.rl,← hv,← ht,← hb,← hn]
theorem zJG{a b:List Int}(ha:Byt a)(hb:Byt b):Byt (a++b):=fun x hx=>by
 rcases QD.1 hx with h | h
 ·exact ha x h
 ·exact hb x h
theorem zLQ(n:Int):Byt (zsV n):=zmE _ _
theorem zX4{h:HdT}(ho:HdOk h):Byt (hdB h):=zJG (zJG (zJG (zJG (zJG (zLQ _) ho.pb) ho.rb) (zLQ _)) (zLQ _)) (zLQ _)
theorem z6K{h:List Int}(hh:h.length=32)(k:List V→Option β):chk ((XK (row .u8 h))=32∧0+32≤32) (lt (zk (We 32 (Qa (0:Int))) 0 (row .u8 h)) fun r2=>chk (0=0∧(XK r2)=32∧32≠0) (k r2))=k (row .u8 h):=by
 rw [yf ⟨by rw [xr,hh],by omega⟩,yt,zws hh,yf (by rw [xr,hh]; simp)]
theorem c68{h:HdT}(hl:HL h)(k:Option β):chk (0+68≤(XK (hrow h))) k=k:=yf (by rw [hl.len]; omega) k
theorem ybq{L:Nat}(hL:4000≤L){h:HdT}(ho:HdOk h)(k:List V→Option β):za3 β L (hrow h) k=k (row .u8 (zIO (hdB h))):=by
 have hl:HL h:=⟨ho.pl,ho.rl⟩
 unfold za3 zEk
 rw [c68 hl,r68 hl,zGJ (by omega) ho,zO9 (by rw [znc ho]; omega) (by rw [znc ho]; omega) (zX4 ho)]
 exact z6K (zs0 _) k
theorem ybi{L:Nat}(hL:4000≤L){h:HdT}(ho:HdOk h)(k:List V→Option β):za6 β L (hrow h) k=k (row .u8 (zIO (hdB h))):=by
 have hl:HL h:=⟨ho.pl,ho.rl⟩
 unfold za6 zC1
 rw [c68 hl,r68 hl,zLD (by omega) ho,zLG (by rw [znc ho]; omega) (by rw [znc ho]; omega) (zX4 ho)]
 exact z6K (zs0 _) k
end
section
open Go.ChangeShapes Go.WideShapes Go.ChangeAt Go.RowKit
theorem zYJ{H:Type}{enc:TypeId × Value→H}{P:Program}{w:World}{base:Nat}{spare:Nat→Bool}{held:Bool}{fuel n:Nat}{t e:TypeId}{k:IntKind}{cs:List Value}{d:DataW H}{p:List MemPlace}(ht:P.underlying t=some (.array n e))(he:P.underlying e=some (.int k))(hc:P.cellsOf e=1)
  (ns:List Int) (hd:d=.agg (ns.map fun x=>.lit (.int k x))) (h:DataW.trod enc P w base spare held fuel t cs=some (d,p)) {i:Nat} (hi:i<n):cs[i]?=some (.int k (ns.getD i 0)):=by
 obtain ⟨xs,m,_,hx,_,hlen,hel⟩:=DataW.trod_array ht h
 have h1:=hel i hi
 rw [hc,Nat.mul_one] at h1
 have hxi:xs[i]?=some (xs[i]'(by omega)):=Wc _
 rw [hxi] at h1
 obtain ⟨v,e1,e2,_⟩:=DataW.trod_int he h1
 simp only [Prod.mk.injEq] at hx
 have h2:d=.agg (xs.map (·.1)):=hx.1
 rw [hd] at h2
 have h3:ns.map (fun x=>DataW.lit (H:=H) (.int k x))=xs.map (·.1):=by injection h2
 have h4:=congrArg (fun l=>l[i]?) h3
 simp only [List.getElem?_map,hxi,QN,e2] at h4
 have h5:ns[i]?=some v:=by
  cases hq:ns[i]? with
  | none=>rw [hq] at h4; cases h4
  | some q=>
   rw [hq] at h4
   simp only [QN,Option.some.injEq] at h4
   injection h4 with h6
   injection h6 with _ h7
   rw [h7]
 rw [Ws,h5]
 have h8:=congrArg (fun l=>l[0]?) e1
 simp only [List.getElem?_take,List.getElem?_drop] at h8
 simpa using h8
theorem z2H{k:IntKind}{ns:List Int}{i:Nat}{v:V}(h:(row k ns)[i]?=some v):i<ns.length∧v=.sc (.int k (ns.getD i 0)):=by
 unfold row at h
 rw [List.getElem?_map] at h
 cases hq:ns[i]? with
 | none=>rw [hq] at h; cases h
 | some q=>
  rw [hq] at h
  obtain ⟨hi,_⟩:=List.getElem?_eq_some_iff.1 hq
  refine ⟨hi,?_⟩
  rw [Ws,hq]
  simpa using h.symm
def zFZ{H:Type}:List (String × DataW H):=[("lightclient/sha.k",Rows.laid_lightclient_sha_k),("lightclient/sha.initial",Rows.laid_lightclient_sha_initial)]
theorem gK:Tryz.prog.globalNamed "lightclient/sha.k"=some 1:=by kernel_rfl
theorem gI:Tryz.prog.globalNamed "lightclient/sha.initial"=some 0:=by kernel_rfl
theorem tK:(Tryz.prog.globals[1]?).map (·.type)=some 230:=by kernel_rfl
theorem tI:(Tryz.prog.globals[0]?).map (·.type)=some 206:=by kernel_rfl
theorem z4i{W:World}(h:laidMetH Tryz.prog zFZ W):GV (zcI fg gls) W znr:=by
 rw [MakeChecks.laidMetH_plain _ _ _ (by kernel_rfl)] at h
 obtain ⟨ps,⟨g0,t0,cs0,f0,p0,q0,hg0,ht0,hv0,hd0,⟨g1,t1,cs1,f1,p1,q1,hg1,ht1,hv1,hd1,_,_⟩,_⟩,_,_⟩:=h
 obtain rfl:=QV (gK.symm.trans hg0)
 obtain rfl:=QV (gI.symm.trans hg1)
 obtain rfl:=QV (tK.symm.trans ht0)
 obtain rfl:=QV (tI.symm.trans ht1)
 have eu:Tryz.prog.underlying 22=some (.int .u32):=by kernel_rfl
 have ec:Tryz.prog.cellsOf 22=1:=by kernel_rfl
 have ek:Tryz.prog.underlying 230=some (.array 64 22):=by kernel_rfl
 have ei:Tryz.prog.underlying 206=some (.array 8 22):=by kernel_rfl
 have dk:(Rows.laid_lightclient_sha_k:DataW Unit)=.agg (kc.map fun x=>.lit (.int .u32 x)):=rfl
 have di:(Rows.laid_lightclient_sha_initial:DataW Unit)=.agg (init0.map fun x=>.lit (.int .u32 x)):=rfl
 intro g cs hg i v hv
 have hg':(gls.find? (fun e=>e.1==g)).map (·.2)=some cs:=hg
 by_cases hk:g=1
 ·subst hk
  obtain rfl:gk_sha_k=cs:=QV ((show (gls.find? (fun e=>e.1==1)).map (·.2)=some gk_sha_k from rfl).symm.trans hg')
  obtain ⟨hi,rfl⟩:=z2H (k:=.u32) (ns:=kc) hv
  refine ⟨_,rfl,rfl,fun hw=>hw,?_⟩
  rw [World.var?_cell gK hv0 i,W5.symm]
  exact zYJ ek eu ec kc dk hd0 hi
 ·by_cases hk2:g=0
  ·subst hk2
   obtain rfl:gk_sha_initial=cs:=QV ((show (gls.find? (fun e=>e.1==0)).map (·.2)=some gk_sha_initial from rfl).symm.trans hg')
   obtain ⟨hi,rfl⟩:=z2H (k:=.u32) (ns:=init0) hv
   refine ⟨_,rfl,rfl,fun hw=>hw,?_⟩
   rw [World.var?_cell gI hv1 i,W5.symm]
   exact zYJ ei eu ec init0 di hd1 hi
  ·exfalso
   have e:gls=[(0,gk_sha_initial),(1,gk_sha_k)]:=rfl
   rw [e] at hg'
   simp only [List.find?_cons,List.find?_nil,beq_eq_false_iff_ne.2 (Ne.symm hk),beq_eq_false_iff_ne.2 (Ne.symm hk2)] at hg'
   cases hg'
theorem z2m(os:Os)(args:Array Value):laidMetH Tryz.prog zFZ ((World.doorLaid Tryz.prog 400 os).forCall (fun _ _=>0) ⟨#[],args,[]⟩).memory:=
 laidMetH_of_parts3 (fuel:=8) (laidMet_of_run' 8 (by kernel_rfl) (by kernel_rfl)) (by kernel_rfl) (by kernel_rfl)
end
section
theorem xW{a b:Bool}(ha:a=true)(hb:b=true):(a&&b)=true:=by rw [ha,hb]; rfl
theorem z4I:laidOutB Tryz.prog=true:=by kernel_rfl
theorem z4x:mapsRowed Tryz.prog=true:=by kernel_rfl
theorem z2x:(Tryz.prog.stops==[])=true:=by kernel_rfl
theorem z2d:(Tryz.prog.stopKnobs==[])=true:=by kernel_rfl
theorem z1p:Tryz.prog.stopsHeard=true:=by kernel_rfl
theorem z2i:Tryz.prog.mayEnter=true:=by kernel_rfl
theorem z2v:(false==Tryz.prog.liftsFinal)=true:=by kernel_rfl
theorem z4e:(false==Tryz.prog.plainKeys)=true:=by kernel_rfl
end
section
theorem z9r{β:Type}{h:HdT}(hl:HL h)(k:List V→Option β):chk ((XK (hrow h))=68∧0+68≤68) (lt (zk ([(Qc (0:Int))]++We 64 (Qa (0:Int))++[(Qc (0:Int)),(Qc (0:Int)),(Qc (0:Int))]) 0 (hrow h)) k)=k (hrow h):=by
 rw [yf ⟨hl.len,by omega⟩,yt,zYE,zYx hl _ (zHL 0)]
theorem zOW(a0:List V)(a1:Ls)(wf0:HasRow ([.int .u32]++We 64 (.int .u8)++We 3 (.int .u32)) a0)(hl1:a1.length≤maxLen)(wf1:∀ e∈a1,HasRow [.int .u8] e) :
  ∃ L,∀ k:Bool→Option Bool,zb7 Bool L a0 a1 k=k true:=by
 obtain ⟨h,rfl,ho⟩:=z67 wf0
 obtain ⟨j,rfl,hj⟩:=zQS wf1
 obtain ⟨L,hL⟩:∃ L,4000000≤L:=⟨4000000,Nat.le_refl _⟩
 refine ⟨L,fun k=>?_⟩
 have hb:Byt j:=ybk hj
 have hl:HL h:=⟨ho.pl,ho.rl⟩
 simp only [zb7,zl1,yR]
 rw [yf (by omega),zF]
 by_cases h2:j.length≤200
 ·rw [zG (by omega)]
  have main:∀ (g:HdT) (e:Int),HL g→zM Bool L (yq .u8 j)=(fun q=>q (hrow g) e)→yS Bool L (yq .u8 j)=(fun q=>q (hrow g) e)→(zM Bool L (yq .u8 j) fun v0 v1=>
 chk ((XK v0)=68∧0+68≤68) (
 lt (zk ([(Qc (0:Int))]++We 64 (Qa (0:Int))++[(Qc (0:Int)),(Qc (0:Int)),(Qc (0:Int))]) 0 v0) fun r2=>
 yS Bool L (yq .u8 j) (fun v3 v4=>
 chk ((XK v3)=68∧0+68≤68) (
 lt (zk ([(Qc (0:Int))]++We 64 (Qa (0:Int))++[(Qc (0:Int)),(Qc (0:Int)),(Qc (0:Int))]) 0 v3) fun r5=>
 chk (0+68≤(XK (hrow h))) (
 zg Bool L (XL 68 (hrow h)) (fun v6=>
 zM Bool L v6 (fun v7 v8=>
 chk ((XK v7)=68∧0+68≤68) (
 lt (zk ([(Qc (0:Int))]++We 64 (Qa (0:Int))++[(Qc (0:Int)),(Qc (0:Int)),(Qc (0:Int))]) 0 v7) fun r9=>
 chk (0+68≤(XK r2)) (
 chk (0+68≤(XK r5)) (
 eqC 68 (XL 68 r2) (XL 68 r5) fun v10=>
 ifb v10 (
 ifb ((v1:Int)==v4) (
 chk (0+68≤(XK r9)) (
 chk (0+68≤(XK (hrow h))) (
 eqC 68 (XL 68 r9) (XL 68 (hrow h)) fun v11=>
 ifb v11 (
 ifb ((v8:Int)==(0:Int)) (
 chk (0+68≤(XK (hrow h))) (
 za3 Bool L (XL 68 (hrow h)) (fun v12=>
 chk (0+68≤(XK (hrow h))) (
 za6 Bool L (XL 68 (hrow h)) (fun v13=>
 eqC 32 v12 v13 fun v14=>
 ifb v14 (
 chk (0+68≤(XK (hrow h))) (
 zg Bool L (XL 68 (hrow h)) (fun v15=>
 chk (0+68≤(XK (hrow h))) (
 xh Bool L (XL 68 (hrow h)) (fun v16=>
 zW Bool L v15 v16 (fun v17=>
 k v17)))))) (
 k false)))))) (
 k false)) (
 k false)))) (
 k false)) (
 k false)))))))))))=k true:=by
   intro g e hg e1 e2
   rw [e1,e2]
   simp only [z9r hg,c68 hl,r68 hl]
   rw [zGJ (by omega) ho]
   have hd:∀ q:List V→Int→Option Bool,zM Bool L (yq .u8 (hdB h)) q=q (hrow h) 0:=fun q=>by
    rw [z25 (by omega) (zX4 ho) (by rw [znc ho]; omega),if_pos (znc ho),yag ho]
   rw [hd]
   simp only [z9r hl]
   rw [c68 hg,c68 hg,r68 hg,z13 hg,zhB,zna rfl,c68 hl,r68 hl,z13 hl,zhB,zna rfl,ybq (by omega) ho,ybi (by omega) ho,zXr .u8 (zs0 _) (zs0 _),decide_eq_true rfl,zhB,zGJ (by omega) ho,zLD (by omega) ho,zOH]
  by_cases h80:j.length=80
  ·exact main (zLV j) 0 ⟨zcD (by omega),zcD (by omega)⟩ (by funext q; rw [z25 (by omega) hb (by omega),if_pos h80]) (by funext q; rw [z7N (by omega) hb (by omega),if_pos h80])
  ·exact main zHd 8 (zHL 0) (by funext q; rw [z25 (by omega) hb (by omega),if_neg h80]) (by funext q; rw [z7N (by omega) hb (by omega),if_neg h80])
 ·rw [zI (by omega)]
end
end Go.Proofs.YtgmhijonllockaaGreatDoor
