/- Part 15 of the proof of BkA: an abstract machine over plain values, its soundness, and the functions of the program on plain values. -/
import Derived.LaidMore
import Derived.OpenShut
import Derived.MakeChecks
import Derived.LaidLaws
import Derived.Test.YtgmhijonllockaaGreatDoorRows
import Derived.JoinedOf
import Derived.Test.YtgmhijonllockaaGreatDoorMBkA14
namespace Go.Proofs.YtgmhijonllockaaGreatDoor
set_option maxRecDepth 100000
set_option linter.unusedVariables false
set_option linter.unusedSimpArgs false
open List renaming replicate->We,length_append->Wm,length->XK,drop_of_length_le->WK,length_cons->Yh,length_nil->Yi,drop_zero->Yd,take->XL,take_of_length_le->XE,getElem_mem->W2,length_map->QB,append_assoc->Wu,drop_eq_getElem_cons->WQ,length_take->Ww,length_drop->XS,drop_left'->Yj,getElem?_append_right->Wt,getD_eq_getElem?_getD->Ws,nil_append->Ye,drop_drop->WO,length_eq_one_iff->Yk,mem_cons->Q9,length_replicate->XR,map_cons->QW,mem_append->QD,take_left'->Yl,flatten_cons->WL,getElem?_eq_getElem->Wc,map_append->Yn,drop_succ_cons->Yo,length_pos_iff->WY,map_congr_left->Yp,mem_replicate->Yc,mem_map->Xy,drop->XO
open IntKind renaming wrap->QG
open Int renaming eq_ofNat_of_zero_le->XY,toNat->XM
open Option.some renaming inj->QV
open Bool renaming true_and->Ym,not_true->Xh
open Option renaming map_some->QN
open _root_.Array renaming getElem?_toList->W5
section
variable {β:Type}
def okO(o:Outp):Bool:=decide (0≤o.val)&&decide (o.scr.length≤520)
def okI(x:Inp):Bool:=decide (x.wit.length≤32)&&x.wit.all fun y=>decide (y.length≤520)
def zbG(t:TxT):Bool:=decide (t.ins.length≤64)&&decide (t.outs.length≤64)&&t.outs.all okO&&t.ins.all okI&&decide ((zlo t true).length≤20000)
theorem z3U{L:Nat}(kr:Bool→Option β)(kx:List V→Option β)(l:List Outp)(hl:l.length≤1000000)(b1:List V):∀ (n i:Nat),i≤l.length→l.length-i<n →
  zlt yi L kr kx n (l.map zhv) (l.length:Int) (i:Int) b1=ifb ((l.drop i).all okO) (kx b1) (kr false)
 | 0,i,h1,h2=>by omega
 | n+1,i,h1,h2=>by
  simp only [zlt,zxE,yt]
  by_cases h:i<l.length
  ·rw [zI (by omega),zaA (zEb h)]
   rw [zDI,ztU,zET]
   simp only [zKt,zKi,zF]
   rw [up (by omega),z3U kr kx l hl b1 n (i+1) (by omega) (by omega),zhy h]
   by_cases hv:0≤l[i].val
   ·rw [zG (by omega)]
    by_cases hb:l[i].scr.length≤520
    ·rw [zG (by omega)]; simp [okO,hb,hv]
    ·rw [zI (by omega)]
     have:okO l[i]=false:=by simp [okO,hb]
     rw [this]; rfl
   ·rw [zI (by omega)]
    have:okO l[i]=false:=by simp [okO,hv]
    rw [this]; rfl
  ·rw [zG (by omega),WK (by omega)]; rfl
theorem z2g{L:Nat}(kr:Bool→Option β)(kx:Ls→Int→Int→List V→Option β)(wt:List (List Int))(hw:wt.length≤1000000)(p37:Ls)(p38 p39:Int)(b1:List V):∀ (n i:Nat),i≤wt.length→wt.length-i<n →
  zdI yi L kr kx n p37 p38 p39 (zjd wt) (wt.length:Int) (i:Int) b1=ifb ((wt.drop i).all fun y=>decide (y.length≤520)) (kx p37 p38 p39 b1) (kr false)
 | 0,i,h1,h2=>by omega
 | n+1,i,h1,h2=>by
  simp only [zdI,ziK,yt]
  by_cases h:i<wt.length
  ·rw [zI (by omega),zaA (ztF h),znh rfl]
   rw [up (by omega),z2g kr kx wt hw p37 p38 p39 b1 n (i+1) (by omega) (by omega),zhy h,zF]
   by_cases hb:wt[i].length≤520
   ·rw [zG (by omega)]; simp [hb]
   ·rw [zI (by omega)]; simp [hb,ifb]
  ·rw [zG (by omega),WK (by omega)]; rfl
theorem ybM{L:Nat}(hL:2000≤L)(kr:Bool→Option β)(kx:List V→Option β)(l:List Inp)(hl:l.length≤1000000)(b1:List V):∀ (n i:Nat),i≤l.length→l.length-i<n →
  zj8 yi L kr kx n (l.map zgi) (l.length:Int) (i:Int) b1=ifb ((l.drop i).all okI) (kx b1) (kr false):=by
 intro n
 induction n with
 | zero=>intro i h1 h2; omega
 | succ n ih=>
  intro i h1 h2
  simp only [zj8,zl8,zuH,yt]
  by_cases h:i<l.length
  ·rw [zI (by omega),zaA (ztQ h)]
   rw [zlV,zjz,zpe]
   simp only [zpi,zpA,zza]
   rw [zhy h]
   by_cases hw:l[i].wit.length≤32
   ·rw [zG (by omega),show ((0:Int))=((0:Nat):Int) from rfl,z2g _ _ _ (by omega) _ _ _ _ L 0 (by omega) (by omega)]
    simp only [zhA,zg3,yt,Yd]
    rw [up (by omega),ih (i+1) (by omega) (by omega)]
    have:okI l[i]=l[i].wit.all fun y=>decide (y.length≤520):=by simp [okI,hw]
    rw [this]
    cases l[i].wit.all fun y=>decide (y.length≤520) <;> rfl
   ·rw [zI (by omega)]
    have:okI l[i]=false:=by simp [okI,hw]
    rw [this]; rfl
  ·rw [zG (by omega),WK (by omega)]; rfl
theorem z8j{L:Nat}(hL:2000≤L){t:TxT}(h:KeptP t)(k:Bool→Option β):zJ β L (zcA t) k=k (zbG t):=by
 have hi:=h.ni
 have ho:=h.no
 simp only [zJ,zHb,zQr,zmk,zsE]
 simp only [ziE,zhp,zKJ,zp9,QB]
 by_cases h1:t.ins.length≤64
 ·rw [zG (by omega)]
  by_cases h2:t.outs.length≤64
  ·rw [zG (by omega),show ((0:Int))=((0:Nat):Int) from rfl,z3U _ _ _ (by omega) _ L 0 (by omega) (by omega)]
   simp only [zkM,zs4,zq4,ziE,zhp,QB,Yd]
   cases e1:t.outs.all okO
   ·have e:zbG t=false:=by simp [zbG,e1]
    rw [e]; rfl
   ·rw [zhs,show ((0:Int))=((0:Nat):Int) from rfl,ybM hL _ _ _ (by omega) _ L 0 (by omega) (by omega)]
    simp only [zrs,zpt,ziE,zhp,Yd,zgl,zgm]
    cases e2:t.ins.all okI
    ·have e:zbG t=false:=by simp [zbG,e2]
     rw [e]; rfl
    ·rw [zhs,zZe hL h,zF]
     have e:decide (((zlo t true).length:Int)≤20000)=zbG t:=by
      simp only [zbG,h1,h2,e1,e2,decide_true,Ym]
      exact decide_eq_decide.2 (by omega)
     rw [e]
  ·have e:zbG t=false:=by simp [zbG,h2]
   rw [zI (by omega),e]
 ·have e:zbG t=false:=by simp [zbG,h1]
  rw [zI (by omega),e]
theorem z19{L:Nat}(kr:Bool→Option β)(kx:List V→Option β)(l:List Outp)(hl:l.length≤1000000)(b1:List V):∀ (n i:Nat),i≤l.length→l.length-i<n →
  zhJ yd L kr kx n (l.map zhv) (l.length:Int) (i:Int) b1=ifb ((l.drop i).all okO) (kx b1) (kr false)
 | 0,i,h1,h2=>by omega
 | n+1,i,h1,h2=>by
  simp only [zhJ,zqQ,yt]
  by_cases h:i<l.length
  ·rw [zI (by omega),zaA (zEb h)]
   rw [zDI,ztU,zET]
   simp only [zKt,zKi,zF]
   rw [up (by omega),z19 kr kx l hl b1 n (i+1) (by omega) (by omega),zhy h]
   by_cases hv:0≤l[i].val
   ·rw [zG (by omega)]
    by_cases hb:l[i].scr.length≤520
    ·rw [zG (by omega)]; simp [okO,hb,hv]
    ·rw [zI (by omega)]
     have:okO l[i]=false:=by simp [okO,hb]
     rw [this]; rfl
   ·rw [zI (by omega)]
    have:okO l[i]=false:=by simp [okO,hv]
    rw [this]; rfl
  ·rw [zG (by omega),WK (by omega)]; rfl
theorem zZq{L:Nat}(kr:Bool→Option β)(kx:Ls→Int→Int→List V→Option β)(wt:List (List Int))(hw:wt.length≤1000000)(p37:Ls)(p38 p39:Int)(b1:List V):∀ (n i:Nat),i≤wt.length→wt.length-i<n →
  zcC yd L kr kx n p37 p38 p39 (zjd wt) (wt.length:Int) (i:Int) b1=ifb ((wt.drop i).all fun y=>decide (y.length≤520)) (kx p37 p38 p39 b1) (kr false)
 | 0,i,h1,h2=>by omega
 | n+1,i,h1,h2=>by
  simp only [zcC,zhd,yt]
  by_cases h:i<wt.length
  ·rw [zI (by omega),zaA (ztF h),znh rfl]
   rw [up (by omega),zZq kr kx wt hw p37 p38 p39 b1 n (i+1) (by omega) (by omega),zhy h,zF]
   by_cases hb:wt[i].length≤520
   ·rw [zG (by omega)]; simp [hb]
   ·rw [zI (by omega)]; simp [hb,ifb]
  ·rw [zG (by omega),WK (by omega)]; rfl
theorem z9H{L:Nat}(hL:2000≤L)(kr:Bool→Option β)(kx:List V→Option β)(l:List Inp)(hl:l.length≤1000000)(b1:List V):∀ (n i:Nat),i≤l.length→l.length-i<n →
  zg5 yd L kr kx n (l.map zgi) (l.length:Int) (i:Int) b1=ifb ((l.drop i).all okI) (kx b1) (kr false):=by
 intro n
 induction n with
 | zero=>intro i h1 h2; omega
 | succ n ih=>
  intro i h1 h2
  simp only [zg5,zji,zpJ,yt]
  by_cases h:i<l.length
  ·rw [zI (by omega),zaA (ztQ h)]
   rw [zlV,zjz,zpe]
   simp only [zpi,zpA,zza]
   rw [zhy h]
   by_cases hw:l[i].wit.length≤32
   ·rw [zG (by omega),show ((0:Int))=((0:Nat):Int) from rfl,zZq _ _ _ (by omega) _ _ _ _ L 0 (by omega) (by omega)]
    simp only [zfU,zfr,yt,Yd]
    rw [up (by omega),ih (i+1) (by omega) (by omega)]
    have:okI l[i]=l[i].wit.all fun y=>decide (y.length≤520):=by simp [okI,hw]
    rw [this]
    cases l[i].wit.all fun y=>decide (y.length≤520) <;> rfl
   ·rw [zI (by omega)]
    have:okI l[i]=false:=by simp [okI,hw]
    rw [this]; rfl
  ·rw [zG (by omega),WK (by omega)]; rfl
theorem zPE{L:Nat}(hL:2000≤L){t:TxT}(h:KeptP t)(k:Bool→Option β):yc β L (zcA t) k=k (zbG t):=by
 have hi:=h.ni
 have ho:=h.no
 simp only [yc,zvs,zDr,zmk,zsE]
 simp only [ziE,zhp,zKJ,zp9,QB]
 by_cases h1:t.ins.length≤64
 ·rw [zG (by omega)]
  by_cases h2:t.outs.length≤64
  ·rw [zG (by omega),show ((0:Int))=((0:Nat):Int) from rfl,z19 _ _ _ (by omega) _ L 0 (by omega) (by omega)]
   simp only [zh2,znx,zml,ziE,zhp,QB,Yd]
   cases e1:t.outs.all okO
   ·have e:zbG t=false:=by simp [zbG,e1]
    rw [e]; rfl
   ·rw [zhs,show ((0:Int))=((0:Nat):Int) from rfl,z9H hL _ _ _ (by omega) _ L 0 (by omega) (by omega)]
    simp only [zmK,zk2,ziE,zhp,Yd,zgl,zgm]
    cases e2:t.ins.all okI
    ·have e:zbG t=false:=by simp [zbG,e2]
     rw [e]; rfl
    ·rw [zhs,zMh hL h,zF]
     have e:decide (((zlo t true).length:Int)≤20000)=zbG t:=by
      simp only [zbG,h1,h2,e1,e2,decide_true,Ym]
      exact decide_eq_decide.2 (by omega)
     rw [e]
  ·have e:zbG t=false:=by simp [zbG,h2]
   rw [zI (by omega),e]
 ·have e:zbG t=false:=by simp [zbG,h1]
  rw [zI (by omega),e]
def z9W:List V:=We 32 (Qa (0:Int))++[(Qc (4294967295:Int))]
def eqP(x y:Inp):Bool:=(zgs (zve x) (zve y)).getD false
def eqN(x:Inp):Bool:=(zgs (zve x) z9W).getD false
def cbB(t:TxT):Bool:=match t.ins with
 | [x]=>eqN x
 | _=>false
end
section
variable {β:Type}
theorem zlh{a b:List Int}(ha:zcW a)(hb:zcW b):zcW (a++b):=by
 intro x hx
 rcases QD.1 hx with h | h
 ·exact ha x h
 ·exact hb x h
theorem zVu{α:Type}{l:List α}{f:α→List Int}(h:∀ x∈l,zcW (f x)):zcW (l.flatMap f):=by
 intro x hx
 obtain ⟨y,hy,hx⟩:=List.mem_flatMap.1 hx
 exact h y hy x hx
theorem zEP{a:Int}{l:List Int}(ha:0≤a∧a≤255)(hl:zcW l):zcW (a::l):=by
 intro x hx
 rcases Q9.1 hx with rfl | h
 ·exact ha
 ·exact hl x h
theorem zXK:zcW []:=fun x hx=>by cases hx
theorem zmp(n:Int)(w:Nat):zcW (zfW n w):=by
 intro x hx
 rw [zfW,Xy] at hx
 obtain ⟨i,_,rfl⟩:=hx
 exact zsv _
theorem zU1(n:Int):zcW (szB n):=by
 unfold szB
 split
 ·exact zEP (zsv _) zXK
 ·split
  ·exact zEP ⟨by decide,by decide⟩ (zmp _ _)
  ·split
   ·exact zEP ⟨by decide,by decide⟩ (zmp _ _)
   ·exact zEP ⟨by decide,by decide⟩ (zmp _ _)
theorem z7g{s:List Int}(h:zcW s):zcW (bsB s):=zlh (zU1 _) h
theorem z8z{x:Inp}(h:InpOk x):zcW (zMq x):=by
 unfold zMq
 have b:=h.by_
 repeat' (first | exact zXK | refine zEP (b _ (by decide)) ?_)
theorem z4G{t:TxT}(h:TxOk t)(w:Bool):zcW (zlo t w):=by
 unfold zlo
 refine zlh (zlh (zlh (zlh (zlh (zlh (zmp _ _) (zU1 _)) (zVu fun x hx=>?_)) (zU1 _)) (zVu fun x hx=>?_)) (zmp _ _)) ?_
 ·exact zlh (zlh (z8z (h.ins x hx)) (zmp _ _)) (zmp _ _)
 ·exact zlh (zmp _ _) (z7g (h.outs x hx).scr)
 ·cases w
  ·exact zXK
  ·exact zVu fun x hx=>zlh (zU1 _) (zVu fun y hy=>z7g ((h.ins x hx).wit y hy).1)
theorem zLT{t:TxT}(h:KeptP t)(w:Bool):(zlo t w).length≤3000000:=by
 obtain ⟨q1,q2,q3⟩:=h.lens
 have s1:=zhm (t.ins.length:Int)
 have s2:=zhm (t.outs.length:Int)
 cases w <;> simp only [zlo,Wm,zbv,if_true,Bool.false_eq_true,if_false,Yi] <;> omega
theorem z2W{L:Nat}(hL:2000≤L){t:TxT}(h:KeptP t)(w:Bool)(k:Ls→Int→Option β):yA β L (zcA t) w k=if zbG t=true then k (yq .u8 (zlo t w)) 0 else k (yq .u8 []) 4:=by
 simp only [yA,zH1,zgl,zgm]
 rw [z8j hL h,zZe hL h]
 cases zbG t <;> rfl
def zsx(t:TxT)(w:Bool):List Int:=if zbG t=true then zIF (zlo t w) else We 32 0
theorem zGz(t:TxT)(w:Bool):(zsx t w).length=32:=by
 unfold zsx; split
 ·exact zs1 _
 ·exact XR
theorem z06(k:List V→Option β):(lt (We 32 (Qa (0:Int))) fun r2=>chk (0=0∧(XK r2)=32∧32≠0) (k r2))=k (row .u8 (We 32 0)):=by
 rw [yt,zx3,yf ⟨rfl,by rw [xr,XR],by decide⟩]
theorem zLJ{w:List Int}(hw:w.length=32)(k:List V→Option β):chk ((XK (row .u8 w))=32∧0+32≤32) (lt (zk (We 32 (Qa (0:Int))) 0 (row .u8 w)) fun r4=>chk (0=0∧(XK r4)=32∧32≠0) (k r4))=k (row .u8 w):=by
 rw [yt,zu2 hw,yf ⟨by rw [xr,hw],by decide⟩,yf ⟨rfl,by rw [xr,hw],by decide⟩]
theorem z8L{L:Nat}(hL:4000000≤L){t:TxT}(ht:TxOk t)(h:KeptP t)(w:Bool)(k:List V→Option β):zaJ β L (zcA t) w k=k (row .u8 (zsx t w)):=by
 have hl:=zLT h w
 unfold zaJ zIB
 rw [zgl,zgm,z2W (by omega) h]
 unfold zsx
 split
 ·rw [zlv,if_pos rfl,zOC (by omega) (by omega) (z4G ht w),zLJ (zs1 _)]
 ·rw [zlv,if_neg (by decide),z06]
theorem ya0{L:Nat}(hL:4000000≤L){t:TxT}(ht:TxOk t)(h:KeptP t)(k:List V→Option β):xT β L (zcA t) k=k (row .u8 (zsx t true)):=by
 unfold xT zPe
 rw [zgl,zgm,z8L hL ht h,zLJ (zGz _ _)]
theorem yat{L:Nat}(hL:4000000≤L){t:TxT}(ht:TxOk t)(h:KeptP t)(k:List V→Option β):yI β L (zcA t) k=k (row .u8 (zsx t true)):=by
 have hl:=zLT h true
 unfold yI zEr
 rw [zgl,zgm,zPE (by omega) h]
 unfold zsx
 cases zbG t
 ·rw [if_neg (by decide)]
  exact z06 k
 ·rw [if_pos rfl]
  rw [Xh,zeY,zgl,zMh (by omega) h,zLZ (by omega) (by omega) (z4G ht true),zLJ (zs1 _)]
end
section
variable {β:Type}
def ybr:List Outp→Int
 | []=>0
 | o::l=>o.val+ybr l
def yde(l:List Inp):Lm:=l.map fun x=>(V.agg (zve x),V.sc (.bool true))
def zXH:List Inp→List Inp→Bool
 | _,[]=>false
 | pre,x::l=>pre.any (eqP x)||zXH (pre++[x]) l
def ydf(o:Outp):Bool:=decide (o.val>2100000000000000)
def z7L(t:TxT):Int:=if zbG t=true then (if t.ins.length=0 then 93 else if t.outs.length=0 then 93 else if ybr t.outs≤2100000000000000 then (if zXH [] t.ins=true then 91 else if (t.ins.any eqN&&!(cbB t))=true then 92 else 0) else 90) else 4
end
section
variable {β:Type}
structure HdT where
 ver:Int
 prev:List Int
 root:List Int
 tm:Int
 bits:Int
 nonce:Int
def hrow(h:HdT):List V:=V.sc (.int .u32 h.ver)::(row .u8 h.prev++(row .u8 h.root++[V.sc (.int .u32 h.tm),V.sc (.int .u32 h.bits),V.sc (.int .u32 h.nonce)]))
structure HdOk (h:HdT):Prop where
 pl:h.prev.length=32
 rl:h.root.length=32
 pb:zcW h.prev
 rb:zcW h.root
 ver:0≤h.ver∧h.ver≤4294967295
 tm:0≤h.tm∧h.tm≤4294967295
 bits:0≤h.bits∧h.bits≤4294967295
 nonce:0≤h.nonce∧h.nonce≤4294967295
structure BkT where
 hd:HdT
 txs:List TxT
def zlG(b:BkT):List V:=hrow b.hd++[V.sl 4 (b.txs.map zcA)]
theorem zpH{h:HdT}(ho:HdOk h):(hrow h).length=68:=by
 simp only [hrow,Yh,Wm,xr,ho.pl,ho.rl,Yi]
theorem zTT{b:BkT}(ho:HdOk b.hd):(zlG b).length=69:=by
 simp only [zlG,Wm,zpH ho,Yh,Yi]
theorem z8p{b:BkT}(ho:HdOk b.hd):(zlG b)[68]?=some (V.sl 4 (b.txs.map zcA)):=by
 unfold zlG
 rw [Wt (by rw [zpH ho]; omega),zpH ho]; rfl
theorem zKX{b:BkT}(ho:HdOk b.hd)(k:Ls→Option β):cLd 4 (zlG b) 68 k=k (b.txs.map zcA):=zDH (z8p ho) k
theorem zYU{b:BkT}(ho:HdOk b.hd):XL 68 (zlG b)=hrow b.hd:=by
 unfold zlG
 rw [← zpH ho,List.take_left]
theorem yaB(k:IntKind)(l:List Int):(row k l).map V.dem=row k l:=by
 simp only [row,List.map_map]; rfl
theorem z8l(h:HdT):(hrow h).map V.dem=hrow h:=by
 simp only [hrow,QW,Yn,yaB]; rfl
theorem zMc{b:BkT}(ho:HdOk b.hd):List.map V.dem (XL 69 (zlG b))=zlG b:=by
 rw [XE (by rw [zTT ho]; omega)]
 simp only [zlG,Yn,z8l]; rfl
theorem zCz{b:BkT}(ho:HdOk b.hd)(k:Option β):chk (0+69≤(XK (zlG b))) k=k:=yf (by rw [zTT ho]; omega) k
theorem z4w{b:BkT}(ho:HdOk b.hd)(k:Option β):chk (0+68≤(XK (zlG b))) k=k:=yf (by rw [zTT ho]; omega) k
theorem zY9{h:HdT}(ho:HdOk h):XL 32 (XO 1 (hrow h))=row .u8 h.prev:=by
 simp only [hrow,Yo,Yd]
 exact Yl (by rw [xr,ho.pl])
theorem zZd{h:HdT}(ho:HdOk h):XL 32 (XO 33 (hrow h))=row .u8 h.root:=by
 simp only [hrow,Yo]
 rw [Yj (by rw [xr,ho.pl])]
 exact Yl (by rw [xr,ho.rl])
theorem z7s(h:HdT)(k:Int→Option β):cI .u32 (hrow h) 0 k=k h.ver:=zhl rfl k
theorem zTr{h:HdT}(ho:HdOk h)(j:Nat):(hrow h)[65+j]?=[V.sc (.int .u32 h.tm),V.sc (.int .u32 h.bits),V.sc (.int .u32 h.nonce)][j]?:=by
 unfold hrow
 rw [show 65+j=(64+j)+1 by omega,List.getElem?_cons_succ,Wt (by rw [xr,ho.pl]; omega),xr,ho.pl,
  Wt (by rw [xr,ho.rl]; omega),xr,ho.rl]
 congr 1; omega
theorem z7H{h:HdT}(ho:HdOk h)(k:Int→Option β):cI .u32 (hrow h) 65 k=k h.tm:=zhl (zTr ho 0) k
theorem z7j{h:HdT}(ho:HdOk h)(k:Int→Option β):cI .u32 (hrow h) 66 k=k h.bits:=zhl (zTr ho 1) k
theorem z7E{h:HdT}(ho:HdOk h)(k:Int→Option β):cI .u32 (hrow h) 67 k=k h.nonce:=zhl (zTr ho 2) k
theorem zkm(kd:IntKind):∀ (l:List Int) (n:Nat),l.length=n→yl 1 n (row kd l)=yq kd l
 | [],_,h=>by subst h; rfl
 | x::l,n,h=>by
  obtain ⟨m,rfl⟩:∃ m,n=m+1:=⟨n-1,by simp at h; omega⟩
  have:=zkm kd l m (by simpa using h)
  simp only [row,QW,yl,yq] at this ⊢
  simp [this]
theorem z7D{kd:IntKind}{l:List Int}(h:l≠[]):(row kd l).isEmpty=false:=by
 cases l with
 | nil=>exact absurd rfl h
 | cons x l=>rfl
def hdB(h:HdT):List Int:=zsN h.ver++h.prev++h.root++zsN h.tm++zsN h.bits++zsN h.nonce
theorem znc{h:HdT}(ho:HdOk h):(hdB h).length=80:=by simp [hdB,zbv,ho.pl,ho.rl]
theorem z4c{L:Nat}{b h:List Int}(hh:h.length=32)(hb:b.length≤900000000000)(k:Ls→Option β):zH β L (yq .u8 b) (row .u8 h) k=k (yq .u8 (b++h)):=by
 simp only [zH,zjY]
 rw [yf (by rw [xr,hh]; omega),z7D (by intro e; rw [e] at hh; cases hh),zeY,zkm _ _ _ hh,zrI (by omega)]
theorem z2X{L:Nat}{b h:List Int}(hh:h.length=32)(hb:b.length≤900000000000)(k:Ls→Option β):zn β L (yq .u8 b) (row .u8 h) k=k (yq .u8 (b++h)):=by
 simp only [zn,zjU]
 rw [yf (by rw [xr,hh]; omega),z7D (by intro e; rw [e] at hh; cases hh),zeY,zkm _ _ _ hh,ziG (by omega)]
theorem zHF{L:Nat}(hL:20≤L){h:HdT}(ho:HdOk h)(k:Ls→Option β):zg β L (hrow h) k=k (yq .u8 (hdB h)):=by
 have e1:=zbv h.ver
 have e2:=zbv h.tm
 have e3:=zbv h.bits
 simp only [zg,zmW]
 rw [z7s,zgw .u8,zCu hL (by simp),Ye,yf (by rw [zpH ho]; omega),zY9 ho,z4c ho.pl (by omega),yf (by rw [zpH ho]; omega),zZd ho,z4c ho.rl (by rw [Wm,ho.pl]; omega),
  z7H ho,zCu hL (by simp only [Wm,ho.pl,ho.rl]; omega),z7j ho,zCu hL (by simp only [Wm,ho.pl,ho.rl]; omega),z7E ho,zCu hL (by simp only [Wm,ho.pl,ho.rl]; omega)]
 rfl
theorem zMb{L:Nat}(hL:20≤L){h:HdT}(ho:HdOk h)(k:Ls→Option β):xh β L (hrow h) k=k (yq .u8 (hdB h)):=by
 have e1:=zbv h.ver
 have e2:=zbv h.tm
 have e3:=zbv h.bits
 obtain ⟨m,rfl⟩:∃ m,L=m+4:=⟨L-4,by omega⟩
 simp only [xh,zio,zmG]
 rw [z7s,zgw .u8,zyX (by omega) (by simp),Ye,yf (by rw [zpH ho]; omega),zY9 ho,z2X ho.pl (by omega),yf (by rw [zpH ho]; omega),zZd ho,z2X ho.rl (by rw [Wm,ho.pl]; omega),
  z7H ho,z7j ho,z7E ho]
 have up0:QG .i64 ((0:Int)+1)=1:=rfl
 have up1:QG .i64 ((1:Int)+1)=2:=rfl
 have up2:QG .i64 ((2:Int)+1)=3:=rfl
 have c0:∀ (x y z:Int) (k:Int→Option β),(idx (yl 1 3 [V.sc (.int .u32 x),V.sc (.int .u32 y),V.sc (.int .u32 z)]) 0 fun c7=>cI .u32 c7 0 k)=k x:=fun x y z k=>(zx8 (by omega) rfl _).trans (zhl rfl _)
 have c1:∀ (x y z:Int) (k:Int→Option β),(idx (yl 1 3 [V.sc (.int .u32 x),V.sc (.int .u32 y),V.sc (.int .u32 z)]) 1 fun c7=>cI .u32 c7 0 k)=k y:=fun x y z k=>(zx8 (by omega) rfl _).trans (zhl rfl _)
 have c2:∀ (x y z:Int) (k:Int→Option β),(idx (yl 1 3 [V.sc (.int .u32 x),V.sc (.int .u32 y),V.sc (.int .u32 z)]) 2 fun c7=>cI .u32 c7 0 k)=k z:=fun x y z k=>(zx8 (by omega) rfl _).trans (zhl rfl _)
 have n3:∀ (x y z:Int),(((yl 1 3 [V.sc (.int .u32 x),V.sc (.int .u32 y),V.sc (.int .u32 z)]).length:Nat):Int)=3:=fun x y z=>rfl
 rw [n3]
 rw [zbs,zb0,zI (by omega),c0,zyX (by omega) (by simp only [Wm,ho.pl,ho.rl]; omega),yt,up0]
 rw [zbs,zb0,zI (by omega),c1,zyX (by omega) (by simp only [Wm,ho.pl,ho.rl]; omega),yt,up1]
 rw [zbs,zb0,zI (by omega),c2,zyX (by omega) (by simp only [Wm,ho.pl,ho.rl]; omega),yt,up2]
 rw [zbs,zb0,zG (by omega)]
 rfl
structure BkOk (b:BkT):Prop where
 hd:HdOk b.hd
 n:b.txs.length≤10000
 tx:∀ t∈b.txs,TxOk t∧KeptP t
def zQq(b:BkT):List Int:=hdB b.hd++szB (b.txs.length:Int)++b.txs.flatMap fun t=>zlo t true
def okK(b:BkT):Bool:=decide (b.txs.length≤256)&&b.txs.all zbG&&decide ((zQq b).length≤100000)
theorem zCE{l:List TxT}{i:Nat}(h:i<l.length):(l.map zcA)[i]?=some (zcA l[i]):=by simp [h]
theorem zpV(x:TxT):XL 4 (zcA x)=zcA x:=by simp [zcA]
theorem zxv(x:TxT):zk [(Qc (0:Int)),(V.gs 35 ([]:Ls)),(V.gs 2 ([]:Ls)),(Qc (0:Int))] 0 (zcA x)=zcA x:=zc3 (by rw [zmk]; rfl)
theorem zxh(x:TxT)(k:Option β):chk ((XK (XL 4 (zcA x)))=4∧0+4≤4) k=k:=yf ⟨by rw [zpV,zmk],by decide⟩ k
theorem z5I{L:Nat}(hL:2000≤L)(kr:Ls→Int→Option β)(kx:Ls→Option β)(l:List TxT)(hl:l.length≤10000)(hk:∀ t∈l,KeptP t):∀ (n i:Nat) (acc:List Int),i≤l.length→l.length-i<n→acc.length≤100+i*3000000 →
  zfF zg za yA L kr kx n (yq .u8 acc) (l.map zcA) (l.length:Int) (i:Int)=ifb ((l.drop i).all zbG) (kx (yq .u8 (acc++(l.drop i).flatMap fun t=>zlo t true))) (kr (yq .u8 []) 4):=by
 intro n
 induction n with
 | zero=>intro i acc h1 h2; omega
 | succ n ih=>
  intro i acc h1 h2 h3
  simp only [zfF,zmw,yt]
  by_cases h:i<l.length
  ·have hki:=hk l[i] (W2 h)
   have hlen:=zLT hki true
   rw [zI (by omega),zaA (zCE h),zxh,zpV,zxv,zgl,zgm,z2W hL hki,zhy h]
   cases hf:zbG l[i]
   ·rw [if_neg (by decide),zlv,if_neg (by decide)]; rfl
   ·rw [if_pos rfl,zlv,if_pos rfl,yf (by simp only [zF]; unfold xm; omega),zbR,up (by omega),ih (i+1) _ (by omega) (by omega) (by rw [Wm]; omega),zeo h,Wu]
    rfl
  ·rw [zG (by omega),WK (by omega)]
   simp [ifb]
theorem z88{L:Nat}(hL:20000≤L){b:BkT}(ho:BkOk b)(k:Ls→Int→Option β):zB β L (zlG b) k=if okK b=true then k (yq .u8 (zQq b)) 0 else k (yq .u8 []) 4:=by
 have hn:=ho.n
 have hk:∀ t∈b.txs,KeptP t:=fun t ht=>(ho.tx t ht).2
 simp only [zB,zpZ,zxQ]
 simp only [zKX ho.hd,QB]
 by_cases h1:b.txs.length≤256
 ·rw [zG (by omega),z4w ho.hd,zYU ho.hd,zHF (by omega) ho.hd,yt,zbQ (by omega) (by omega),zJd (by omega) (by rw [znc ho.hd]; omega) (by omega)]
  have hs:=zhm (b.txs.length:Int)
  rw [show ((0:Int))=((0:Nat):Int) from rfl,z5I (by omega) _ _ b.txs hn hk L 0 _ (by omega) (by omega) (by rw [Wm,znc ho.hd]; omega),Yd]
  simp only [zjp,zkg]
  rw [show hdB b.hd++szB (b.txs.length:Int)++(b.txs.flatMap fun t=>zlo t true)=zQq b from rfl]
  simp only [zF]
  cases hf:b.txs.all zbG
  ·rw [zeY,if_neg (by simp [okK,hf])]
  ·rw [zhs]
   by_cases h2:(zQq b).length≤100000
   ·rw [zG (by omega),if_pos (by simp [okK,hf,h1,h2])]; rfl
   ·rw [zI (by omega),if_neg (by simp [okK,h2])]; rfl
 ·rw [zI (by omega),if_neg (by simp [okK,h1])]; rfl
theorem z78{L:Nat}(hL:2000≤L){t:TxT}(h:KeptP t)(w:Bool)(k:Ls→Int→Option β):zE β L (zcA t) w k=if zbG t=true then k (yq .u8 (zlo t w)) 0 else k (yq .u8 []) 4:=by
 unfold zE zxs
 have l4:=zmk t
 rw [yf (by omega),zgm,zPE hL h,zMh hL h]
 cases hf:zbG t with
 | true=>rw [if_pos rfl,Xh,zeY,yf (by omega)]
 | false=>rfl
theorem z5z{L:Nat}(hL:2000≤L)(kx:Ls→Option β)(l:List TxT)(hl:l.length≤10000)(hk:∀ t∈l,KeptP t)(hf:l.all zbG=true):∀ (n i:Nat) (acc:List Int),i≤l.length→l.length-i<n→acc.length≤100+i*3000000 →
  zgg xh ya zE L kx n (yq .u8 acc) (l.map zcA) (l.length:Int) (i:Int)=kx (yq .u8 (acc++(l.drop i).flatMap fun t=>zlo t true)):=by
 intro n
 induction n with
 | zero=>intro i acc h1 h2; omega
 | succ n ih=>
  intro i acc h1 h2 h3
  simp only [zgg,zn3,yt]
  by_cases h:i<l.length
  ·have hki:=hk l[i] (W2 h)
   have hlen:=zLT hki true
   rw [zI (by omega),zaA (zCE h),zxh,zpV,zxv,zgl,zgm,z78 hL hki,if_pos (List.all_eq_true.1 hf _ (W2 h)),yf (by simp only [zF]; unfold xm; omega),zbR,up (by omega),ih (i+1) _ (by omega) (by omega) (by rw [Wm]; omega),zeo h,Wu]
  ·rw [zG (by omega),WK (by omega)]
   simp
theorem zYT{L:Nat}(hL:20000≤L){b:BkT}(ho:BkOk b)(hf:b.txs.all zbG=true)(k:Ls→Option β):yr β L (zlG b) k=k (yq .u8 (zQq b)):=by
 have hn:=ho.n
 have hk:∀ t∈b.txs,KeptP t:=fun t ht=>(ho.tx t ht).2
 have hs:=zhm (b.txs.length:Int)
 simp only [yr,zp6,zw8]
 simp only [zKX ho.hd,QB]
 rw [z4w ho.hd,zYU ho.hd,zMb (by omega) ho.hd,yt,zbQ (by omega) (by omega),zDf (by omega) (by rw [znc ho.hd]; omega) (by omega)]
 rw [show ((0:Int))=((0:Nat):Int) from rfl,z5z (by omega) _ b.txs hn hk hf L 0 _ (by omega) (by omega) (by rw [Wm,znc ho.hd]; omega),Yd]
 rfl
theorem z3p{L:Nat}(hL:2000≤L)(kr:Bool→Option β)(kx:List V→Option β)(l:List TxT)(hl:l.length≤10000)(hk:∀ t∈l,KeptP t)(b1:List V):∀ (n i:Nat),i≤l.length→l.length-i<n →
  zhN yc yr L kr kx n (l.map zcA) (l.length:Int) (i:Int) b1=ifb ((l.drop i).all zbG) (kx b1) (kr false):=by
 intro n
 induction n with
 | zero=>intro i h1 h2; omega
 | succ n ih=>
  intro i h1 h2
  simp only [zhN,zqJ,yt]
  by_cases h:i<l.length
  ·have hki:=hk l[i] (W2 h)
   rw [zI (by omega),zaA (zCE h),zxh,zpV,zxv,zgl,zgm,zPE hL hki,zhy h,up (by omega),ih (i+1) (by omega) (by omega)]
   cases zbG l[i] <;> rfl
  ·rw [zG (by omega),WK (by omega)]; rfl
theorem ybu{L:Nat}(hL:20000≤L){b:BkT}(ho:BkOk b)(k:Bool→Option β):zz β L (zlG b) k=k (okK b):=by
 have hn:=ho.n
 have hk:∀ t∈b.txs,KeptP t:=fun t ht=>(ho.tx t ht).2
 simp only [zz,zvP,zD2]
 simp only [zKX ho.hd,QB]
 by_cases h1:b.txs.length≤256
 ·rw [zG (by omega),show ((0:Int))=((0:Nat):Int) from rfl,z3p (by omega) _ _ b.txs hn hk _ L 0 (by omega) (by omega),Yd]
  simp only [zmn,znt]
  rw [zCz ho.hd,zMc ho.hd]
  cases hf:b.txs.all zbG
  ·rw [zeY]; simp [okK,hf]
  ·rw [zhs,zYT hL ho hf]
   have e:decide ((((yq .u8 (zQq b)).length:Nat):Int)≤100000)=decide ((zQq b).length≤100000):=by
    rw [decide_eq_decide,zF]; omega
   rw [e]
   simp only [okK,hf,h1,decide_true,Ym]
 ·rw [zI (by omega)]; simp [okK,h1]
end
section
variable {β:Type}
def zQL(a b:List Int):List Int:=zxB ([1]++a++b)
theorem zke(a b:List Int):(zQL a b).length=32:=zbt _
theorem z8q(a b:List Int):zcW (zQL a b):=zQX _
def H32(h:List Int):Prop:=h.length=32∧zcW h
theorem z9S(a b:List Int):H32 (zQL a b):=⟨zke a b,z8q a b⟩
theorem z9p{a b:List Int}(ha:H32 a)(hb:H32 b):∀ x∈[1]++a++b,0≤x∧x≤255:=by
 intro x hx
 simp only [QD,Q9,List.not_mem_nil,or_false] at hx
 rcases hx with (rfl | h) | h
 ·decide
 ·exact ha.2 x h
 ·exact hb.2 x h
theorem z33:yl 1 1 [(Qa (1:Int))]=yq .u8 [1]:=rfl
theorem z1Q{w:List Int}(hw:w.length=32)(k:List V→Option β):chk ((XK (row .u8 w))=32∧0+32≤32) (lt (zk (We 32 (Qa (0:Int))) 0 (row .u8 w)) fun r3=>chk (0=0∧(XK r3)=32∧32≠0) (k r3))=k (row .u8 w):=zLJ hw k
theorem z4V{L:Nat}(hL:300≤L){a b:List Int}(ha:H32 a)(hb:H32 b)(k:List V→Option β):yp β L (row .u8 a) (row .u8 b) k=k (row .u8 (zQL a b)):=by
 have la:=ha.1
 have lb:=hb.1
 simp only [yp,zAV,yt]
 rw [yf (by rw [xr,la]; omega),zkm _ _ _ la,z33,yf (by simp only [zF,la]; unfold xm; simp),zbR,yf (by rw [xr,lb]; omega),zkm _ _ _ lb,yf (by simp only [zF,Wm,la,lb]; unfold xm; simp),zbR,
  zVd (by simp [la,lb]; omega) (by simp [la,lb]) (z9p ha hb)]
 exact z1Q (zke a b) k
theorem z6d{L:Nat}(kx:Ls→Option β)(w:List (List Int))(hw:w.length≤1000000)(hs:w.flatten.length≤1000000):∀ (n i:Nat) (acc:List Int),i≤w.length→w.length-i<n→acc.length+((w.drop i).flatten).length≤10000000 →
  zhL yg L kx n (yq .u8 acc) (zjd w) (w.length:Int) (i:Int)=kx (yq .u8 (acc++(w.drop i).flatten)):=by
 intro n
 induction n with
 | zero=>intro i acc h1 h2; omega
 | succ n ih=>
  intro i acc h1 h2 h3
  simp only [zhL,zqO,yt]
  by_cases h:i<w.length
  ·have e:=WQ h
   rw [e,WL,Wm] at h3
   rw [zI (by omega),zaA (ztF h),znh rfl,ziG (by omega),up (by omega),ih (i+1) _ (by omega) (by omega) (by rw [Wm]; omega),e,WL,Wu]
  ·rw [zG (by omega),WK (by omega)]; simp
theorem yb2{L:Nat}(hL:100≤L){a b c:List Int}(h:a.length+b.length+c.length≤100000)(k:Ls→Option β):zai β L (zjd [a,b,c]) k=k (yq .u8 (a++b++c)):=by
 simp only [zai,zuZ,zEp]
 have e:([a,b,c]:List (List Int)).flatten=a++b++c:=by simp
 have:=z6d (L:=L) (fun p=>k p) [a,b,c] (by simp) (by rw [e]; simp; omega) L 0 [] (by omega) (by simp; omega) (by rw [Yd,e]; simp; omega)
 rw [Yd,e,Ye] at this
 exact this
theorem yaE{L:Nat}(hL:300≤L){a b:List Int}(ha:H32 a)(hb:H32 b)(k:List V→Option β):xq β L (row .u8 a) (row .u8 b) k=k (row .u8 (zQL a b)):=by
 have la:=ha.1
 have lb:=hb.1
 have key:xq β L (row .u8 a) (row .u8 b) k=chk (0+32*1≤(XK (row .u8 a))) (chk (0+32*1≤(XK (row .u8 b))) (zai β L (yl 1 3 [(V.sl 1 (yl 1 1 [(Qa (1:Int))])),(V.sl 1 (yl 1 32 (row .u8 a))),(V.sl 1 (yl 1 32 (row .u8 b)))]) (fun v6=>zX β L v6 (fun v7=>chk ((XK v7)=32∧0+32≤32) (lt (zk (We 32 (Qa (0:Int))) 0 v7) fun r8=>chk (0=0∧(XK r8)=32∧32≠0) (k r8)))))):=by
  cases a with
  | nil=>cases la
  | cons x xs=>cases b with
   | nil=>cases lb
   | cons y ys=>exact Eq.trans rfl rfl
 rw [key,yf (by rw [xr,la]; omega),yf (by rw [xr,lb]; omega),zkm _ _ _ la,zkm _ _ _ lb,z33]
 rw [show yl 1 3 [V.sl 1 (yq .u8 [1]),V.sl 1 (yq .u8 a),V.sl 1 (yq .u8 b)]=zjd [[1],a,b] from rfl,yb2 (by omega) (by simp [la,lb])]
 rw [zQ1 (by simp [la,lb]; omega) (by simp [la,lb]) (z9p ha hb)]
 exact z1Q (zke a b) k
def za3(l:List (List Int)):Ls:=l.map (row .u8)
theorem zfx(l:List (List Int)):(za3 l).length=l.length:=by simp [za3]
theorem zp3{l:List (List Int)}{i:Nat}(h:i<l.length):(za3 l)[i]?=some (row .u8 l[i]):=by simp [za3,h]
theorem zxm(l m:List (List Int)):za3 l++za3 m=za3 (l++m):=by simp [za3]
def zdy:List (List Int)→List (List Int)
 | a::b::r=>zQL a b::zdy r
 | l=>l
theorem zGB:∀ l:List (List Int),(zdy l).length=(l.length+1) / 2
 | []=>rfl
 | [_]=>by simp [zdy]
 | a::b::r=>by simp only [zdy,Yh,zGB r]; omega
theorem zMr:∀ {l:List (List Int)},(∀ h∈l,H32 h)→∀ h∈zdy l,H32 h
 | [],h=>by simp [zdy]
 | [_],h=>by simpa [zdy] using h
 | a::b::r,h=>fun x hx=>by
  simp only [zdy] at hx
  rcases Q9.1 hx with rfl | hx
  ·exact z9S a b
  ·exact zMr (l:=r) (fun y hy=>h y (by simp [hy])) x hx
def zh1:Nat→List (List Int)→List (List Int)
 | 0,l=>l
 | n+1,l=>if l.length≤1 then l else zh1 n (zdy l)
theorem zHr:∀ (n:Nat) (l:List (List Int)),l.length≤n+1→l≠[]→(zh1 n l).length=1
 | 0,l,h,h0=>by have:=WY.2 h0; simp only [zh1]; omega
 | n+1,l,h,h0=>by
  have:=WY.2 h0
  simp only [zh1]
  split
  ·omega
  ·have e:=zGB l
   exact zHr n (zdy l) (by omega) (fun e0=>by rw [e0] at e; simp at e; omega)
theorem zLX:∀ (n:Nat) {l:List (List Int)},(∀ h∈l,H32 h)→∀ h∈zh1 n l,H32 h
 | 0,_,h=>h
 | n+1,l,h=>by
  simp only [zh1]
  split
  ·exact h
  ·exact zLX n (zMr h)
theorem zh7{a:List Int}(h:a.length=32):XL 32 (row .u8 a)=row .u8 a:=XE (by rw [xr,h]; omega)
theorem zJh{a:List Int}(h:a.length=32):zk (We 32 (Qa (0:Int))) 0 (row .u8 a)=row .u8 a:=zu2 h
theorem zCA{a:List Int}(h:a.length=32):yl 32 1 (row .u8 a)=za3 [a]:=by
 simp only [yl,zh7 h]; rfl
theorem up2{i:Nat}(h:i≤1000000000):QG .i64 ((i:Int)+2)=((i+2:Nat):Int):=by
 rw [zas (by omega) (by omega)]; omega
theorem z09{l:List (List Int)}{i:Nat}(h:i+1<l.length):l.drop i=l[i]'(by omega)::l[i+1]::l.drop (i+2):=by
 rw [WQ (by omega),WQ h]
theorem zZf{l:List (List Int)}{i:Nat}(h:i<l.length)(h2:¬ i+1<l.length):l.drop i=[l[i]]:=by
 rw [WQ h,WK (by omega)]
theorem yaY{L:Nat}(hL:300≤L)(kx:Ls→Ls→Option β)(l:List (List Int))(hl:l.length≤100000)(hk:∀ h∈l,H32 h)(p3:Ls):∀ (n i:Nat) (acc:List (List Int)),i≤l.length+1→l.length+1-i<n→acc.length≤i →
  zcL yp L kx n (za3 l) p3 (za3 acc) (i:Int)=kx p3 (za3 (acc++zdy (l.drop i))):=by
 intro n
 induction n with
 | zero=>intro i acc h1 h2; omega
 | succ n ih=>
  intro i acc h1 h2 h3
  simp only [zcL,zhD,yt,zfx]
  by_cases h:i<l.length
  ·have hi:=hk l[i] (W2 h)
   rw [zI (by omega),up (by omega)]
   by_cases h':i+1<l.length
   ·have hj:=hk l[i+1] (W2 h')
    rw [zI (by omega),zaA (zp3 h),zaA (zp3 h'),zh7 hi.1,zh7 hj.1,z4V hL hi hj,yf ⟨by rw [xr,zke],by omega⟩,zJh (zke _ _),zCA (zke _ _),yf (by simp only [zfx,Yh,Yi]; unfold xm; omega),zxm,up2 (by omega)]
    rw [ih (i+2) _ (by omega) (by omega) (by simp; omega),z09 h']
    simp [zdy]
   ·rw [zG (by omega),zaA (zp3 h),zh7 hi.1,yf ⟨by rw [xr,hi.1],by omega⟩,zJh hi.1,zCA hi.1,yf (by simp only [zfx,Yh,Yi]; unfold xm; omega),zxm,up2 (by omega)]
    rw [ih (i+2) _ (by omega) (by omega) (by simp; omega),zZf h h',WK (by omega)]
    simp [zdy]
  ·rw [zG (by omega),WK (by omega)]
   simp [zdy]
theorem z3O{L:Nat}(hL:300000≤L):∀ (n:Nat) (l:List (List Int)) (pre:Ls),l.length≤n+1→l.length≤100000→(∀ h∈l,H32 h)→pre.length+n≤200000→∀ N,n<N →
  ∃ pre',pre'.length≤200000∧∀ kx:Ls→Option β,zc6 yp L kx N (za3 l) (pre++[[V.sl 32 (za3 l)]])=kx (pre'++[[V.sl 32 (za3 (zh1 n l))]])
 | n,l,pre,h1,h2,h3,h4,0,hN=>by omega
 | n,l,pre,h1,h2,h3,h4,N+1,hN=>by
  by_cases h:l.length≤1
  ·refine ⟨pre,by omega,fun kx=>?_⟩
   simp only [zc6,zfD,zja,zfx]
   rw [zG (by omega)]
   have:zh1 n l=l:=by cases n <;> simp [zh1,h]
   rw [this]
  ·obtain ⟨m,rfl⟩:∃ m,n=m+1:=⟨n-1,by omega⟩
   have e:=zGB l
   obtain ⟨pre',hpl,hp⟩:=z3O hL m (zdy l) (pre++[[V.sl 32 (za3 l)]]) (by omega) (by omega) (zMr h3) (by simp; omega) N (by omega)
   refine ⟨pre',hpl,fun kx=>?_⟩
   simp only [zc6,zfD,zja,zfx]
   rw [zI (by omega)]
   have:=yaY (L:=L) (by omega) (fun p3 p4=>zd5 yp L p3 p4 (fun p0 p3=>zc6 yp L kx N p0 p3)) l h2 h3 (pre++[[V.sl 32 (za3 l)]]) L 0 [] (by omega) (by omega) (by simp)
   refine Eq.trans this ?_
   simp only [zd5,Yd,Ye,yt]
   rw [yf (by rw [show (yl 1 1 [V.sl 32 (za3 (zdy l))]).length=1 from rfl]; simp only [Wm,Yh,Yi]; unfold xm; omega)]
   have q:zh1 (m+1) l=zh1 m (zdy l):=by simp only [zh1]; rw [if_neg h]
   rw [q,show yl 1 1 [V.sl 32 (za3 (zdy l))]=[[V.sl 32 (za3 (zdy l))]] from rfl]
   exact hp kx
def zqc(l:List (List Int)):List Int:=if l.length=0 then We 32 0 else if l.length>1024 then We 32 0 else (zh1 l.length l).headD []
theorem z4E(pre:Ls)(x:List V):(pre++[x])[pre.length]?=some x:=by simp
theorem zMs:We 32 (Qa (0:Int))=row .u8 (We 32 0):=zx3 32 .u8 0
theorem z9T{l:List (List Int)}(h:∀ x∈l,H32 x):H32 (zqc l):=by
 have z:H32 (We 32 (0:Int)):=⟨by simp,fun x hx=>by rw [(Yc.1 hx).2]; decide⟩
 unfold zqc
 split
 ·exact z
 ·split
  ·exact z
  ·have h1:=zHr l.length l (by omega) (fun e=>by simp_all)
   obtain ⟨x,hx⟩:=Yk.1 h1
   rw [hx]
   exact zLX l.length h x (by rw [hx]; simp)
theorem yb8{L:Nat}(hL:300000≤L){l:List (List Int)}(h:∀ x∈l,H32 x)(hl:l.length≤100000)(k:List V→Option β):yF β L (za3 l) k=k (row .u8 (zqc l)):=by
 simp only [yF,zzS,zfx]
 by_cases h0:l.length=0
 ·rw [znd (by omega),yt,yf (by simp),zMs]; simp [zqc,h0]
 ·rw [zSk (by omega)]
  by_cases h1:l.length>1024
  ·rw [zI (by omega),yt,yf (by simp),zMs]; simp [zqc,h0,h1]
  ·rw [zG (by omega)]
   have o1:=zHr l.length l (by omega) (fun e=>by simp_all)
   obtain ⟨x,hx⟩:=Yk.1 o1
   have hx32:H32 x:=zLX l.length h x (by rw [hx]; simp)
   obtain ⟨pre',hpl,hp⟩:=z3O (β:=β) hL l.length l [] (by omega) hl h (by simp; omega) L (by omega)
   simp only [zaI,zol,zt2,zkX]
   refine Eq.trans (hp _) ?_
   rw [hx]
   simp only [yt,Wm,Yh,Yi]
   rw [show QG .i64 ((((pre'.length+(0+1):Nat)):Int)-1)=((pre'.length:Nat):Int) by
    rw [zas (by omega) (by omega)]; omega,zaA (z4E pre' _),znh rfl,zx8 (by omega) rfl,zh7 hx32.1,yf ⟨by rw [xr,hx32.1],by omega⟩,zJh hx32.1,yf (by rw [xr,hx32.1]; simp)]
   simp [zqc,h0,h1,hx]
theorem ybc{L:Nat}(hL:300≤L)(kx:Ls→Ls→Option β)(l:List (List Int))(hl:l.length≤100000)(hk:∀ h∈l,H32 h)(p3:Ls):∀ (n i:Nat) (acc:List (List Int)),i≤l.length+1→l.length+1-i<n→acc.length≤i →
  zdl xq L kx n (za3 l) p3 (za3 acc) (i:Int)=kx p3 (za3 (acc++zdy (l.drop i))):=by
 intro n
 induction n with
 | zero=>intro i acc h1 h2; omega
 | succ n ih=>
  intro i acc h1 h2 h3
  simp only [zdl,zih,yt,zfx]
  by_cases h:i<l.length
  ·have hi:=hk l[i] (W2 h)
   rw [zI (by omega),up (by omega)]
   by_cases h':i+1<l.length
   ·have hj:=hk l[i+1] (W2 h')
    rw [zI (by omega),zaA (zp3 h),zaA (zp3 h'),zh7 hi.1,zh7 hj.1,yaE hL hi hj,yf ⟨by rw [xr,zke],by omega⟩,zJh (zke _ _),zCA (zke _ _),yf (by simp only [zfx,Yh,Yi]; unfold xm; omega),zxm,up2 (by omega)]
    rw [ih (i+2) _ (by omega) (by omega) (by simp; omega),z09 h']
    simp [zdy]
   ·rw [zG (by omega),zaA (zp3 h),zh7 hi.1,yf ⟨by rw [xr,hi.1],by omega⟩,zJh hi.1,zCA hi.1,yf (by simp only [zfx,Yh,Yi]; unfold xm; omega),zxm,up2 (by omega)]
    rw [ih (i+2) _ (by omega) (by omega) (by simp; omega),zZf h h',WK (by omega)]
    simp [zdy]
  ·rw [zG (by omega),WK (by omega)]
   simp [zdy]
theorem z4D{L:Nat}(hL:300000≤L):∀ (n:Nat) (l:List (List Int)) (pre:Ls),l.length≤n+1→l.length≤100000→(∀ h∈l,H32 h)→pre.length+n≤200000→∀ N,n<N →
  ∃ pre',pre'.length≤200000∧∀ kx:Ls→Option β,zdC xq L kx N (za3 l) (pre++[[V.sl 32 (za3 l)]])=kx (pre'++[[V.sl 32 (za3 (zh1 n l))]])
 | n,l,pre,h1,h2,h3,h4,0,hN=>by omega
 | n,l,pre,h1,h2,h3,h4,N+1,hN=>by
  by_cases h:l.length≤1
  ·refine ⟨pre,by omega,fun kx=>?_⟩
   simp only [zdC,zga,zjA,zfx]
   rw [zG (by omega)]
   have:zh1 n l=l:=by cases n <;> simp [zh1,h]
   rw [this]
  ·obtain ⟨m,rfl⟩:∃ m,n=m+1:=⟨n-1,by omega⟩
   have e:=zGB l
   obtain ⟨pre',hpl,hp⟩:=z4D hL m (zdy l) (pre++[[V.sl 32 (za3 l)]]) (by omega) (by omega) (zMr h3) (by simp; omega) N (by omega)
   refine ⟨pre',hpl,fun kx=>?_⟩
   simp only [zdC,zga,zjA,zfx]
   rw [zI (by omega)]
   have:=ybc (L:=L) (by omega) (fun p3 p4=>zef xq L p3 p4 (fun p0 p3=>zdC xq L kx N p0 p3)) l h2 h3 (pre++[[V.sl 32 (za3 l)]]) L 0 [] (by omega) (by omega) (by simp)
   refine Eq.trans this ?_
   simp only [zef,Yd,Ye,yt]
   rw [yf (by rw [show (yl 1 1 [V.sl 32 (za3 (zdy l))]).length=1 from rfl]; simp only [Wm,Yh,Yi]; unfold xm; omega)]
   have q:zh1 (m+1) l=zh1 m (zdy l):=by simp only [zh1]; rw [if_neg h]
   rw [q,show yl 1 1 [V.sl 32 (za3 (zdy l))]=[[V.sl 32 (za3 (zdy l))]] from rfl]
   exact hp kx
theorem yb9{L:Nat}(hL:300000≤L){l:List (List Int)}(h:∀ x∈l,H32 x)(hl:l.length≤100000)(k:List V→Option β):xI β L (za3 l) k=k (row .u8 (zqc l)):=by
 simp only [xI,zEU,zfx]
 by_cases h0:l.length=0
 ·rw [znd (by omega),yt,yf (by simp),zMs]; simp [zqc,h0]
 ·rw [zSk (by omega)]
  by_cases h1:l.length>1024
  ·rw [zI (by omega),yt,yf (by simp),zMs]; simp [zqc,h0,h1]
  ·rw [zG (by omega)]
   have o1:=zHr l.length l (by omega) (fun e=>by simp_all)
   obtain ⟨x,hx⟩:=Yk.1 o1
   have hx32:H32 x:=zLX l.length h x (by rw [hx]; simp)
   obtain ⟨pre',hpl,hp⟩:=z4D (β:=β) hL l.length l [] (by omega) hl h (by simp; omega) L (by omega)
   simp only [zaX,zqa,zyd,zl2]
   refine Eq.trans (hp _) ?_
   rw [hx]
   simp only [yt,Wm,Yh,Yi]
   rw [show QG .i64 ((((pre'.length+(0+1):Nat)):Int)-1)=((pre'.length:Nat):Int) by
    rw [zas (by omega) (by omega)]; omega,zaA (z4E pre' _),znh rfl,zx8 (by omega) rfl,zh7 hx32.1,yf ⟨by rw [xr,hx32.1],by omega⟩,zJh hx32.1,yf (by rw [xr,hx32.1]; simp)]
   simp [zqc,h0,h1,hx]
end
section
variable {β:Type}
def zVo:List (List Int)→List Int→Nat→Option Nat
 | [],_,_=>none
 | x::l,h,n=>if x=h then some n else zVo l h (n+1)
def ycf:List (List Int)→Nat→Lm
 | [],_=>[]
 | x::l,n=>(V.agg (row .u8 x),V.sc (.int .i64 (n:Int)))::ycf l (n+1)
def ybQ:List (List Int)→List (List Int)→Bool
 | _,[]=>false
 | pre,x::l=>(zVo pre x 0).isSome||ybQ (pre++[x]) l
def ybl(l:List TxT):List (List Int):=l.map fun t=>zsx t false
theorem yaA{t:TxT}(h:TxOk t)(w:Bool):H32 (zsx t w):=by
 refine ⟨zGz t w,fun x hx=>?_⟩
 unfold zsx at hx
 split at hx
 ·exact yag _ x hx
 ·rw [(Yc.1 hx).2]; decide
def ycA(ids:List (List Int))(i:Nat)(x:Inp):Bool:=match zVo ids (zMq x) 0 with
 | some p=>decide (i≤p)
 | none=>false
def z4C(ids:List (List Int)):List TxT→Nat→Bool
 | [],_=>false
 | t::l,i=>t.ins.any (ycA ids i)||z4C ids l (i+1)
def ycC(l:List TxT):List Inp:=l.flatMap TxT.ins
def z7h(l:List TxT):Int:=if ybQ [] (ybl l)=true then 91 else if z4C (ybl l) l 0=true then 101 else if zXH [] (ycC l)=true then 91 else 0
end
section
variable {β:Type}
def zlw(l:List TxT):List (List Int):=l.map fun t=>zsx t true
theorem zW1{l:List TxT}(h:∀ t∈l,TxOk t):∀ x∈zlw l,H32 x:=fun x hx=>by
 obtain ⟨t,ht,rfl⟩:=Xy.1 hx
 exact yaA (h t ht) true
theorem zG6(l:List TxT):(zlw l).length=l.length:=by simp [zlw]
theorem zWy{l:List TxT}{i:Nat}(h:i<l.length):zlw (l.take i)++[zsx l[i] true]=zlw (l.take (i+1)):=by
 simp only [zlw,List.take_succ_eq_append_getElem h,Yn,QW,List.map_nil]
def zQT(l:List TxT):List Int:=zqc (zlw l)
theorem zYa{l:List TxT}(h:∀ t∈l,TxOk t):H32 (zQT l):=z9T (zW1 h)
theorem z3q{L:Nat}(hL:4000000≤L)(kx:Ls→List V→Option β)(l:List TxT)(hl:l.length≤10000)(hk:∀ t∈l,TxOk t∧KeptP t)(b2:List V):∀ (n i:Nat),i≤l.length→l.length-i<n →
  zhQ xT yF L kx n (za3 (zlw (l.take i))) (l.map zcA) (l.length:Int) (i:Int) b2=kx (za3 (zlw l)) b2:=by
 intro n
 induction n with
 | zero=>intro i h1 h2; omega
 | succ n ih=>
  intro i h1 h2
  simp only [zhQ,zqY,yt]
  by_cases h:i<l.length
  ·obtain ⟨ht,hki⟩:=hk l[i] (W2 h)
   have hn:=zGz l[i] true
   rw [zI (by omega),zaA (zCE h),zxh,zpV,zxv,zgl,zgm,ya0 hL ht hki,yf ⟨by rw [xr,hn],by omega⟩,zu2 hn,zCA hn,yf (by simp only [zfx,zG6,Ww,Yh,Yi]; unfold xm; omega),zxm,zWy h,up (by omega)]
   exact ih (i+1) (by omega) (by omega)
  ·rw [zG (by omega),XE (by omega)]
theorem z3r{L:Nat}(hL:4000000≤L)(kx:Ls→List V→Option β)(l:List TxT)(hl:l.length≤10000)(hk:∀ t∈l,TxOk t∧KeptP t)(b2:List V):∀ (n i:Nat),i≤l.length→l.length-i<n →
  zhI yI xI L kx n (za3 (zlw (l.take i))) (l.map zcA) (l.length:Int) (i:Int) b2=kx (za3 (zlw l)) b2:=by
 intro n
 induction n with
 | zero=>intro i h1 h2; omega
 | succ n ih=>
  intro i h1 h2
  simp only [zhI,zqI,yt]
  by_cases h:i<l.length
  ·obtain ⟨ht,hki⟩:=hk l[i] (W2 h)
   have hn:=zGz l[i] true
   rw [zI (by omega),zaA (zCE h),zxh,zpV,zxv,zgl,zgm,yat hL ht hki,yf ⟨by rw [xr,hn],by omega⟩,zu2 hn,zCA hn,yf (by simp only [zfx,zG6,Ww,Yh,Yi]; unfold xm; omega),zxm,zWy h,up (by omega)]
   exact ih (i+1) (by omega) (by omega)
  ·rw [zG (by omega),XE (by omega)]
theorem z7b{L:Nat}(hL:4000000≤L){l:List TxT}(hl:l.length≤10000)(hk:∀ t∈l,TxOk t∧KeptP t)(k:List V→Option β):xH β L (l.map zcA) k=k (row .u8 (zQT l)):=by
 have hh:=zW1 fun t ht=>(hk t ht).1
 have hr:=(zYa fun t ht=>(hk t ht).1).1
 simp only [xH,zv0,zEX,QB]
 have q:=z3q (L:=L) hL (fun p3 b2=>zjj xT yF L p3 b2 k) l hl hk (We 32 (Qa (0:Int))) L 0 (by omega) (by omega)
 rw [List.take_zero] at q
 refine Eq.trans q ?_
 simp only [zjj]
 rw [yb8 (by omega) hh (by rw [zG6]; omega)]
 rw [show zqc (zlw l)=zQT l from rfl,yf ⟨by rw [xr,hr],by simp⟩,yt,zu2 hr,yf (by rw [xr,hr]; simp)]
theorem z6D{L:Nat}(hL:4000000≤L){l:List TxT}(hl:l.length≤10000)(hk:∀ t∈l,TxOk t∧KeptP t)(k:List V→Option β):zw β L (l.map zcA) k=k (row .u8 (zQT l)):=by
 have hh:=zW1 fun t ht=>(hk t ht).1
 have hr:=(zYa fun t ht=>(hk t ht).1).1
 simp only [zw,zuy,zEY,QB]
 have q:=z3r (L:=L) hL (fun p3 b2=>zjb yI xI L p3 b2 k) l hl hk (We 32 (Qa (0:Int))) L 0 (by omega) (by omega)
 rw [List.take_zero] at q
 refine Eq.trans q ?_
 simp only [zjb]
 rw [yb9 (by omega) hh (by rw [zG6]; omega)]
 rw [show zqc (zlw l)=zQT l from rfl,yf ⟨by rw [xr,hr],by simp⟩,yt,zu2 hr,yf (by rw [xr,hr]; simp)]
def yc5(ids:List (List Int))(h:List Int):Int:=match zVo ids h 0 with
 | some j=>(j:Int)
 | none=>-1
def pts(l:List Inp):Ls:=l.map zve
def z9s:List TxT→Nat→Bool
 | [],_=>true
 | t::l,i=>(cbB t==((i:Int)==0))&&z9s l (i+1)
def z5g:List TxT→Int
 | []=>0
 | t::l=>if z7L t=0 then z5g l else z7L t
def yc6(b:BkT):Int:=if okK b=true then (if b.txs.length=0 then 93 else if z9s b.txs 0=true then (if z5g b.txs=0 then (if z7h b.txs=0 then (if zQT b.txs=b.hd.root then 0 else 110) else z7h b.txs) else z5g b.txs) else 111) else 4
end
section
variable {β:Type}
theorem z9C:∀ {es:Ls},(∀ e∈es,HasRow ([.int .u32]++[.sl (We 32 (.int .u8)++We 2 (.int .u32)++[.sl ([.sl ([.int .u8])])])]++[.sl ([.int .i64]++[.sl ([.int .u8])])]++[.int .u32]) e)→∃ w:List TxT,es=w.map zcA∧∀ t∈w,TxOk t
 | [],_=>⟨[],rfl,by simp⟩
 | e::es,h=>by
  obtain ⟨t,rfl,ht⟩:=yb5 (h e (by simp))
  obtain ⟨w,rfl,hw⟩:=z9C (es:=es) (fun x hx=>h x (by simp [hx]))
  refine ⟨t::w,rfl,fun b hb=>?_⟩
  rcases Q9.1 hb with rfl | hb
  ·exact ht
  ·exact hw b hb
theorem z6z{a:List V}(h:HasRow ([.int .u32]++We 64 (.int .u8)++We 3 (.int .u32)) a):∃ d,a=hrow d∧HdOk d:=by
 rw [Wu] at h
 obtain ⟨v1,r1,rfl,g1,hh⟩:=h.tail
 obtain ⟨n,rfl,hn⟩:=g1.int_inv
 have hh:HasRow (We 64 (.int .u8)++We 3 (.int .u32)) r1:=hh
 obtain ⟨r,s,rfl,h1,h2⟩:=zGp hh
 rw [show We 64 (CT.int .u8)=We 32 (CT.int .u8)++We 32 (CT.int .u8) from rfl] at h1
 obtain ⟨p,q,rfl,hp,hq⟩:=zGp h1
 obtain ⟨lp,rfl,lpl,lpw⟩:=zVx hp
 obtain ⟨lq,rfl,lql,lqw⟩:=zVx hq
 obtain ⟨v2,r2,rfl,g2,h2⟩:=h2.tail
 obtain ⟨v3,r3,rfl,g3,h2⟩:=h2.tail
 obtain ⟨v4,r4,rfl,g4,h2⟩:=h2.tail
 obtain rfl:=h2.nil
 obtain ⟨x,rfl,hx⟩:=g2.int_inv
 obtain ⟨y,rfl,hy⟩:=g3.int_inv
 obtain ⟨z,rfl,hz⟩:=g4.int_inv
 exact ⟨⟨n,lp,lq,x,y,z⟩,by simp only [hrow,Wu],⟨lpl,lql,fun i hi=>zQ3 (lpw i hi),fun i hi=>zQ3 (lqw i hi),zzG hn,zzG hx,zzG hy,zzG hz⟩⟩
structure BkW (b:BkT):Prop where
 hd:HdOk b.hd
 tx:∀ t∈b.txs,TxOk t
theorem ybn{a:List V}(h:HasRow ([.int .u32]++We 64 (.int .u8)++We 3 (.int .u32)++[.sl ([.int .u32]++[.sl (We 32 (.int .u8)++We 2 (.int .u32)++[.sl ([.sl ([.int .u8])])])]++[.sl ([.int .i64]++[.sl ([.int .u8])])]++[.int .u32])]) a):∃ b,a=zlG b∧BkW b:=by
 obtain ⟨r,s,rfl,h1,h2⟩:=zGp h
 obtain ⟨d,rfl,hd⟩:=z6z h1
 obtain ⟨v,r1,rfl,g,h2⟩:=h2.tail
 obtain rfl:=h2.nil
 obtain ⟨xs,rfl,hl,hx⟩:=g.sl_inv
 obtain ⟨w,rfl,hw⟩:=z9C hx
 exact ⟨⟨d,w⟩,rfl,hd,hw⟩
theorem z3L{L:Nat}(hL:2000≤L)(kr:Bool→Option β)(kx:Option β)(l:List TxT)(hl:l.length≤12):∀ (n i:Nat),i≤l.length→l.length-i<n →
  zhK yO L kr kx n (l.map zcA) (l.length:Int) (i:Int)=ifb ((l.drop i).all zIu) kx (kr false):=by
 intro n
 induction n with
 | zero=>intro i h1 h2; omega
 | succ n ih=>
  intro i h1 h2
  simp only [zhK,zrx,yt]
  by_cases h:i<l.length
  ·rw [zI (by omega),zaA (zCE h),zxh,zpV,zxv,zgl,zgm,ybU hL,zhy h,up (by omega),ih (i+1) (by omega) (by omega)]
   cases zIu l[i] <;> rfl
  ·rw [zG (by omega),WK (by omega)]; rfl
def zQK(b:BkT):Bool:=decide (b.txs.length≤12)&&b.txs.all zIu
theorem ybV{L:Nat}(hL:2000≤L){b:BkT}(hb:BkW b)(k:Bool→Option β):zav β L (zlG b) k=k (zQK b):=by
 simp only [zav,zud,zEt]
 simp only [zKX hb.hd,QB]
 by_cases h:b.txs.length≤12
 ·rw [zG (by omega),show ((0:Int))=((0:Nat):Int) from rfl,z3L hL _ _ b.txs h L 0 (by omega) (by omega),Yd]
  simp only [zQK,h,decide_true,Ym,zmL,zn0]
  cases b.txs.all zIu <;> rfl
 ·rw [zI (by omega)]; simp [zQK,h]
theorem z87{b:BkT}(hb:BkW b)(h:zQK b=true):BkOk b:=by
 simp only [zQK,Bool.and_eq_true,decide_eq_true_eq,List.all_eq_true] at h
 exact ⟨hb.hd,by omega,fun t ht=>⟨hb.tx t ht,ybD (h.2 t ht)⟩⟩
def ycX(b:BkT)(r:List Int):BkT:=⟨{ b.hd with root:=r },b.txs⟩
theorem zYM(A B C D:List V)(h:B.length=C.length):zk (A++(B++D)) A.length C=A++(C++D):=by
 unfold zk
 rw [List.take_left,Wu,← h,← WO,List.drop_left,List.drop_left]
end
section
set_option linter.unusedSectionVars false
variable {β:Type}
def z9d{α:Type}(r:Except Int (α × Nat))(k:α→Nat→Option β)(b:Int→Option β):Option β:=match r with
 | .ok (v,a)=>k v a
 | .error e=>b e
theorem zQR{α:Type}(v:α)(a:Nat)(k:α→Nat→Option β)(b:Int→Option β):z9d (.ok (v,a)) k b=k v a:=rfl
def gN(j:List Int)(w a:Nat):Except Int (Nat × Nat):=if a+w≤j.length then .ok (le j a w,a+w) else .error 1
def zQV(j:List Int)(a:Nat):Except Int (List Int × Nat):=if a+32≤j.length then .ok ((j.drop a).take 32,a+32) else .error 1
def zU0:List V:=We 32 (Qa (0:Int))
theorem z6G(k:IntKind)(l:List Int):(yq k l).flatten=row k l:=by
 induction l with
 | nil=>rfl
 | cons x l ih=>simp only [yq,row,QW,WL] at ih ⊢; rw [ih]; rfl
theorem zXr{w:List Int}(hw:w.length=32):zk (We 32 (Qa (0:Int))) 0 (row .u8 w)=row .u8 w:=zc3 (by rw [xr,hw,XR])
theorem z2n{w:List Int}(hw:w.length=32):XL 32 (row .u8 w)=row .u8 w:=XE (by rw [xr]; omega)
theorem z0T{j:List Int}{a:Nat}(h:a+32≤j.length):zk (We 32 (Qa (0:Int))) 0 (List.flatten (XL (min (XK (XL ((XK (yq .u8 j))-(XM (a:Int))) (XO (XM (a:Int)) (yq .u8 j)))) 32) (XL ((XK (yq .u8 j))-(XM (a:Int))) (XO (XM (a:Int)) (yq .u8 j)))))=row .u8 ((j.drop a).take 32):=by
 rw [Int.toNat_natCast,zYH,zF,zHx,zF,XE (l:=j.drop a) (by rw [XS]; omega),XS,Nat.min_eq_right (by omega),zHx,z6G]
 exact zXr (by rw [Ww,XS]; omega)
theorem z0N(k:Option β):chk (0=0∧(XK zU0)=32∧32≠0) k=k:=yf (by simp [zU0]) k
theorem z4z{L:Nat}(hL:20≤L){j:List Int}(hj:j.length≤100000000){a:Nat}(ha:a≤j.length)(k:List V→Int→Int→Option β):za6 β L (yq .u8 j) (a:Int) k=z9d (zQV j a) (fun v a'=>k (row .u8 v) (a':Int) 0) (fun e=>k zU0 0 e):=by
 unfold za6 zC7
 refine (z31 L j ha hj (w:=32) (by decide) _).trans ?_
 unfold zQV
 by_cases h:a+32≤j.length
 ·have hl:((j.drop a).take 32).length=32:=by rw [Ww,XS]; omega
  rw [if_pos h,if_pos h,zlv,if_pos rfl,yf (by rw [zF]; omega),z0T h,yt,yf (by rw [xr]; omega),zas (by omega) (by omega),yt,z2n hl,yf (by rw [xr]; omega),zXr hl,yt,yf (by rw [xr]; omega)]
  rfl
 ·rw [if_neg h,if_neg h,zlv,if_neg (by decide),yt]
  exact z0N _
theorem z0L{L:Nat}(hL:20≤L){j:List Int}(hj:j.length≤100000000){a:Nat}(ha:a≤j.length)(k:List V→Int→Int→Option β):za7 β L (yq .u8 j) (a:Int) k=z9d (zQV j a) (fun v a'=>k (row .u8 v) (a':Int) 0) (fun e=>k zU0 0 e):=by
 unfold za7 zC5
 rw [zG (by omega),zF,zG (by omega),zas (by omega) (by omega),yt]
 unfold zQV
 by_cases h:a+32≤j.length
 ·have hl:((j.drop a).take 32).length=32:=by rw [Ww,XS]; omega
  have hr:=z0T h
  rw [zF] at hr
  rw [if_pos h,zG (by omega),yf (by omega),hr,yt,yf (by rw [xr]; omega),zas (by omega) (by omega),yt,z2n hl,yf (by rw [xr]; omega),zXr hl,yt,yf (by rw [xr]; omega)]
  rfl
 ·rw [if_neg h,zI (by omega),yt]
  exact z0N _
def leB(n:Nat):Nat→List Int
 | 0=>[]
 | w+1=>((n % 256:Nat):Int)::leB (n / 256) w
theorem zQM:∀ (w n:Nat),(leB n w).length=w
 | 0,n=>rfl
 | w+1,n=>by simp [leB,zQM w]
theorem yaa(n i:Nat)(hi:i≤7):QG .u8 (zcN .u64 ((n:Nat):Int) (8*(i:Int)))=((n / 256 ^ i % 256:Nat):Int):=by
 have e1:(8*(i:Int)).toNat=8*i:=by omega
 have e2:min (8*i) (IntKind.bits .u64)=8*i:=Nat.min_eq_left (by show 8*i≤64; omega)
 unfold zcN
 rw [e1,e2]
 have e3:((2:Int) ^ (8*i))=((256 ^ i:Nat):Int):=by rw [z1p,Int.natCast_pow]; rfl
 rw [e3,Int.fdiv_eq_ediv_of_nonneg _ (Int.natCast_nonneg _),← Int.natCast_ediv]
 have:=yas (n:=((n / 256 ^ i % 256:Nat):Int)) (by omega) (by omega)
 rw [← this]
 unfold QG
 simp only [IntKind.signed,IntKind.bits]
 have h8:(2:Int) ^ 8=256:=by decide
 have hh:(((n / 256 ^ i:Nat):Int) % 256)=(((n / 256 ^ i % 256:Nat):Int) % 256):=by omega
 simp [h8,hh]
theorem zUf:∀ (w n:Nat),(List.range w).map (fun i=>((n / 256 ^ i % 256:Nat):Int))=leB n w
 | 0,n=>rfl
 | w+1,n=>by
  rw [List.range_succ_eq_map,QW,List.map_map,leB,← zUf w (n / 256)]
  simp only [Nat.pow_zero,Nat.div_one]
  congr 1
  apply Yp
  intro i _
  simp only [Function.comp_apply,Nat.pow_succ,Nat.div_div_eq_div_mul,Nat.mul_comm]
theorem yaO(n w:Nat)(hw:w≤8):zfW ((n:Nat):Int) w=leB n w:=by
 rw [← zUf]
 unfold zfW
 apply Yp
 intro i hi
 exact yaa n i (by have:=List.mem_range.1 hi; omega)
theorem zQ8{n:Nat}(h:n<4294967296):zsN ((n:Nat):Int)=leB n 4:=by
 unfold zsN
 rw [zbQ (by omega) (by omega),yaO _ _ (by decide)]
theorem zUO:∀ (w n a:Nat) {j r:List Int},n<256 ^ w→j.drop a=leB n w++r→le j a w=n
 | 0,n,a,j,r,hn,h=>by simp [le] at hn ⊢; omega
 | w+1,n,a,j,r,hn,h=>by
  rw [leB,List.cons_append] at h
  have hlt:a<j.length:=by
   rcases Nat.lt_or_ge a j.length with h1 | h1
   ·exact h1
   ·rw [List.drop_eq_nil_of_le h1] at h; cases h
  rw [WQ hlt] at h
  have h0:=(List.cons.inj h).1
  have h1:=(List.cons.inj h).2
  have hb:zvZ j a=n % 256:=by
   unfold zvZ
   rw [Ws,Wc hlt,Option.getD_some,h0]
   omega
  rw [zXb,zUO w (n / 256) (a+1) (by rw [Nat.pow_succ] at hn; exact Nat.div_lt_of_lt_mul (by omega)) h1,hb]
  omega
theorem z0O:∀ (l:List Int),ziI (yq .u8 l)=some (l.map fun n=>UInt8.ofNat n.toNat)
 | []=>rfl
 | n::l=>by
  have:=z0O l
  simp only [yq] at this
  simp [yq,ziI,this]
theorem zPC{L:Nat}(l:List Int)(k:Bool→Option β):zW β L (yq .u8 l) (yq .u8 l) k=k true:=by
 simp only [zW,zEd,zX4,z0O,BEq.rfl]
theorem z9a{L:Nat}(hL:20000≤L){b:BkT}(ho:BkOk b)(k:Ls→Int→Option β):zaK β L (zlG b) k=if okK b=true then k (yq .u8 (zQq b)) 0 else k (yq .u8 []) 4:=by
 simp only [zaK,zxq]
 rw [zCz ho.hd,zMc ho.hd,ybu hL ho]
 cases h:okK b
 ·rfl
 ·have hf:b.txs.all zbG=true:=by simp only [okK,Bool.and_eq_true] at h; exact h.1.2
  rw [if_pos rfl,Xh,zeY,zCz ho.hd,zYT hL ho hf]
theorem zP3(a0:List V)(wf0:HasRow ([.int .u32]++We 64 (.int .u8)++We 3 (.int .u32)++[.sl ([.int .u32]++[.sl (We 32 (.int .u8)++We 2 (.int .u32)++[.sl ([.sl ([.int .u8])])])]++[.sl ([.int .i64]++[.sl ([.int .u8])])]++[.int .u32])]) a0) :
  ∃ L,∀ k:Bool→Option Bool,zb7 Bool L a0 k=k true:=by
 obtain ⟨b,rfl,hw⟩:=ybn wf0
 obtain ⟨L,hL⟩:∃ L,4000000≤L:=⟨4000000,Nat.le_refl _⟩
 refine ⟨L,fun k=>?_⟩
 simp only [zb7,zmt,yR]
 rw [yf (by omega),zCz hw.hd,zMc hw.hd,ybV (by omega) hw]
 cases hk:zQK b
 ·rfl
 ·have hb:=z87 hw hk
  have hr:=zYa fun t ht=>(hb.tx t ht).1
  have last:∀ (l:List Int),(ifb ((0:Int)==0) (zW Bool L (yq .u8 l) (yq .u8 l) fun v5=>ifb v5 (cLd 4 (zlG b) 68 fun v6=>xH Bool L v6 fun v7=>cLd 4 (zlG b) 68 fun v8=>zw Bool L v8 fun v9=>eqC 32 v7 v9 fun v10=>k v10) (k false)) (k false))=k true:=fun l=>by
   rw [znd rfl,zPC,zhs]
   simp only [zKX hw.hd]
   rw [z7b hL hb.n hb.tx,z6D hL hb.n hb.tx,zXJ .u8 hr.1 hr.1,decide_eq_true rfl]
  rw [Xh,zeY,zCz hw.hd,z88 (by omega) hb]
  simp only [zCz hw.hd,zMc hw.hd,z9a (L:=L) (by omega) hb]
  cases okK b
  ·rw [if_neg (by decide),if_neg (by decide),znd rfl,zPC,zhs]
   simp only [zKX hw.hd]
   rw [z7b hL hb.n hb.tx,z6D hL hb.n hb.tx,zXJ .u8 hr.1 hr.1,decide_eq_true rfl]
  ·rw [if_pos rfl,if_pos rfl]
   exact last _
def zHd:HdT:=⟨0,We 32 0,We 32 0,0,0,0⟩
theorem zXv(v:Int):[(Qc v)]++We 64 (Qa (0:Int))++[(Qc (0:Int)),(Qc (0:Int)),(Qc (0:Int))]=hrow { zHd with ver:=v }:=by rfl
structure HL (h:HdT):Prop where
 p:h.prev.length=32
 r:h.root.length=32
theorem HL.len{h:HdT}(hl:HL h):(hrow h).length=68:=by
 simp only [hrow,Yh,Wm,xr,hl.p,hl.r,Yi]
theorem z7n{h:HdT}(hl:HL h){r:List Int}(hr:r.length=32):zk (hrow h) 1 (row .u8 r)=hrow { h with prev:=r }:=
 zYM [V.sc (.int .u32 h.ver)] (row .u8 h.prev) (row .u8 r) _ (by rw [xr,xr,hl.p,hr])
theorem z7w{h:HdT}(hl:HL h){r:List Int}(hr:r.length=32):zk (hrow h) 33 (row .u8 r)=hrow { h with root:=r }:=by
 have e:∀ (c:HdT),hrow c=(V.sc (.int .u32 c.ver)::row .u8 c.prev)++(row .u8 c.root++[V.sc (.int .u32 c.tm),V.sc (.int .u32 c.bits),V.sc (.int .u32 c.nonce)]):=fun c=>by simp [hrow]
 rw [e,e]
 have l:(V.sc (.int .u32 h.ver)::row .u8 h.prev).length=33:=by simp [xr,hl.p]
 rw [← l]
 exact zYM _ _ _ _ (by rw [xr,xr,hr,hl.r])
theorem zxL(c:HdT):hrow c=(V.sc (.int .u32 c.ver)::(row .u8 c.prev++row .u8 c.root))++[V.sc (.int .u32 c.tm),V.sc (.int .u32 c.bits),V.sc (.int .u32 c.nonce)]:=by simp [hrow]
theorem zS5{h:HdT}(hl:HL h):(V.sc (.int .u32 h.ver)::(row .u8 h.prev++row .u8 h.root)).length=65:=by simp [xr,hl.p,hl.r]
theorem zMR(A B x:List V)(j:Nat):zk (A++B) (A.length+j) x=A++zk B j x:=by
 unfold zk
 rw [List.take_append,XE (by omega),show A.length+j-A.length=j by omega,List.drop_append,WK (by omega),show A.length+j+x.length-A.length=j+x.length by omega]
 simp [Wu]
theorem z6u{h:HdT}(hl:HL h)(x:Int):zk (hrow h) 65 [V.sc (.int .u32 x)]=hrow { h with tm:=x }:=by
 rw [zxL,zxL,show 65=(V.sc (.int .u32 h.ver)::(row .u8 h.prev++row .u8 h.root)).length+0 by rw [zS5 hl],zMR]; rfl
theorem z61{h:HdT}(hl:HL h)(x:Int):zk (hrow h) 66 [V.sc (.int .u32 x)]=hrow { h with bits:=x }:=by
 rw [zxL,zxL,show 66=(V.sc (.int .u32 h.ver)::(row .u8 h.prev++row .u8 h.root)).length+1 by rw [zS5 hl],zMR]; rfl
theorem z6n{h:HdT}(hl:HL h)(x:Int):zk (hrow h) 67 [V.sc (.int .u32 x)]=hrow { h with nonce:=x }:=by
 rw [zxL,zxL,show 67=(V.sc (.int .u32 h.ver)::(row .u8 h.prev++row .u8 h.root)).length+2 by rw [zS5 hl],zMR]; rfl
theorem zWW{h:HdT}(hl:HL h)(g:HdT)(hg:HL g):zk (hrow g) 0 (hrow h)=hrow h:=zc3 (by rw [hl.len,hg.len])
theorem zHL(v:Int):HL { zHd with ver:=v }:=⟨rfl,rfl⟩
def zp8(j:List Int)(a:Nat):List Int:=(j.drop a).take 32
def zLD(j:List Int):HdT:=⟨(le j 0 4:Nat),zp8 j 4,zp8 j 36,(le j 68 4:Nat),(le j 72 4:Nat),(le j 76 4:Nat)⟩
theorem zcD{j:List Int}{a:Nat}(h:a+32≤j.length):(zp8 j a).length=32:=by unfold zp8; rw [Ww,XS]; omega
theorem zGh{j:List Int}{a:Nat}(h:a+32≤j.length):zQV j a=.ok (zp8 j a,a+32):=by unfold zQV zp8; rw [if_pos h]
theorem z9m(k:List V→Int→Option β):(lt ([(Qc (0:Int))]++We 64 (Qa (0:Int))++[(Qc (0:Int)),(Qc (0:Int)),(Qc (0:Int))]) fun r0=>chk (0=0∧(XK r0)=68∧68≠0) (k r0 8))=k (hrow zHd) 8:=by
 rw [yt,zXv,yf (by rw [(zHL 0).len]; simp)]; rfl
theorem r68{h:HdT}(hl:HL h):XL 68 (hrow h)=hrow h:=XE (by rw [hl.len]; omega)
theorem z9t{h:HdT}(hl:HL h)(k:List V→Option β):chk (0+68≤(XK (hrow h))) (chk ((XK (XL 68 (hrow h)))=68∧0+68≤68) (lt (zk ([(Qc (0:Int))]++We 64 (Qa (0:Int))++[(Qc (0:Int)),(Qc (0:Int)),(Qc (0:Int))]) 0 (XL 68 (hrow h))) fun r25=>chk (0=0∧(XK r25)=68∧68≠0) (k r25)))=k (hrow h):=by
 rw [yf (by rw [hl.len]; omega),r68 hl,yf ⟨hl.len,by omega⟩,yt,zXv,zWW hl _ (zHL 0),yf (by rw [hl.len]; simp)]
theorem z25{L:Nat}(hL:20≤L){j:List Int}(hb:Byt j)(hj:j.length≤100000000)(k:List V→Int→Option β):zM β L (yq .u8 j) k=if j.length=80 then k (hrow (zLD j)) 0 else k (hrow zHd) 8:=by
 unfold zM zl6
 by_cases h:j.length=80
 ·have hl1:HL (zLD j):=⟨zcD (by omega),zcD (by omega)⟩
  rw [zF,if_pos h,h,show ((((80:Nat)):Int) != (80:Int))=false from rfl,zeY]
  refine (zUF (a:=0) hL hb hj (by omega) _).trans ?_
  rw [if_pos (by omega),yt]
  refine (z4z (a:=4) hL hj (by omega) _).trans ?_
  rw [zGh (by omega),zQR,zXv,yf ⟨by rw [xr,zcD (by omega)],by rw [(zHL _).len]; omega⟩,yt,z7n (zHL _) (zcD (by omega))]
  refine (z4z (a:=36) hL hj (by omega) _).trans ?_
  have h2:∀ v,HL { zHd with ver:=v,prev:=zp8 j 4 }:=fun v=>⟨zcD (by omega),rfl⟩
  rw [zGh (by omega),zQR,yf ⟨by rw [xr,zcD (by omega)],by rw [(h2 _).len]; omega⟩,yt,z7w (h2 _) (zcD (by omega))]
  have h3:∀ v t b n,HL ⟨v,zp8 j 4,zp8 j 36,t,b,n⟩:=fun v t b n=>⟨zcD (by omega),zcD (by omega)⟩
  refine (zUF (a:=68) hL hb hj (by omega) _).trans ?_
  rw [if_pos (by omega),yf ⟨rfl,by rw [(h3 _ _ _ _).len]; omega⟩,yt,z6u (h3 _ _ _ _)]
  refine (zUF (a:=72) hL hb hj (by omega) _).trans ?_
  rw [if_pos (by omega),yf ⟨rfl,by rw [(h3 _ _ _ _).len]; omega⟩,yt,z61 (h3 _ _ _ _)]
  refine (zUF (a:=76) hL hb hj (by omega) _).trans ?_
  rw [if_pos (by omega),yf ⟨rfl,by rw [(h3 _ _ _ _).len]; omega⟩,yt,z6n (h3 _ _ _ _)]
  exact z9t hl1 fun r=>k r 0
 ·rw [zF,if_neg h,zlv,if_neg (by omega)]
  exact z9m k
theorem yaI{L:Nat}(hL:20≤L){j:List Int}(hb:Byt j)(hj:j.length≤100000000)(h:80≤j.length)(k:List V→Option β):zaO β L (yq .u8 j) k=k (hrow (zLD j)):=by
 unfold zaO zxk
 have hl1:HL (zLD j):=⟨zcD (by omega),zcD (by omega)⟩
 refine (zQ2 (a:=0) hL hb hj (by omega) _).trans ?_
 rw [if_pos (by omega),yt]
 refine (z0L (a:=4) hL hj (by omega) _).trans ?_
 rw [zGh (by omega),zQR,zXv,yf ⟨by rw [xr,zcD (by omega)],by rw [(zHL _).len]; omega⟩,yt,z7n (zHL _) (zcD (by omega))]
 refine (z0L (a:=36) hL hj (by omega) _).trans ?_
 have h2:∀ v,HL { zHd with ver:=v,prev:=zp8 j 4 }:=fun v=>⟨zcD (by omega),rfl⟩
 rw [zGh (by omega),zQR,yf ⟨by rw [xr,zcD (by omega)],by rw [(h2 _).len]; omega⟩,yt,z7w (h2 _) (zcD (by omega))]
 have h3:∀ v t b n,HL ⟨v,zp8 j 4,zp8 j 36,t,b,n⟩:=fun v t b n=>⟨zcD (by omega),zcD (by omega)⟩
 refine (zQ2 (a:=68) hL hb hj (by omega) _).trans ?_
 rw [if_pos (by omega),yf ⟨rfl,by rw [(h3 _ _ _ _).len]; omega⟩,yt,z6u (h3 _ _ _ _)]
 refine (zQ2 (a:=72) hL hb hj (by omega) _).trans ?_
 rw [if_pos (by omega),yf ⟨rfl,by rw [(h3 _ _ _ _).len]; omega⟩,yt,z61 (h3 _ _ _ _)]
 refine (zQ2 (a:=76) hL hb hj (by omega) _).trans ?_
 rw [if_pos (by omega),yf ⟨rfl,by rw [(h3 _ _ _ _).len]; omega⟩,yt,z6n (h3 _ _ _ _)]
 exact z9t hl1 k
theorem z6x{L:Nat}(hL:20≤L){j:List Int}(hb:Byt j)(hj:j.length≤100000000)(k:List V→Int→Option β):zT β L (yq .u8 j) k=if j.length=80 then k (hrow (zLD j)) 0 else k (hrow zHd) 8:=by
 unfold zT zl3
 by_cases h:j.length=80
 ·have hl1:HL (zLD j):=⟨zcD (by omega),zcD (by omega)⟩
  rw [zF,if_pos h,h,show ((((80:Nat)):Int) != (80:Int))=false from rfl,zeY,yaI hL hb hj (by omega),yf ⟨hl1.len,by omega⟩,yt,zXv,zWW hl1 _ (zHL 0),yf (by rw [hl1.len]; simp)]
 ·rw [zF,if_neg h,zlv,if_neg (by omega)]
  exact z9m k
theorem z0X:∀ {l:List V},(∀ v∈l,∃ k n,v=V.sc (.int k n))→zgs l l=some true
 | [],_=>rfl
 | v::l,h=>by
  obtain ⟨k,n,rfl⟩:=h v (by simp)
  simp only [zgs,if_true,z0X (l:=l) (fun x hx=>h x (by simp [hx])),QN,beq_self_eq_true,Bool.and_self]
theorem z6h{k:IntKind}{l:List Int}:∀ v∈row k l,∃ k n,v=V.sc (.int k n):=fun v hv=>by
 obtain ⟨n,_,rfl⟩:=Xy.1 hv
 exact ⟨_,_,rfl⟩
theorem z9F(h:HdT):∀ v∈hrow h,∃ k n,v=V.sc (.int k n):=fun v hv=>by
 simp only [hrow,Q9,QD,List.not_mem_nil,or_false] at hv
 rcases hv with rfl | hv | hv | rfl | rfl | rfl
 ·exact ⟨_,_,rfl⟩
 ·exact z6h v hv
 ·exact z6h v hv
 ·exact ⟨_,_,rfl⟩
 ·exact ⟨_,_,rfl⟩
 ·exact ⟨_,_,rfl⟩
theorem z1X{h:HdT}(hl:HL h)(k:Bool→Option β):eqC 68 (hrow h) (hrow h) k=k true:=by
 simp only [eqC,hl.len,and_self,zsE,z0X (z9F h)]
theorem z9Y{h:HdT}(ho:HdOk h):zLD (hdB h)=h:=by
 obtain ⟨v,hv⟩:=XY ho.ver.1
 obtain ⟨t,ht⟩:=XY ho.tm.1
 obtain ⟨b,hb⟩:=XY ho.bits.1
 obtain ⟨n,hn⟩:=XY ho.nonce.1
 have bv:=ho.ver.2
 have bt:=ho.tm.2
 have bb:=ho.bits.2
 have bn:=ho.nonce.2
 have e:hdB h=leB v 4++(h.prev++(h.root++(leB t 4++(leB b 4++leB n 4)))):=by
  simp only [hdB,hv,ht,hb,hn,Wu]
  rw [zQ8 (n:=v) (by omega),zQ8 (n:=t) (by omega),zQ8 (n:=b) (by omega),zQ8 (n:=n) (by omega)]
 have d0:(hdB h).drop 0=leB v 4++(h.prev++(h.root++(leB t 4++(leB b 4++leB n 4)))):=e
 have d1:(hdB h).drop 4=h.prev++(h.root++(leB t 4++(leB b 4++leB n 4))):=by rw [e]; exact Yj (zQM _ _)
 have d2:(hdB h).drop 36=h.root++(leB t 4++(leB b 4++leB n 4)):=by rw [show 36=4+32 from rfl,← WO,d1]; exact Yj ho.pl
 have d3:(hdB h).drop 68=leB t 4++(leB b 4++leB n 4):=by rw [show 68=36+32 from rfl,← WO,d2]; exact Yj ho.rl
 have d4:(hdB h).drop 72=leB b 4++leB n 4:=by rw [show 72=68+4 from rfl,← WO,d3]; exact Yj (zQM _ _)
 have d5:(hdB h).drop 76=leB n 4++[]:=by rw [show 76=72+4 from rfl,← WO,d4,List.append_nil]; exact Yj (zQM _ _)
 have p4:(256:Nat) ^ 4=4294967296:=by decide
 obtain ⟨ver,prev,root,tm,bits,nonce⟩:=h
 simp only at hv ht hb hn bv bt bb bn d0 d1 d2 d3 d4 d5
 unfold zLD zp8
 rw [zUO 4 v 0 (by omega) d0,zUO 4 t 68 (by omega) d3,zUO 4 b 72 (by omega) d4,zUO 4 n 76 (by omega) d5,d1,d2,Yl ho.pl,Yl ho.rl,← hv,← ht,← hb,← hn]
theorem zKC{a b:List Int}(ha:Byt a)(hb:Byt b):Byt (a++b):=fun x hx=>by
 rcases QD.1 hx with h | h
 ·exact ha x h
 ·exact hb x h
theorem zME(n:Int):Byt (zsN n):=zmp _ _
theorem zX3{h:HdT}(ho:HdOk h):Byt (hdB h):=zKC (zKC (zKC (zKC (zKC (zME _) ho.pb) ho.rb) (zME _)) (zME _)) (zME _)
theorem z7y{h:List Int}(hh:h.length=32)(k:List V→Option β):chk ((XK (row .u8 h))=32∧0+32≤32) (lt (zk (We 32 (Qa (0:Int))) 0 (row .u8 h)) fun r2=>chk (0=0∧(XK r2)=32∧32≠0) (k r2))=k (row .u8 h):=by
 rw [yf ⟨by rw [xr,hh],by omega⟩,yt,zu2 hh,yf (by rw [xr,hh]; simp)]
theorem c68{h:HdT}(hl:HL h)(k:Option β):chk (0+68≤(XK (hrow h))) k=k:=yf (by rw [hl.len]; omega) k
theorem ybG{L:Nat}(hL:4000≤L){h:HdT}(ho:HdOk h)(k:List V→Option β):za5 β L (hrow h) k=k (row .u8 (zIF (hdB h))):=by
 have hl:HL h:=⟨ho.pl,ho.rl⟩
 unfold za5 zE7
 rw [c68 hl,r68 hl,zHF (by omega) ho,zOC (by rw [znc ho]; omega) (by rw [znc ho]; omega) (zX3 ho)]
 exact z7y (zs1 _) k
theorem ybW{L:Nat}(hL:4000≤L){h:HdT}(ho:HdOk h)(k:List V→Option β):za4 β L (hrow h) k=k (row .u8 (zIF (hdB h))):=by
 have hl:HL h:=⟨ho.pl,ho.rl⟩
 unfold za4 zEL
 rw [c68 hl,r68 hl,zMb (by omega) ho,zLZ (by rw [znc ho]; omega) (by rw [znc ho]; omega) (zX3 ho)]
 exact z7y (zs1 _) k
end
section
open Go.ChangeShapes Go.WideShapes Go.ChangeAt Go.RowKit
theorem zYZ{H:Type}{enc:TypeId × Value→H}{P:Program}{w:World}{base:Nat}{spare:Nat→Bool}{held:Bool}{fuel n:Nat}{t e:TypeId}{k:IntKind}{cs:List Value}{d:DataW H}{p:List MemPlace}(ht:P.underlying t=some (.array n e))(he:P.underlying e=some (.int k))(hc:P.cellsOf e=1)
  (ns:List Int) (hd:d=.agg (ns.map fun x=>.lit (.int k x))) (h:DataW.trod enc P w base spare held fuel t cs=some (d,p)) {i:Nat} (hi:i<n):cs[i]?=some (.int k (ns.getD i 0)):=by
 obtain ⟨xs,m,_,hx,_,hlen,hel⟩:=DataW.trod_array ht h
 have h1:=hel i hi
 rw [hc,Nat.mul_one] at h1
 have hxi:xs[i]?=some (xs[i]'(by omega)):=Wc _
 rw [hxi] at h1
 obtain ⟨v,e1,e2,_⟩:=DataW.trod_int he h1
 simp only [Prod.mk.injEq] at hx
 have h2:d=.agg (xs.map (·.1)):=hx.1
 rw [hd] at h2
 have h3:ns.map (fun x=>DataW.lit (H:=H) (.int k x))=xs.map (·.1):=by injection h2
 have h4:=congrArg (fun l=>l[i]?) h3
 simp only [List.getElem?_map,hxi,QN,e2] at h4
 have h5:ns[i]?=some v:=by
  cases hq:ns[i]? with
  | none=>rw [hq] at h4; cases h4
  | some q=>
   rw [hq] at h4
   simp only [QN,Option.some.injEq] at h4
   injection h4 with h6
   injection h6 with _ h7
   rw [h7]
 rw [Ws,h5]
 have h8:=congrArg (fun l=>l[0]?) e1
 simp only [List.getElem?_take,List.getElem?_drop] at h8
 simpa using h8
theorem z0V{k:IntKind}{ns:List Int}{i:Nat}{v:V}(h:(row k ns)[i]?=some v):i<ns.length∧v=.sc (.int k (ns.getD i 0)):=by
 unfold row at h
 rw [List.getElem?_map] at h
 cases hq:ns[i]? with
 | none=>rw [hq] at h; cases h
 | some q=>
  rw [hq] at h
  obtain ⟨hi,_⟩:=List.getElem?_eq_some_iff.1 hq
  refine ⟨hi,?_⟩
  rw [Ws,hq]
  simpa using h.symm
def zFQ{H:Type}:List (String × DataW H):=[("lightclient/sha.k",Rows.laid_lightclient_sha_k),("lightclient/sha.initial",Rows.laid_lightclient_sha_initial)]
theorem gK:Tryz.prog.globalNamed "lightclient/sha.k"=some 1:=by kernel_rfl
theorem gI:Tryz.prog.globalNamed "lightclient/sha.initial"=some 0:=by kernel_rfl
theorem tK:(Tryz.prog.globals[1]?).map (·.type)=some 230:=by kernel_rfl
theorem tI:(Tryz.prog.globals[0]?).map (·.type)=some 206:=by kernel_rfl
theorem z35{W:World}(h:laidMetH Tryz.prog zFQ W):GV (zcK fg gls) W znY:=by
 rw [MakeChecks.laidMetH_plain _ _ _ (by kernel_rfl)] at h
 obtain ⟨ps,⟨g0,t0,cs0,f0,p0,q0,hg0,ht0,hv0,hd0,⟨g1,t1,cs1,f1,p1,q1,hg1,ht1,hv1,hd1,_,_⟩,_⟩,_,_⟩:=h
 obtain rfl:=QV (gK.symm.trans hg0)
 obtain rfl:=QV (gI.symm.trans hg1)
 obtain rfl:=QV (tK.symm.trans ht0)
 obtain rfl:=QV (tI.symm.trans ht1)
 have eu:Tryz.prog.underlying 22=some (.int .u32):=by kernel_rfl
 have ec:Tryz.prog.cellsOf 22=1:=by kernel_rfl
 have ek:Tryz.prog.underlying 230=some (.array 64 22):=by kernel_rfl
 have ei:Tryz.prog.underlying 206=some (.array 8 22):=by kernel_rfl
 have dk:(Rows.laid_lightclient_sha_k:DataW Unit)=.agg (kc.map fun x=>.lit (.int .u32 x)):=rfl
 have di:(Rows.laid_lightclient_sha_initial:DataW Unit)=.agg (init0.map fun x=>.lit (.int .u32 x)):=rfl
 intro g cs hg i v hv
 have hg':(gls.find? (fun e=>e.1==g)).map (·.2)=some cs:=hg
 by_cases hk:g=1
 ·subst hk
  obtain rfl:gk_sha_k=cs:=QV ((show (gls.find? (fun e=>e.1==1)).map (·.2)=some gk_sha_k from rfl).symm.trans hg')
  obtain ⟨hi,rfl⟩:=z0V (k:=.u32) (ns:=kc) hv
  refine ⟨_,rfl,rfl,fun hw=>hw,?_⟩
  rw [World.var?_cell gK hv0 i,W5.symm]
  exact zYZ ek eu ec kc dk hd0 hi
 ·by_cases hk2:g=0
  ·subst hk2
   obtain rfl:gk_sha_initial=cs:=QV ((show (gls.find? (fun e=>e.1==0)).map (·.2)=some gk_sha_initial from rfl).symm.trans hg')
   obtain ⟨hi,rfl⟩:=z0V (k:=.u32) (ns:=init0) hv
   refine ⟨_,rfl,rfl,fun hw=>hw,?_⟩
   rw [World.var?_cell gI hv1 i,W5.symm]
   exact zYZ ei eu ec init0 di hd1 hi
  ·exfalso
   have e:gls=[(0,gk_sha_initial),(1,gk_sha_k)]:=rfl
   rw [e] at hg'
   simp only [List.find?_cons,List.find?_nil,beq_eq_false_iff_ne.2 (Ne.symm hk),beq_eq_false_iff_ne.2 (Ne.symm hk2)] at hg'
   cases hg'
theorem z16(os:Os)(args:Array Value):laidMetH Tryz.prog zFQ ((World.doorLaid Tryz.prog 400 os).forCall (fun _ _=>0) ⟨#[],args,[]⟩).memory:=
 laidMetH_of_parts3 (fuel:=8) (laidMet_of_run' 8 (by kernel_rfl) (by kernel_rfl)) (by kernel_rfl) (by kernel_rfl)
end
section
theorem xW{a b:Bool}(ha:a=true)(hb:b=true):(a&&b)=true:=by rw [ha,hb]; rfl
theorem z30:laidOutB Tryz.prog=true:=by kernel_rfl
theorem z4A:mapsRowed Tryz.prog=true:=by kernel_rfl
theorem z20:(Tryz.prog.stops==[])=true:=by kernel_rfl
theorem z1N:(Tryz.prog.stopKnobs==[])=true:=by kernel_rfl
theorem z1q:Tryz.prog.stopsHeard=true:=by kernel_rfl
theorem z1o:Tryz.prog.mayEnter=true:=by kernel_rfl
theorem z1l:(false==Tryz.prog.liftsFinal)=true:=by kernel_rfl
theorem z4K:(false==Tryz.prog.plainKeys)=true:=by kernel_rfl
end
section
theorem z9D{β:Type}{h:HdT}(hl:HL h)(k:List V→Option β):chk ((XK (hrow h))=68∧0+68≤68) (lt (zk ([(Qc (0:Int))]++We 64 (Qa (0:Int))++[(Qc (0:Int)),(Qc (0:Int)),(Qc (0:Int))]) 0 (hrow h)) k)=k (hrow h):=by
 rw [yf ⟨hl.len,by omega⟩,yt,zXv,zWW hl _ (zHL 0)]
theorem zQh(a0:List V)(a1:Ls)(wf0:HasRow ([.int .u32]++We 64 (.int .u8)++We 3 (.int .u32)) a0)(hl1:a1.length≤maxLen)(wf1:∀ e∈a1,HasRow [.int .u8] e) :
  ∃ L,∀ k:Bool→Option Bool,zb8 Bool L a0 a1 k=k true:=by
 obtain ⟨h,rfl,ho⟩:=z6z wf0
 obtain ⟨j,rfl,hj⟩:=zQS wf1
 obtain ⟨L,hL⟩:∃ L,4000000≤L:=⟨4000000,Nat.le_refl _⟩
 refine ⟨L,fun k=>?_⟩
 have hb:Byt j:=ybT hj
 have hl:HL h:=⟨ho.pl,ho.rl⟩
 simp only [zb8,zmq,yR]
 rw [yf (by omega),zF]
 by_cases h2:j.length≤200
 ·rw [zG (by omega)]
  have main:∀ (g:HdT) (e:Int),HL g→zM Bool L (yq .u8 j)=(fun q=>q (hrow g) e)→zT Bool L (yq .u8 j)=(fun q=>q (hrow g) e)→(zM Bool L (yq .u8 j) fun v0 v1=>
 chk ((XK v0)=68∧0+68≤68) (
 lt (zk ([(Qc (0:Int))]++We 64 (Qa (0:Int))++[(Qc (0:Int)),(Qc (0:Int)),(Qc (0:Int))]) 0 v0) fun r2=>
 zT Bool L (yq .u8 j) (fun v3 v4=>
 chk ((XK v3)=68∧0+68≤68) (
 lt (zk ([(Qc (0:Int))]++We 64 (Qa (0:Int))++[(Qc (0:Int)),(Qc (0:Int)),(Qc (0:Int))]) 0 v3) fun r5=>
 chk (0+68≤(XK (hrow h))) (
 zg Bool L (XL 68 (hrow h)) (fun v6=>
 zM Bool L v6 (fun v7 v8=>
 chk ((XK v7)=68∧0+68≤68) (
 lt (zk ([(Qc (0:Int))]++We 64 (Qa (0:Int))++[(Qc (0:Int)),(Qc (0:Int)),(Qc (0:Int))]) 0 v7) fun r9=>
 chk (0+68≤(XK r2)) (
 chk (0+68≤(XK r5)) (
 eqC 68 (XL 68 r2) (XL 68 r5) fun v10=>
 ifb v10 (
 ifb ((v1:Int)==v4) (
 chk (0+68≤(XK r9)) (
 chk (0+68≤(XK (hrow h))) (
 eqC 68 (XL 68 r9) (XL 68 (hrow h)) fun v11=>
 ifb v11 (
 ifb ((v8:Int)==(0:Int)) (
 chk (0+68≤(XK (hrow h))) (
 za5 Bool L (XL 68 (hrow h)) (fun v12=>
 chk (0+68≤(XK (hrow h))) (
 za4 Bool L (XL 68 (hrow h)) (fun v13=>
 eqC 32 v12 v13 fun v14=>
 ifb v14 (
 chk (0+68≤(XK (hrow h))) (
 zg Bool L (XL 68 (hrow h)) (fun v15=>
 chk (0+68≤(XK (hrow h))) (
 xh Bool L (XL 68 (hrow h)) (fun v16=>
 zW Bool L v15 v16 (fun v17=>
 k v17)))))) (
 k false)))))) (
 k false)) (
 k false)))) (
 k false)) (
 k false)))))))))))=k true:=by
   intro g e hg e1 e2
   rw [e1,e2]
   simp only [z9D hg,c68 hl,r68 hl]
   rw [zHF (by omega) ho]
   have hd:∀ q:List V→Int→Option Bool,zM Bool L (yq .u8 (hdB h)) q=q (hrow h) 0:=fun q=>by
    rw [z25 (by omega) (zX3 ho) (by rw [znc ho]; omega),if_pos (znc ho),z9Y ho]
   rw [hd]
   simp only [z9D hl]
   rw [c68 hg,c68 hg,r68 hg,z1X hg,zhs,znd rfl,c68 hl,r68 hl,z1X hl,zhs,znd rfl,ybG (by omega) ho,ybW (by omega) ho,zXJ .u8 (zs1 _) (zs1 _),decide_eq_true rfl,zhs,zHF (by omega) ho,zMb (by omega) ho,zPC]
  by_cases h80:j.length=80
  ·exact main (zLD j) 0 ⟨zcD (by omega),zcD (by omega)⟩ (by funext q; rw [z25 (by omega) hb (by omega),if_pos h80]) (by funext q; rw [z6x (by omega) hb (by omega),if_pos h80])
  ·exact main zHd 8 (zHL 0) (by funext q; rw [z25 (by omega) hb (by omega),if_neg h80]) (by funext q; rw [z6x (by omega) hb (by omega),if_neg h80])
 ·rw [zI (by omega)]
end
end Go.Proofs.YtgmhijonllockaaGreatDoor
