/- TxNames: for every input the call returns true, and each argument reads afterwards as it read before. Condition: the package variables lightclient/sha.k and lightclient/sha.initial begin as the program text lays them (the card ties them to the pruned copy of the text); nothing else is asked. -/
import Derived.LaidMore
import Derived.OpenShut
import Derived.MakeChecks
import Derived.LaidLaws
import Derived.Test.YtoeobffjdbdpgaaDoorCards
import Derived.Test.YtoeobffjdbdpgaaDoorTie
import Derived.SevenTiedAt
import Derived.Stop.Joined
import Derived.Test.YtoeobffjdbdpgaaDoorMTxNames10
namespace Go.Proofs.YtoeobffjdbdpgaaDoor
section
set_option linter.unusedVariables false
set_option linter.unusedSimpArgs false
set_option maxRecDepth 100000
variable {β:Type}
def inB (x:Inp):List Int:=ptB x++zue x.seq
def zhy (o:Outp):List Int:=zAo (IntKind.wrap .u64 o.val)++bsB o.scr
def zkz (x:Inp):List Int:=szB (x.wit.length:Int)++x.wit.flatMap bsB
def ziG (t:TxT) (w:Bool):List Int:=zue t.ver++szB (t.ins.length:Int)++t.ins.flatMap inB++szB (t.outs.length:Int)++t.outs.flatMap zhy++zue t.lock++(if w then t.ins.flatMap zkz else [])
theorem zcS {α:Type} {l:List α} {f:α→List Int} {i:Nat} (h:i < l.length):(l.drop i).flatMap f=f l[i]++(l.drop (i+1)).flatMap f:=by
 rw [List.drop_eq_getElem_cons h,List.flatMap_cons]
theorem zt2 {α:Type} {f:α→List Int} {c:Nat}:∀ {l:List α},(∀ x ∈ l,(f x).length≤c)→(l.flatMap f).length≤l.length * c
 | [],_=>by simp
 | x::l,h=>by
  have h1:=h x (by simp)
  have h2:=zt2 (l:=l) (fun y hy=>h y (by simp [hy]))
  rw [List.flatMap_cons,List.length_append,List.length_cons,Nat.add_mul]; omega
theorem zyd (x:Inp):(inB x).length=40:=by simp [inB,zmT,zbe]
theorem zCj (s:List Int):(bsB s).length≤9+s.length:=by have:=zfe (s.length:Int); simp [bsB]; omega
theorem zE1 (o:Outp):(zhy o).length≤17+o.scr.length:=by have:=zCj o.scr; simp [zhy,zhe]; omega
theorem zE0 {x:Inp} (h1:x.wit.length≤40) (h2:∀ y ∈ x.wit,y.length≤600):(zkz x).length≤30000:=by
 have h3:=zt2 (f:=bsB) (c:=609) (l:=x.wit) (fun y hy=>by have:=zCj y; have:=h2 y hy; omega)
 have h4:=zfe (x.wit.length:Int)
 have h5:x.wit.length * 609≤40 * 609:=Nat.mul_le_mul_right _ h1
 simp only [zkz,List.length_append]; omega
theorem zEY (x:Outp):[V.sc (.int .i64 x.val),V.sl 1 (zq .u8 x.scr)]=zd3 x:=Eq.trans rfl rfl
theorem zF3 {L:Nat} (hL:20≤L) {x:Outp} (hs:x.scr.length≤600) (k:List (List V)→Option β):ze β L (zd3 x) k=k (zq .u8 (zhy x)):=by
 simp only [ze,zqP,zsu,zh1,zw]
 simp only [zrC,zrZ]
 rw [zeW .u8,zGo hL (by simp),zy5 hL (by simp [zhe]) (by omega)]
 simp [zhy]
theorem zBX {L:Nat} (hL:20≤L) (kx:Bool→List (List V)→List V→Option β) (l:List Inp) (hl:l.length≤1000000) (w:Bool) (b1:List V):∀ (n i:Nat) (acc:List Int),i≤l.length→l.length - i < n→acc.length+((l.drop i).flatMap inB).length≤500000000000 →
  zed ya zb ye zc yb L kx n w (zq .u8 acc) (l.map zdb) (l.length:Int) (i:Int) b1=kx w (zq .u8 (acc++(l.drop i).flatMap inB)) b1
 | 0,i,acc,h1,h2,h3=>by omega
 | n+1,i,acc,h1,h2,h3=>by
  simp only [zed,zjM,zw]
  by_cases h:i < l.length
  ·rw [zcS h] at h3
   simp only [List.length_append,zyd] at h3
   rw [zD (by omega),zbp (zk2 h)]
   rw [zgF,zfJ,ziS]
   simp only [zix,zi1,zB5,zwJ]
   rw [zFp hL,yv,yv,yh (zgA (by rw [zmT]; omega)),zaX]
   rw [zeW .u8,zxj hL (by simp),yv,yv,yh (zgA (by simp [zmT,zbe]; omega)),zaX,List.nil_append]
   rw [up (by omega),zBX hL kx l hl w b1 n (i+1) _ (by omega) (by omega) (by simp only [List.length_append,zmT,zbe]; omega),zcS h]
   simp [inB]
  ·rw [zE (by omega),List.drop_of_length_le (by omega)]
   simp
theorem zAO {L:Nat} (hL:20≤L) (kx:Bool→List (List V)→List V→Option β) (l:List Outp) (hl:l.length≤1000000) (hs:∀ x ∈ l,x.scr.length≤600) (w:Bool) (b1:List V):∀ (n i:Nat) (acc:List Int),i≤l.length→l.length - i < n→acc.length+((l.drop i).flatMap zhy).length≤500000000000 →
  zc8 ya zb ye zc yb L kx n w (zq .u8 acc) (l.map zd3) (l.length:Int) (i:Int) b1=kx w (zq .u8 (acc++(l.drop i).flatMap zhy)) b1
 | 0,i,acc,h1,h2,h3=>by omega
 | n+1,i,acc,h1,h2,h3=>by
  simp only [zc8,zhN,zw]
  by_cases h:i < l.length
  ·have h4:=hs l[i] (List.getElem_mem h)
   rw [zcS h] at h3
   simp only [List.length_append,zhy,zhe] at h3
   rw [zD (by omega),zbp (zpe h)]
   rw [zpD,zla,zpq]
   simp only [zrC,zrZ,zEY]
   rw [zeW .u8,zFh hL (by simp),yv,yv,yh (zgA (by simp [zhe]; omega)),zaX,List.nil_append,zAg hL (by simp) (by omega),yv,yv,yh (zgA (by simp [zhe]; omega)),zaX,List.nil_append]
   rw [up (by omega),zAO hL kx l hl hs w b1 n (i+1) _ (by omega) (by omega) (by simp only [List.length_append,zhe,zhy]; omega),zcS h]
   simp [zhy]
  ·rw [zE (by omega),List.drop_of_length_le (by omega)]
   simp
theorem zy1 {L:Nat} (hL:20≤L) (kx:List (List V)→List (List V)→Int→Int→Option β) (wt:List (List Int)) (hw:wt.length≤1000000) (hs:∀ y ∈ wt,y.length≤600) (p77:List (List V)) (p78 p79:Int):∀ (n i:Nat) (acc:List Int),i≤wt.length→wt.length - i < n→acc.length+((wt.drop i).flatMap bsB).length≤500000000000 →
  zal ya zb ye zc yb L kx n (zq .u8 acc) p77 p78 p79 (zgM wt) (wt.length:Int) (i:Int)=kx (zq .u8 (acc++(wt.drop i).flatMap bsB)) p77 p78 p79
 | 0,i,acc,h1,h2,h3=>by omega
 | n+1,i,acc,h1,h2,h3=>by
  simp only [zal,zcw,zw]
  by_cases h:i < wt.length
  ·have h4:=hs wt[i] (List.getElem_mem h)
   rw [zcS h] at h3
   simp only [List.length_append] at h3
   rw [zD (by omega),zbp (znt h),zmF rfl]
   rw [zeW .u8,zAg hL (by simp) (by omega),List.nil_append,yv,yv,yh (zgA (by omega)),zaX]
   rw [up (by omega),zy1 hL kx wt hw hs p77 p78 p79 n (i+1) _ (by omega) (by omega) (by simp only [List.length_append]; omega),zcS h]
   simp
  ·rw [zE (by omega),List.drop_of_length_le (by omega)]
   simp
theorem zBR {L:Nat} (hL:20≤L) (kx:Bool→List (List V)→List V→Option β) (l:List Inp) (hl:l.length≤1000000) (w:Bool) (b1:List V):∀ (n i:Nat) (acc:List Int),i≤l.length→l.length - i < n→acc.length+((l.drop i).flatMap inB).length≤500000000000 →
  zcJ xb xa xc ze za L kx n w (zq .u8 acc) (l.map zdb) (l.length:Int) (i:Int) b1=kx w (zq .u8 (acc++(l.drop i).flatMap inB)) b1
 | 0,i,acc,h1,h2,h3=>by omega
 | n+1,i,acc,h1,h2,h3=>by
  simp only [zcJ,zgV,zw]
  by_cases h:i < l.length
  ·rw [zcS h] at h3
   simp only [List.length_append,zyd] at h3
   rw [zD (by omega),zbp (zk2 h)]
   rw [zgF,zfJ,ziS]
   simp only [zix,zi1,zB5,zwJ]
   rw [zEA hL,yv,yv,yh (zgA (by rw [zmT]; omega)),zaX]
   rw [zxM hL (by simp only [List.length_append,zmT]; omega)]
   rw [up (by omega),zBR hL kx l hl w b1 n (i+1) _ (by omega) (by omega) (by simp only [List.length_append,zmT,zbe]; omega),zcS h]
   simp [inB]
  ·rw [zE (by omega),List.drop_of_length_le (by omega)]
   simp
theorem zAx {L:Nat} (hL:20≤L) (kx:Bool→List (List V)→List V→Option β) (l:List Outp) (hl:l.length≤1000000) (hs:∀ x ∈ l,x.scr.length≤600) (w:Bool) (b1:List V):∀ (n i:Nat) (acc:List Int),i≤l.length→l.length - i < n→acc.length+((l.drop i).flatMap zhy).length≤500000000000 →
  zb8 xb xa xc ze za L kx n w (zq .u8 acc) (l.map zd3) (l.length:Int) (i:Int) b1=kx w (zq .u8 (acc++(l.drop i).flatMap zhy)) b1
 | 0,i,acc,h1,h2,h3=>by omega
 | n+1,i,acc,h1,h2,h3=>by
  simp only [zb8,zf1,zw]
  by_cases h:i < l.length
  ·have h4:=hs l[i] (List.getElem_mem h)
   rw [zcS h] at h3
   simp only [List.length_append,zhy,zhe] at h3
   rw [zD (by omega),zbp (zpe h)]
   rw [zpD,zla,zpq]
   simp only [zEo,zEF]
   rw [zF3 hL h4,yv,yv,yh (zgA (by simp only [zhy,List.length_append,zhe]; omega)),zaX]
   rw [up (by omega),zAx hL kx l hl hs w b1 n (i+1) _ (by omega) (by omega) (by simp only [List.length_append,zhe,zhy]; omega),zcS h]
   simp [zhy]
  ·rw [zE (by omega),List.drop_of_length_le (by omega)]
   simp
theorem zy2 {L:Nat} (hL:20≤L) (kx:Bool→List (List V)→List (List V)→Int→Int→Option β) (wt:List (List Int)) (hw:wt.length≤1000000) (hs:∀ y ∈ wt,y.length≤600) (w:Bool) (p77:List (List V)) (p78 p79:Int):∀ (n i:Nat) (acc:List Int),i≤wt.length→wt.length - i < n→acc.length+((wt.drop i).flatMap bsB).length≤500000000000 →
  xY xb xa xc ze za L kx n w (zq .u8 acc) p77 p78 p79 (zgM wt) (wt.length:Int) (i:Int)=kx w (zq .u8 (acc++(wt.drop i).flatMap bsB)) p77 p78 p79
 | 0,i,acc,h1,h2,h3=>by omega
 | n+1,i,acc,h1,h2,h3=>by
  simp only [xY,zbK,zw]
  by_cases h:i < wt.length
  ·have h4:=hs wt[i] (List.getElem_mem h)
   rw [zcS h] at h3
   simp only [List.length_append] at h3
   rw [zD (by omega),zbp (znt h),zmF rfl]
   rw [zy5 hL (by omega) (by omega)]
   rw [up (by omega),zy2 hL kx wt hw hs w p77 p78 p79 n (i+1) _ (by omega) (by omega) (by simp only [List.length_append]; omega),zcS h]
   simp
  ·rw [zE (by omega),List.drop_of_length_le (by omega)]
   simp
end
section
set_option linter.unusedVariables false
set_option linter.unusedSimpArgs false
set_option maxRecDepth 100000
variable {β:Type}
theorem zGr (a b:Option β):ifb (!true) a b=b:=rfl
theorem zF9 (a b:Option β):ifb (!false) a b=a:=rfl
theorem zBj {L:Nat} (hL:2000≤L) (kx:List (List V)→Option β) (l:List Inp) (hl:l.length≤1000000) (hw:∀ x ∈ l,x.wit.length≤40) (hs:∀ x ∈ l,∀ y ∈ x.wit,y.length≤600):∀ (n i:Nat) (acc:List Int),i≤l.length→l.length - i < n→acc.length+((l.drop i).flatMap zkz).length≤400000000000 →
  zb5 ya zb ye zc yb L kx n (zq .u8 acc) (l.map zdb) (l.length:Int) (i:Int)=kx (zq .u8 (acc++(l.drop i).flatMap zkz))
 | 0,i,acc,h1,h2,h3=>by omega
 | n+1,i,acc,h1,h2,h3=>by
  simp only [zb5,zc2,zfU,zw]
  by_cases h:i < l.length
  ·have h4:=hw l[i] (List.getElem_mem h)
   have h5:=hs l[i] (List.getElem_mem h)
   have h6:=zfe (l[i].wit.length:Int)
   rw [zcS h] at h3
   simp only [List.length_append,zkz] at h3
   rw [zD (by omega),zbp (zk2 h)]
   rw [zgF,zfJ,ziS]
   simp only [zix,zi1,znR]
   rw [zaZ (by omega) (by omega),zeW .u8,zu4 (by omega) (by simp) (by omega),List.nil_append,yv,yv,yh (zgA (by omega)),zaX]
   rw [show ((0:Int))=((0:Nat):Int) from rfl,zy1 (by omega) _ _ (by omega) h5 _ _ _ L 0 _ (by omega) (by omega) (by simp only [List.drop_zero,List.length_append]; omega)]
   simp only [zb6,zw,List.drop_zero]
   rw [up (by omega),zBj hL kx l hl hw hs n (i+1) _ (by omega) (by omega) (by simp only [List.length_append,zkz]; omega),zcS h]
   simp [zkz]
  ·rw [zE (by omega),List.drop_of_length_le (by omega)]
   simp
theorem zEu {L:Nat} (hL:2000≤L) (kx:List (List V)→Option β) (l:List Inp) (hl:l.length≤1000000) (hw:∀ x ∈ l,x.wit.length≤40) (hs:∀ x ∈ l,∀ y ∈ x.wit,y.length≤600):∀ (n i:Nat) (acc:List Int),i≤l.length→l.length - i < n→acc.length+((l.drop i).flatMap zkz).length≤400000000000 →
  yT xb xa xc ze za L kx n true (zq .u8 acc) (l.map zdb) (l.length:Int) (i:Int)=kx (zq .u8 (acc++(l.drop i).flatMap zkz)):=by
 intro n
 induction n with
 | zero=>intro i acc h1 h2 h3; omega
 | succ n ih =>
  intro i acc h1 h2 h3
  simp only [yT,zbf,zcC,zw]
  by_cases h:i < l.length
  ·have h4:=hw l[i] (List.getElem_mem h)
   have h5:=hs l[i] (List.getElem_mem h)
   have h6:=zfe (l[i].wit.length:Int)
   rw [zcS h] at h3
   simp only [List.length_append,zkz] at h3
   rw [zD (by omega),zbp (zk2 h)]
   rw [zgF,zfJ,ziS]
   simp only [zix,zi1,znR]
   rw [zGr]
   rw [zaZ (by omega) (by omega),zs4 (by omega) (by omega) (by omega)]
   rw [show ((0:Int))=((0:Nat):Int) from rfl,zy2 (by omega) _ _ (by omega) h5 _ _ _ _ L 0 _ (by omega) (by omega) (by simp only [List.drop_zero,List.length_append]; omega)]
   simp only [zbs,zw,List.drop_zero]
   rw [up (by omega),ih (i+1) _ (by omega) (by omega) (by simp only [List.length_append,zkz]; omega),zcS h]
   simp [zkz]
  ·rw [zE (by omega),List.drop_of_length_le (by omega)]
   simp
theorem zFa {L:Nat} (hL:0 < L) (kx:List (List V)→Option β) (l:List Inp) (p5:List (List V)) :
  yT xb xa xc ze za L kx L false p5 (l.map zdb) (l.length:Int) ((0:Nat):Int)=kx p5:=by
 have key:∀ (n:Nat),0 < n→yT xb xa xc ze za L kx n false p5 (l.map zdb) (l.length:Int) ((0:Nat):Int)=kx p5:=by
  intro n hn
  obtain ⟨m,rfl⟩:∃ m,n=m+1:=⟨n - 1,by omega⟩
  simp only [yT,zbf,zcC,zw]
  by_cases h:0 < l.length
  ·rw [zD (by omega),zbp (zk2 h)]
   rw [zgF,zfJ,ziS]
   simp only [zix,zi1]
   rw [zF9]
  ·rw [zE (by omega)]
 exact key L hL
structure Lens (t:TxT):Prop where
 a:(t.ins.flatMap inB).length≤70 * 40
 b:(t.outs.flatMap zhy).length≤70 * 617
 c:(t.ins.flatMap zkz).length≤70 * 30000
theorem KeptP.lens {t:TxT} (h:KeptP t):Lens t:=by
 have hi:=h.ni
 have ho:=h.no
 have h1:=zt2 (f:=inB) (c:=40) (l:=t.ins) (fun x _=>by rw [zyd]; omega)
 have h2:=zt2 (f:=zhy) (c:=617) (l:=t.outs) (fun x hx=>by have:=zE1 x; have:=h.sl x hx; omega)
 have h3:=zt2 (f:=zkz) (c:=30000) (l:=t.ins) (fun x hx=>zE0 (h.wl x hx) (h.wi x hx))
 have e1:t.ins.length * 40≤70 * 40:=Nat.mul_le_mul_right _ hi
 have e2:t.outs.length * 617≤70 * 617:=Nat.mul_le_mul_right _ ho
 have e3:t.ins.length * 30000≤70 * 30000:=Nat.mul_le_mul_right _ hi
 exact ⟨by omega,by omega,by omega⟩
theorem zqi {L:Nat} (hL:2000≤L) {t:TxT} (h:KeptP t) (w:Bool) (k:List (List V)→Option β):yd β L (zd1 t) w k=k (zq .u8 (ziG t w)):=by
 obtain ⟨q1,q2,q3⟩:=h.lens
 have hi:=h.ni
 have ho:=h.no
 have s1:=zfe (t.ins.length:Int)
 have s2:=zfe (t.outs.length:Int)
 simp only [yd,zno,zqQ,ziQ,zh1,zw]
 simp only [zde,zcQ,zmS,zgu,List.length_map]
 rw [zeW .u8,zxj (by omega) (by simp),zaZ (by omega) (by omega),zu4 (by omega) (by simp) (by omega),yv,yv,List.nil_append,List.nil_append,yh (zgA (by rw [zbe]; omega)),zaX]
 rw [show ((0:Int))=((0:Nat):Int) from rfl,zBX (by omega) _ _ (by omega) _ _ L 0 _ (by omega) (by omega) (by simp only [List.drop_zero,List.length_append,zbe]; omega)]
 simp only [zel,zhK,zw,zde,zcQ,zgu,List.length_map,List.drop_zero]
 rw [zeW .u8,zaZ (by omega) (by omega),zu4 (by omega) (by simp) (by omega),yv,yv,List.nil_append,yh (zgA (by simp only [List.length_append,zbe]; omega)),zaX]
 rw [show ((0:Int))=((0:Nat):Int) from rfl,zAO (by omega) _ _ (by omega) h.sl _ _ L 0 _ (by omega) (by omega) (by simp only [List.drop_zero,List.length_append,zbe]; omega)]
 simp only [zdo,zgo,zw,zde,zcQ,zgu,List.length_map,List.drop_zero]
 rw [zeW .u8,zxj (by omega) (by simp),yv,yv,List.nil_append,yh (zgA (by simp only [List.length_append,zbe]; omega)),zaX]
 cases w with
 | false =>
  simp only [Bool.not_false,zkE,ziG,Bool.false_eq_true,if_false,List.append_nil]
 | true =>
  simp only [Bool.not_true,zje]
  rw [show ((0:Int))=((0:Nat):Int) from rfl,zBj hL _ _ (by omega) h.wl h.wi L 0 _ (by omega) (by omega) (by simp only [List.drop_zero,List.length_append,zbe]; omega)]
  simp only [zeJ,List.drop_zero,ziG,if_true]
theorem zlX {L:Nat} (hL:2000≤L) {t:TxT} (h:KeptP t) (w:Bool) (k:List (List V)→Option β):yc β L (zd1 t) w k=k (zq .u8 (ziG t w)):=by
 obtain ⟨q1,q2,q3⟩:=h.lens
 have hi:=h.ni
 have ho:=h.no
 have s1:=zfe (t.ins.length:Int)
 have s2:=zfe (t.outs.length:Int)
 simp only [yc,zjt,zmL,ziQ,zh1,zw]
 simp only [zde,zcQ,zmS,zgu,List.length_map]
 rw [zeW .u8,zxM (by omega) (by simp),zaZ (by omega) (by omega),zs4 (by omega) (by simp [zbe]) (by omega),List.nil_append]
 rw [show ((0:Int))=((0:Nat):Int) from rfl,zBR (by omega) _ _ (by omega) _ _ L 0 _ (by omega) (by omega) (by simp only [List.drop_zero,List.length_append,zbe]; omega)]
 simp only [zc4,zfS,zw,zde,zcQ,zgu,List.length_map,List.drop_zero]
 rw [zaZ (by omega) (by omega),zs4 (by omega) (by simp only [List.length_append,zbe]; omega) (by omega)]
 rw [show ((0:Int))=((0:Nat):Int) from rfl,zAx (by omega) _ _ (by omega) h.sl _ _ L 0 _ (by omega) (by omega) (by simp only [List.drop_zero,List.length_append,zbe]; omega)]
 simp only [zcu,zeO,zw,zde,zcQ,zgu,List.length_map,List.drop_zero]
 rw [zxM (by omega) (by simp only [List.length_append,zbe]; omega),show ((0:Int))=((0:Nat):Int) from rfl]
 cases w with
 | false =>
  rw [zFa (by omega)]
  simp only [zcd,ziG,Bool.false_eq_true,if_false,List.append_nil]
 | true =>
  rw [zEu hL _ _ (by omega) h.wl h.wi L 0 _ (by omega) (by omega) (by simp only [List.drop_zero,List.length_append,zbe]; omega)]
  simp only [zcd,List.drop_zero,ziG,if_true]
end
section
set_option linter.unusedVariables false
set_option linter.unusedSimpArgs false
set_option maxRecDepth 100000
variable {β:Type}
def okO (o:Outp):Bool:=decide (0≤o.val) && decide (o.scr.length≤520)
def okI (x:Inp):Bool:=decide (x.wit.length≤32) && x.wit.all fun y=>decide (y.length≤520)
def za6 (t:TxT):Bool:=decide (t.ins.length≤64) && decide (t.outs.length≤64) && t.outs.all okO && t.ins.all okI && decide ((ziG t true).length≤20000)
theorem zCf {L:Nat} (kr:Bool→Option β) (kx:List V→Option β) (l:List Outp) (hl:l.length≤1000000) (b1:List V):∀ (n i:Nat),i≤l.length→l.length - i < n →
  zgs yd L kr kx n (l.map zd3) (l.length:Int) (i:Int) b1=ifb ((l.drop i).all okO) (kx b1) (kr false)
 | 0,i,h1,h2=>by omega
 | n+1,i,h1,h2=>by
  simp only [zgs,zmR,zw]
  by_cases h:i < l.length
  ·rw [zD (by omega),zbp (zpe h)]
   rw [zpD,zla,zpq]
   simp only [zrC,zrZ,yv]
   rw [up (by omega),zCf kr kx l hl b1 n (i+1) (by omega) (by omega),zhk h]
   by_cases hv:0≤l[i].val
   ·rw [zE (by omega)]
    by_cases hb:l[i].scr.length≤520
    ·rw [zE (by omega)]; simp [okO,hb,hv]
    ·rw [zD (by omega)]
     have:okO l[i]=false:=by simp [okO,hb]
     rw [this]; rfl
   ·rw [zD (by omega)]
    have:okO l[i]=false:=by simp [okO,hv]
    rw [this]; rfl
  ·rw [zE (by omega),List.drop_of_length_le (by omega)]; rfl
theorem zAX {L:Nat} (kr:Bool→Option β) (kx:List (List V)→Int→Int→List V→Option β) (wt:List (List Int)) (hw:wt.length≤1000000) (p37:List (List V)) (p38 p39:Int) (b1:List V):∀ (n i:Nat),i≤wt.length→wt.length - i < n →
  zbq yd L kr kx n p37 p38 p39 (zgM wt) (wt.length:Int) (i:Int) b1=ifb ((wt.drop i).all fun y=>decide (y.length≤520)) (kx p37 p38 p39 b1) (kr false)
 | 0,i,h1,h2=>by omega
 | n+1,i,h1,h2=>by
  simp only [zbq,zeM,zw]
  by_cases h:i < wt.length
  ·rw [zD (by omega),zbp (znt h),zmF rfl]
   rw [up (by omega),zAX kr kx wt hw p37 p38 p39 b1 n (i+1) (by omega) (by omega),zhk h,yv]
   by_cases hb:wt[i].length≤520
   ·rw [zE (by omega)]; simp [hb]
   ·rw [zD (by omega)]; simp [hb,ifb]
  ·rw [zE (by omega),List.drop_of_length_le (by omega)]; rfl
theorem zGj {L:Nat} (hL:2000≤L) (kr:Bool→Option β) (kx:List V→Option β) (l:List Inp) (hl:l.length≤1000000) (b1:List V):∀ (n i:Nat),i≤l.length→l.length - i < n →
  zfw yd L kr kx n (l.map zdb) (l.length:Int) (i:Int) b1=ifb ((l.drop i).all okI) (kx b1) (kr false):=by
 intro n
 induction n with
 | zero=>intro i h1 h2; omega
 | succ n ih =>
  intro i h1 h2
  simp only [zfw,zg6,zll,zw]
  by_cases h:i < l.length
  ·rw [zD (by omega),zbp (zk2 h)]
   rw [zgF,zfJ,ziS]
   simp only [zix,zi1,znR]
   rw [zhk h]
   by_cases hw:l[i].wit.length≤32
   ·rw [zE (by omega),show ((0:Int))=((0:Nat):Int) from rfl,zAX _ _ _ (by omega) _ _ _ _ L 0 (by omega) (by omega)]
    simp only [zdY,zdG,zw,List.drop_zero]
    rw [up (by omega),ih (i+1) (by omega) (by omega)]
    have:okI l[i]=l[i].wit.all fun y=>decide (y.length≤520):=by simp [okI,hw]
    rw [this]
    cases l[i].wit.all fun y=>decide (y.length≤520) <;> rfl
   ·rw [zD (by omega)]
    have:okI l[i]=false:=by simp [okI,hw]
    rw [this]; rfl
  ·rw [zE (by omega),List.drop_of_length_le (by omega)]; rfl
theorem zAY {L:Nat} (hL:2000≤L) {t:TxT} (h:KeptP t) (k:Bool→Option β):yo β L (zd1 t) k=k (za6 t):=by
 have hi:=h.ni
 have ho:=h.no
 simp only [yo,zqt,zt1,ziQ,zh1]
 simp only [zde,zcQ,zmS,zgu,List.length_map]
 by_cases h1:t.ins.length≤64
 ·rw [zE (by omega)]
  by_cases h2:t.outs.length≤64
  ·rw [zE (by omega),show ((0:Int))=((0:Nat):Int) from rfl,zCf _ _ _ (by omega) _ L 0 (by omega) (by omega)]
   simp only [zf3,zkM,zjH,zde,zcQ,List.length_map,List.drop_zero]
   cases e1:t.outs.all okO
   ·have e:za6 t=false:=by simp [za6,e1]
    rw [e]; rfl
   ·rw [zkE,show ((0:Int))=((0:Nat):Int) from rfl,zGj hL _ _ _ (by omega) _ L 0 (by omega) (by omega)]
    simp only [zjN,zi2,zde,zcQ,List.drop_zero,zdd,zeQ]
    cases e2:t.ins.all okI
    ·have e:za6 t=false:=by simp [za6,e2]
     rw [e]; rfl
    ·rw [zkE,zqi hL h,yv]
     have e:decide (((ziG t true).length:Int)≤20000)=za6 t:=by
      simp only [za6,h1,h2,e1,e2,decide_true,Bool.true_and]
      exact decide_eq_decide.2 (by omega)
     rw [e]
  ·have e:za6 t=false:=by simp [za6,h2]
   rw [zD (by omega),e]
 ·have e:za6 t=false:=by simp [za6,h1]
  rw [zD (by omega),e]
theorem zAb {L:Nat} (kr:Bool→Option β) (kx:List V→Option β) (l:List Outp) (hl:l.length≤1000000) (b1:List V):∀ (n i:Nat),i≤l.length→l.length - i < n →
  zd7 yc L kr kx n (l.map zd3) (l.length:Int) (i:Int) b1=ifb ((l.drop i).all okO) (kx b1) (kr false)
 | 0,i,h1,h2=>by omega
 | n+1,i,h1,h2=>by
  simp only [zd7,zjG,zw]
  by_cases h:i < l.length
  ·rw [zD (by omega),zbp (zpe h)]
   rw [zpD,zla,zpq]
   simp only [zrC,zrZ,yv]
   rw [up (by omega),zAb kr kx l hl b1 n (i+1) (by omega) (by omega),zhk h]
   by_cases hv:0≤l[i].val
   ·rw [zE (by omega)]
    by_cases hb:l[i].scr.length≤520
    ·rw [zE (by omega)]; simp [okO,hb,hv]
    ·rw [zD (by omega)]
     have:okO l[i]=false:=by simp [okO,hb]
     rw [this]; rfl
   ·rw [zD (by omega)]
    have:okO l[i]=false:=by simp [okO,hv]
    rw [this]; rfl
  ·rw [zE (by omega),List.drop_of_length_le (by omega)]; rfl
theorem zzk {L:Nat} (kr:Bool→Option β) (kx:List (List V)→Int→Int→List V→Option β) (wt:List (List Int)) (hw:wt.length≤1000000) (p37:List (List V)) (p38 p39:Int) (b1:List V):∀ (n i:Nat),i≤wt.length→wt.length - i < n →
  zaV yc L kr kx n p37 p38 p39 (zgM wt) (wt.length:Int) (i:Int) b1=ifb ((wt.drop i).all fun y=>decide (y.length≤520)) (kx p37 p38 p39 b1) (kr false)
 | 0,i,h1,h2=>by omega
 | n+1,i,h1,h2=>by
  simp only [zaV,zdI,zw]
  by_cases h:i < wt.length
  ·rw [zD (by omega),zbp (znt h),zmF rfl]
   rw [up (by omega),zzk kr kx wt hw p37 p38 p39 b1 n (i+1) (by omega) (by omega),zhk h,yv]
   by_cases hb:wt[i].length≤520
   ·rw [zE (by omega)]; simp [hb]
   ·rw [zD (by omega)]; simp [hb,ifb]
  ·rw [zE (by omega),List.drop_of_length_le (by omega)]; rfl
theorem zFX {L:Nat} (hL:2000≤L) (kr:Bool→Option β) (kx:List V→Option β) (l:List Inp) (hl:l.length≤1000000) (b1:List V):∀ (n i:Nat),i≤l.length→l.length - i < n →
  zdN yc L kr kx n (l.map zdb) (l.length:Int) (i:Int) b1=ifb ((l.drop i).all okI) (kx b1) (kr false):=by
 intro n
 induction n with
 | zero=>intro i h1 h2; omega
 | succ n ih =>
  intro i h1 h2
  simp only [zdN,ze6,zis,zw]
  by_cases h:i < l.length
  ·rw [zD (by omega),zbp (zk2 h)]
   rw [zgF,zfJ,ziS]
   simp only [zix,zi1,znR]
   rw [zhk h]
   by_cases hw:l[i].wit.length≤32
   ·rw [zE (by omega),show ((0:Int))=((0:Nat):Int) from rfl,zzk _ _ _ (by omega) _ _ _ _ L 0 (by omega) (by omega)]
    simp only [zcY,zcA,zw,List.drop_zero]
    rw [up (by omega),ih (i+1) (by omega) (by omega)]
    have:okI l[i]=l[i].wit.all fun y=>decide (y.length≤520):=by simp [okI,hw]
    rw [this]
    cases l[i].wit.all fun y=>decide (y.length≤520) <;> rfl
   ·rw [zD (by omega)]
    have:okI l[i]=false:=by simp [okI,hw]
    rw [this]; rfl
  ·rw [zE (by omega),List.drop_of_length_le (by omega)]; rfl
theorem zuu {L:Nat} (hL:2000≤L) {t:TxT} (h:KeptP t) (k:Bool→Option β):yu β L (zd1 t) k=k (za6 t):=by
 have hi:=h.ni
 have ho:=h.no
 simp only [yu,zlp,zpf,ziQ,zh1]
 simp only [zde,zcQ,zmS,zgu,List.length_map]
 by_cases h1:t.ins.length≤64
 ·rw [zE (by omega)]
  by_cases h2:t.outs.length≤64
  ·rw [zE (by omega),show ((0:Int))=((0:Nat):Int) from rfl,zAb _ _ _ (by omega) _ L 0 (by omega) (by omega)]
   simp only [zer,zhQ,zgY,zde,zcQ,List.length_map,List.drop_zero]
   cases e1:t.outs.all okO
   ·have e:za6 t=false:=by simp [za6,e1]
    rw [e]; rfl
   ·rw [zkE,show ((0:Int))=((0:Nat):Int) from rfl,zFX hL _ _ _ (by omega) _ L 0 (by omega) (by omega)]
    simp only [zhj,zgm,zde,zcQ,List.drop_zero,zdd,zeQ]
    cases e2:t.ins.all okI
    ·have e:za6 t=false:=by simp [za6,e2]
     rw [e]; rfl
    ·rw [zkE,zlX hL h,yv]
     have e:decide (((ziG t true).length:Int)≤20000)=za6 t:=by
      simp only [za6,h1,h2,e1,e2,decide_true,Bool.true_and]
      exact decide_eq_decide.2 (by omega)
     rw [e]
  ·have e:za6 t=false:=by simp [za6,h2]
   rw [zD (by omega),e]
 ·have e:za6 t=false:=by simp [za6,h1]
  rw [zD (by omega),e]
def nullrow:List V:=List.replicate 32 (V.sc (.int .u8 (0:Int)))++[(V.sc (.int .u32 (4294967295:Int)))]
def eqP (x y:Inp):Bool:=(zdh (zgP x) (zgP y)).getD false
def eqN (x:Inp):Bool:=(zdh (zgP x) nullrow).getD false
theorem zEI (x:Inp):zdh (zgP x) nullrow=some (eqN x):=by
 have h:(zdh (zgP x) nullrow).isSome=true:=by rfl
 unfold eqN
 obtain ⟨b,hb⟩:=Option.isSome_iff_exists.1 h
 rw [hb]; rfl
theorem zBO:nullrow.length=33:=by simp [nullrow]
theorem zAt (x:Inp) (k:Bool→Option β):eqC 33 (zgP x) nullrow k=k (eqN x):=by
 simp only [eqC,zpA,zBO,and_self,zh1,zEI]
theorem zF5 {L:Nat} (x:Inp) (k:Bool→Option β):zaT β L (zgP x) k=k (eqN x):=by
 simp only [zaT,zua]
 rw [yh (by rw [zpA]; omega),zCe]
 exact zAt x k
theorem zFN {L:Nat} (x:Inp) (k:Bool→Option β):yU β L (zgP x) k=k (eqN x):=by
 simp only [yU,zpl]
 rw [yh (by rw [zpA]; omega),zCe]
 exact zAt x k
def cbB (t:TxT):Bool:=match t.ins with
 | [x]=>eqN x
 | _=>false
theorem zEk {l:List Inp} (h:l.length=1):∃ x,l=[x]:=List.length_eq_one_iff.1 h
theorem zC6 {L:Nat} (t:TxT) (k:Bool→Option β):yi β L (zd1 t) k=k (cbB t):=by
 simp only [yi,znZ,ziQ,zh1]
 simp only [zde,zcQ,zmS,zgu,List.length_map]
 by_cases h:t.ins.length=1
 ·obtain ⟨x,hx⟩:=zEk h
  rw [zqS (by omega),hx,zwf (j:=0) (by omega) rfl,zwJ,zF5]
  simp [cbB,hx]
 ·rw [zvV (by omega)]
  have:cbB t=false:=by
   unfold cbB
   split
   ·rename_i x hx; rw [hx] at h; simp at h
   ·rfl
  rw [this]
theorem zBL {L:Nat} (t:TxT) (k:Bool→Option β):xL β L (zd1 t) k=k (cbB t):=by
 simp only [xL,zkQ,ziQ,zh1]
 simp only [zde,zcQ,zmS,zgu,List.length_map]
 by_cases h:t.ins.length=1
 ·obtain ⟨x,hx⟩:=zEk h
  rw [zqS (by omega),hx,zwf (j:=0) (by omega) rfl,zwJ,zFN]
  simp [cbB,hx]
 ·rw [zvV (by omega)]
  have:cbB t=false:=by
   unfold cbB
   split
   ·rename_i x hx; rw [hx] at h; simp at h
   ·rfl
  rw [this]
end
section
set_option linter.unusedVariables false
set_option linter.unusedSimpArgs false
theorem zqo (n:Int):0≤IntKind.wrap .u64 n:=by
 unfold IntKind.wrap
 simp only [IntKind.signed,Bool.false_and,Bool.false_eq_true,if_false]
 exact Int.emod_nonneg _ (by decide)
def zof (p n:Int):Int :=
 ior .u32 (zhC .u32 p (zf0 .u64 (IntKind.wrap .u64 (IntKind.wrap .i64 (0 - n))) 31)) (zcZ .u32 p (IntKind.wrap .u64 (32 - (zf0 .u64 (IntKind.wrap .u64 (IntKind.wrap .i64 (0 - n))) 31))))
theorem zCk {β:Type} (L:Nat) (p n:Int) (k:Int→Option β):zl β L p n k=k (ior .u32 (zhC .u32 p (zf0 .u64 (IntKind.wrap .u64 n) 31)) (zcZ .u32 p (IntKind.wrap .u64 (32 - (zf0 .u64 (IntKind.wrap .u64 n) 31))))):=by
 unfold zl zeI
 simp only [zw]
 rw [yh (show 0≤zf0 .u64 (IntKind.wrap .u64 n) 31 from zqo _),yh (zqo _)]
theorem zBY {β:Type} (L:Nat) (p n:Int) (k:Int→Option β):zd β L p n k=k (zof p n):=by
 unfold zd zst
 simp only [zw]
 rw [zCk]; exact Eq.trans rfl rfl
theorem zEq {β:Type} (L:Nat) (p n:Int) (k:Int→Option β):xd β L p n k=k (zof p n):=by
 unfold xd zpG
 simp only [zw]
 rw [zCk]; exact Eq.trans rfl rfl
theorem zL {β:Type} {k:IntKind} {l:List Int} {j:Nat} (h:j < l.length) (κ:Int→Option β):cI k (row k l) j κ=κ (l.getD j 0) :=
 zo5 (by simp [row,h]) κ
theorem zfp {k:IntKind} {w:List Int} {j:Nat} (h:j < w.length) (x:Int):zr (row k w) j [V.sc (.int k x)]=row k (w.set j x):=by
 rw [zDv (by rw [yw]; exact h)]
 simp [row]
theorem zCw {t c:Nat} (h:c≤t) (h2:t≤1000000):IntKind.wrap .i64 ((t:Int) - (c:Int))=((t - c:Nat):Int):=by
 rw [zaJ (by omega) (by omega)]; omega
def s2 (w:List Int) (t:Nat):Int :=
 IntKind.wrap .u32 (IntKind.wrap .u32 (IntKind.wrap .u32 (w.getD (t - 16) 0+zbH .u32 (zbH .u32 (zof (w.getD (t - 15) 0) 7) (zof (w.getD (t - 15) 0) 18)) (zcZ .u32 (w.getD (t - 15) 0) 3))+w.getD (t - 7) 0)+zbH .u32 (zbH .u32 (zof (w.getD (t - 2) 0) 17) (zof (w.getD (t - 2) 0) 19)) (zcZ .u32 (w.getD (t - 2) 0) 10))
def zyF:Nat→Nat→List Int→List Int
 | 0,_,w=>w
 | m+1,t,w=>zyF m (t+1) (w.set t (s2 w t))
theorem zAZ:∀ (m t:Nat) (w:List Int),(zyF m t w).length=w.length
 | 0,_,_=>rfl
 | m+1,t,w=>by rw [zyF,zAZ m]; simp
theorem zyX {β:Type} (L:Nat) {t:Nat} (h1:16≤t) (h2:t < 64) (b2:List V) {w:List Int} (hw:w.length=64) (kh:Int→List V→List V→Option β) (kx:List V→List V→Option β):zbx zd L (t:Int) b2 (row .u32 w) kh kx=kh ((t+1:Nat):Int) b2 (row .u32 (w.set t (s2 w t))):=by
 unfold zbx
 have e15:IntKind.wrap .i64 ((t:Int) - (15:Int))=((t - 15:Nat):Int):=zCw (c:=15) (by omega) (by omega)
 have e2:IntKind.wrap .i64 ((t:Int) - (2:Int))=((t - 2:Nat):Int):=zCw (c:=2) (by omega) (by omega)
 have e16:IntKind.wrap .i64 ((t:Int) - (16:Int))=((t - 16:Nat):Int):=zCw (c:=16) (by omega) (by omega)
 have e7:IntKind.wrap .i64 ((t:Int) - (7:Int))=((t - 7:Nat):Int):=zCw (c:=7) (by omega) (by omega)
 have c15:0≤((t - 15:Nat):Int)∧((t - 15:Nat):Int) < ((64:Nat):Int):=by omega
 have c2:0≤((t - 2:Nat):Int)∧((t - 2:Nat):Int) < ((64:Nat):Int):=by omega
 have c16:0≤((t - 16:Nat):Int)∧((t - 16:Nat):Int) < ((64:Nat):Int):=by omega
 have c7:0≤((t - 7:Nat):Int)∧((t - 7:Nat):Int) < ((64:Nat):Int):=by omega
 have c0:0≤(t:Int)∧(t:Int) < ((64:Nat):Int):=by omega
 have cl:True∧t+1≤64:=⟨trivial,by omega⟩
 rw [zD (by omega:(t:Int) < 64)]
 simp only [zw,e15,e2,e16,e7,yh c15,yh c2,yh c16,yh c7,yh c0,Int.toNat_natCast,Nat.mul_one,Nat.zero_add,zBY,zL (show t - 15 < w.length by omega),zL (show t - 2 < w.length by omega),zL (show t - 16 < w.length by omega),zL (show t - 7 < w.length by omega),yw,hw,zfp (show t < w.length by omega),zcm (show t≤1000000000 by omega)]
 rw [yh cl]
 exact Eq.trans rfl rfl
theorem zDh {β:Type} (L:Nat) {t:Nat} (h1:16≤t) (h2:t < 64) (b2:List V) {w:List Int} (hw:w.length=64) (kh:Int→List V→List V→Option β) (kx:List V→List V→Option β):zbZ xd L (t:Int) b2 (row .u32 w) kh kx=kh ((t+1:Nat):Int) b2 (row .u32 (w.set t (s2 w t))) :=
 (show zbZ xd L (t:Int) b2 (row .u32 w) kh kx=zbx zd L (t:Int) b2 (row .u32 w) kh kx from rfl).trans (zyX L h1 h2 b2 hw kh kx)
theorem zyS {β:Type} (L:Nat) (b2:List V) (kx:List V→List V→Option β):∀ (n m t:Nat) (w:List Int),w.length=64→16≤t→t+m=64→m < n→zbB zd L kx n (t:Int) b2 (row .u32 w)=kx b2 (row .u32 (zyF m t w))
 | 0,m,t,w,_,_,_,h=>by omega
 | n+1,0,t,w,hw,h1,h2,h=>by
  unfold zbB zbx
  rw [zE (by omega)]; exact Eq.trans rfl rfl
 | n+1,m+1,t,w,hw,h1,h2,h=>by
  unfold zbB
  rw [zyX L h1 (by omega) b2 hw]
  exact zyS L b2 kx n m (t+1) _ (by simpa using hw) (by omega) (by omega) (by omega)
theorem zxG {β:Type} (L:Nat) (b2:List V) (kx:List V→List V→Option β):∀ (n m t:Nat) (w:List Int),w.length=64→16≤t→t+m=64→m < n→za7 xd L kx n (t:Int) b2 (row .u32 w)=kx b2 (row .u32 (zyF m t w))
 | 0,m,t,w,_,_,_,h=>by omega
 | n+1,0,t,w,hw,h1,h2,h=>by
  unfold za7 zbZ
  rw [zE (by omega)]; exact Eq.trans rfl rfl
 | n+1,m+1,t,w,hw,h1,h2,h=>by
  unfold za7
  rw [zDh L h1 (by omega) b2 hw]
  exact zxG L b2 kx n m (t+1) _ (by simpa using hw) (by omega) (by omega) (by omega)
theorem zv7 {n:Int} (h1:0≤n) (h2:n < 4294967296):IntKind.wrap .u32 n=n:=zkS h1 (by omega)
theorem zu3 {a b:Int} {n:Nat} (ha:0≤a) (hb:0≤b) (hb2:b < 2 ^ n) (hs:a * 2 ^ n+b < 4294967296):ior .u32 (a * 2 ^ n) b=a * 2 ^ n+b:=by
 obtain ⟨x,rfl⟩:=Int.eq_ofNat_of_zero_le ha
 obtain ⟨y,rfl⟩:=Int.eq_ofNat_of_zero_le hb
 have hy:y < 2 ^ n:=by exact_mod_cast hb2
 have e:((x:Int) * 2 ^ n)=((x * 2 ^ n:Nat):Int):=by rw [Int.natCast_mul,Int.natCast_pow]; rfl
 rw [e] at hs ⊢
 have hxy:x * 2 ^ n+y < 4294967296:=by omega
 unfold ior
 have q1:(BitVec.ofInt (IntKind.bits .u32) ((x * 2 ^ n:Nat):Int)).toNat=x * 2 ^ n:=by
  rw [BitVec.toNat_ofInt]
  show (((x * 2 ^ n:Nat):Int) % ((2 ^ 32:Nat):Int)).toNat=_
  rw [← Int.natCast_emod,Int.toNat_natCast,Nat.mod_eq_of_lt (by omega)]
 have q2:(BitVec.ofInt (IntKind.bits .u32) (y:Int)).toNat=y:=by
  rw [BitVec.toNat_ofInt]
  show ((y:Int) % ((2 ^ 32:Nat):Int)).toNat=_
  rw [← Int.natCast_emod,Int.toNat_natCast,Nat.mod_eq_of_lt (by omega)]
 rw [BitVec.toNat_or,q1,q2,← Nat.shiftLeft_eq,← Nat.shiftLeft_add_eq_or_of_lt hy,Nat.shiftLeft_eq]
 rw [zv7 (by omega) (by omega),Int.natCast_add]
theorem zs2 {a:Int} (n:Nat) (hn:n≤32) (ha:0≤a) (hs:a * 2 ^ n < 4294967296):zhC .u32 a (n:Int)=a * 2 ^ n:=by
 unfold zhC
 have:min (Int.toNat (n:Int)) (IntKind.bits .u32)=n:=by
  rw [Int.toNat_natCast]; exact Nat.min_eq_left hn
 rw [this]
 have h0:0≤a * 2 ^ n:=Int.mul_nonneg ha (Int.le_of_lt (Int.pow_pos (by decide)))
 exact zv7 h0 hs
theorem zfL {l:List Int} (h:∀ x ∈ l,0≤x∧x≤255) (i:Nat):0≤l.getD i 0∧l.getD i 0≤255:=by
 rw [List.getD_eq_getElem?_getD]
 by_cases hi:i < l.length
 ·rw [List.getElem?_eq_getElem hi]; exact h _ (List.getElem_mem hi)
 ·rw [List.getElem?_eq_none (by omega)]; simp
theorem zey {w:List Int} {t:Nat} (h:t < w.length) (x:Int):(w.set t x).getD t 0=x:=by
 simp [List.getD_eq_getElem?_getD,h]
theorem getD_set_ne {w:List Int} {t i:Nat} (h:t≠i) (x:Int):(w.set t x).getD i 0=w.getD i 0:=by
 simp [List.getD_eq_getElem?_getD,List.getElem?_set_ne h]
def zwa (l:List Int) (t:Nat):Int :=
 ((l.getD (4 * t) 0 * 256+l.getD (4 * t+1) 0) * 256+l.getD (4 * t+2) 0) * 256+l.getD (4 * t+3) 0
theorem zFZ {x y:Int} (h0:0≤x) (h1:x < 16777216) (b0:0≤y) (b1:y≤255):ior .u32 (zhC .u32 x (8:Int)) y=x * 256+y:=by
 have e1:zhC .u32 x (8:Int)=x * 2 ^ 8:=zs2 8 (by decide) h0 (by omega)
 rw [e1,zu3 (n:=8) h0 b0 (by omega) (by omega)]; exact Eq.trans rfl rfl
theorem zGA {a b c d:Int} (ha:0≤a∧a≤255) (hb:0≤b∧b≤255) (hc:0≤c∧c≤255) (hd:0≤d∧d≤255):ior .u32 (ior .u32 (ior .u32 (zhC .u32 a (24:Int)) (zhC .u32 b (16:Int))) (zhC .u32 c (8:Int))) d=((a * 256+b) * 256+c) * 256+d:=by
 have e1:zhC .u32 a (24:Int)=a * 2 ^ 24:=zs2 24 (by decide) ha.1 (by omega)
 have e2:zhC .u32 b (16:Int)=b * 2 ^ 16:=zs2 16 (by decide) hb.1 (by omega)
 have e3:zhC .u32 c (8:Int)=c * 2 ^ 8:=zs2 8 (by decide) hc.1 (by omega)
 rw [e1,e2,e3,zu3 (n:=24) ha.1 (by omega) (by omega) (by omega)]
 rw [show a * 2 ^ 24+b * 2 ^ 16=(a * 256+b) * 2 ^ 16 by omega,zu3 (n:=16) (by omega) (by omega) (by omega) (by omega)]
 rw [show (a * 256+b) * 2 ^ 16+c * 2 ^ 8=((a * 256+b) * 256+c) * 2 ^ 8 by omega,zu3 (n:=8) (by omega) (by omega) (by omega) (by omega)]
 omega
theorem zCU {t:Nat} (h:t≤1000000):IntKind.wrap .i64 ((4:Int) * (t:Int))=((4 * t:Nat):Int):=by
 rw [zaJ (by omega) (by omega)]; omega
theorem zwB {a b:Nat} (h:a≤1000000000) (h2:b≤1000000000):IntKind.wrap .i64 ((a:Int)+(b:Int))=((a+b:Nat):Int):=by
 rw [zaJ (by omega) (by omega)]; omega
theorem zFE {β:Type} (L:Nat) {t j:Nat} (ht:t < 16) (hj:j < 4) (b2:List V) {l w:List Int} (hl:l.length=64) (hb:∀ x ∈ l,0≤x∧x≤255) (hw:w.length=64) {x:Int} (hx:w.getD t 0=x) (h0:0≤x) (h1:x < 16777216) (kh:Int→Int→Int→List V→List V→List V→Option β) (kx:Int→List V→List V→List V→Option β):zU zd L (t:Int) (t:Int) (j:Int) (row .u8 l) b2 (row .u32 w) kh kx=kh (t:Int) (t:Int) ((j+1:Nat):Int) (row .u8 l) b2 (row .u32 (w.set t (x * 256+l.getD (4 * t+j) 0))):=by
 unfold zU
 have bb:=zfL hb (4 * t+j)
 have e4:IntKind.wrap .i64 ((4:Int) * (t:Int))=((4 * t:Nat):Int):=zCU (by omega)
 have e5:IntKind.wrap .i64 (((4 * t:Nat):Int)+(j:Int))=((4 * t+j:Nat):Int):=zwB (by omega) (by omega)
 have e6:IntKind.wrap .u32 (l.getD (4 * t+j) 0)=l.getD (4 * t+j) 0:=zkS bb.1 (by omega)
 have e7:ior .u32 (zhC .u32 x (8:Int)) (l.getD (4 * t+j) 0)=x * 256+l.getD (4 * t+j) 0:=zFZ h0 h1 bb.1 bb.2
 have c0:0≤(t:Int)∧(t:Int) < ((64:Nat):Int):=by omega
 have c5:0≤((4 * t+j:Nat):Int)∧((4 * t+j:Nat):Int) < ((64:Nat):Int):=by omega
 have cl:True∧t+1≤64:=⟨trivial,by omega⟩
 rw [zD (by omega:(j:Int) < 4)]
 simp only [zw,e4,e5,yh c0,yh c5,Int.toNat_natCast,Nat.mul_one,Nat.zero_add,zL (show t < w.length by omega),zL (show 4 * t+j < l.length by omega),hx,e6,e7,yw,hw,zfp (show t < w.length by omega),zcm (show j≤1000000000 by omega)]
 rw [yh cl]
theorem zsW {β:Type} (L n:Nat) {t j:Nat} (ht:t < 16) (hj:j < 4) (b2:List V) {l w:List Int} (hl:l.length=64) (hb:∀ x ∈ l,0≤x∧x≤255) (hw:w.length=64) {x:Int} (hx:w.getD t 0=x) (h0:0≤x) (h1:x < 16777216) (kx:Int→List V→List V→List V→Option β):yO zd L kx (n+1) (t:Int) (t:Int) (j:Int) (row .u8 l) b2 (row .u32 w)=yO zd L kx n (t:Int) (t:Int) ((j+1:Nat):Int) (row .u8 l) b2 (row .u32 (w.set t (x * 256+l.getD (4 * t+j) 0))) :=
 (show yO zd L kx (n+1) (t:Int) (t:Int) (j:Int) (row .u8 l) b2 (row .u32 w)=zU zd L (t:Int) (t:Int) (j:Int) (row .u8 l) b2 (row .u32 w) (fun p4 p9 p12 b1 b2 b3=>yO zd L kx n p4 p9 p12 b1 b2 b3) kx from rfl).trans (zFE L ht hj b2 hl hb hw hx h0 h1 _ _)
theorem zFR {β:Type} (L n:Nat) {t:Nat} (ht:t < 16) (b2:List V) {l w:List Int} (hl:l.length=64) (hb:∀ x ∈ l,0≤x∧x≤255) (hw:w.length=64) (hx:w.getD t 0=0) (kx:Int→List V→List V→List V→Option β):yO zd L kx (n+5) (t:Int) (t:Int) ((0:Nat):Int) (row .u8 l) b2 (row .u32 w)=kx (t:Int) (row .u8 l) b2 (row .u32 (w.set t (zwa l t))):=by
 have htw:t < w.length:=by omega
 have a0:=zfL hb (4 * t+0)
 have a1:=zfL hb (4 * t+1)
 have a2:=zfL hb (4 * t+2)
 have a3:=zfL hb (4 * t+3)
 refine (zsW L (n+4) ht (j:=0) (by decide) b2 hl hb hw hx (by decide) (by decide) kx).trans ?_
 refine (zsW L (n+3) ht (j:=1) (by decide) b2 hl hb (by simpa using hw) (zey htw _) (by omega) (by omega) kx).trans ?_
 rw [List.set_set]
 refine (zsW L (n+2) ht (j:=2) (by decide) b2 hl hb (by simpa using hw) (zey htw _) (by omega) (by omega) kx).trans ?_
 rw [List.set_set]
 refine (zsW L (n+1) ht (j:=3) (by decide) b2 hl hb (by simpa using hw) (zey htw _) (by omega) (by omega) kx).trans ?_
 rw [List.set_set]
 have e:(((0 * 256+l.getD (4 * t+0) 0) * 256+l.getD (4 * t+1) 0) * 256+l.getD (4 * t+2) 0) * 256+l.getD (4 * t+3) 0=zwa l t:=by
  unfold zwa; rw [Nat.add_zero,Int.zero_mul,Int.zero_add]
 rw [e]
 refine (show _=zU zd L (t:Int) (t:Int) ((3+1:Nat):Int) (row .u8 l) b2 (row .u32 (w.set t (zwa l t))) (fun p4 p9 p12 b1 b2 b3=>yO zd L kx n p4 p9 p12 b1 b2 b3) kx from rfl).trans ?_
 unfold zU
 rw [zE (by omega)]
def zx8:Nat→Nat→List Int→List Int→List Int
 | 0,_,_,w=>w
 | m+1,t,l,w=>zx8 m (t+1) l (w.set t (zwa l t))
theorem zsR:∀ (m t:Nat) (l w:List Int),(zx8 m t l w).length=w.length
 | 0,_,_,_=>rfl
 | m+1,t,l,w=>by rw [zx8,zsR m]; simp
theorem zE8 {β:Type} {L:Nat} (hL:5≤L) {t:Nat} (ht:t < 16) (b2:List V) {l w:List Int} (hl:l.length=64) (hb:∀ x ∈ l,0≤x∧x≤255) (hw:w.length=64) (hx:w.getD t 0=0) (k0:List V→List V→Option β) (kh:Int→List V→List V→List V→Option β):zby zd L (t:Int) (row .u8 l) b2 (row .u32 w) k0 kh=kh ((t+1:Nat):Int) (row .u8 l) b2 (row .u32 (w.set t (zwa l t))):=by
 obtain ⟨n,rfl⟩:=Nat.exists_eq_add_of_le hL
 unfold zby ze2
 rw [zD (by omega:(t:Int) < 16)]
 rw [Nat.add_comm 5 n]
 refine (zFR (n+5) n ht b2 hl hb hw hx _).trans ?_
 unfold zcX
 rw [zw,zcm (by omega)]
theorem zA7 {β:Type} {L:Nat} (hL:5≤L) (b2:List V) {l:List Int} (hl:l.length=64) (hb:∀ x ∈ l,0≤x∧x≤255) (k0:List V→List V→Option β):∀ (n m t:Nat) (w:List Int),w.length=64→(∀ i,t≤i→w.getD i 0=0)→t+m=16→m < n→zbU zd L k0 n (t:Int) (row .u8 l) b2 (row .u32 w)=k0 b2 (row .u32 (zx8 m t l w))
 | 0,m,t,w,_,_,_,h=>by omega
 | n+1,0,t,w,hw,hz,h1,h=>by
  unfold zbU zby ze2
  rw [zE (by omega)]; exact Eq.trans rfl rfl
 | n+1,m+1,t,w,hw,hz,h1,h=>by
  unfold zbU
  rw [zE8 hL (by omega) b2 hl hb hw (hz t (Nat.le_refl t))]
  exact zA7 hL b2 hl hb k0 n m (t+1) _ (by simpa using hw) (fun i hi=>by rw [getD_set_ne (by omega)]; exact hz i (by omega)) (by omega) (by omega)
theorem zEi {β:Type} (L:Nat) {t:Nat} (ht:t < 16) (b2:List V) {l w:List Int} (hl:l.length=64) (hb:∀ x ∈ l,0≤x∧x≤255) (hw:w.length=64) (kh:Int→List V→List V→List V→Option β) (k0:List V→List V→Option β):zcn xd L (t:Int) (row .u8 l) b2 (row .u32 w) kh k0=kh ((t+1:Nat):Int) (row .u8 l) b2 (row .u32 (w.set t (zwa l t))):=by
 unfold zcn
 have a0:=zfL hb (4 * t)
 have a1:=zfL hb (4 * t+1)
 have a2:=zfL hb (4 * t+2)
 have a3:=zfL hb (4 * t+3)
 have e4:IntKind.wrap .i64 ((4:Int) * (t:Int))=((4 * t:Nat):Int):=zCU (by omega)
 have e1:IntKind.wrap .i64 (((4 * t:Nat):Int)+(1:Int))=((4 * t+1:Nat):Int):=zwB (b:=1) (by omega) (by omega)
 have e2:IntKind.wrap .i64 (((4 * t:Nat):Int)+(2:Int))=((4 * t+2:Nat):Int):=zwB (b:=2) (by omega) (by omega)
 have e3:IntKind.wrap .i64 (((4 * t:Nat):Int)+(3:Int))=((4 * t+3:Nat):Int):=zwB (b:=3) (by omega) (by omega)
 have c0:0≤(t:Int)∧(t:Int) < ((64:Nat):Int):=by omega
 have c4:0≤((4 * t:Nat):Int)∧((4 * t:Nat):Int) < ((64:Nat):Int):=by omega
 have c1:0≤((4 * t+1:Nat):Int)∧((4 * t+1:Nat):Int) < ((64:Nat):Int):=by omega
 have c2:0≤((4 * t+2:Nat):Int)∧((4 * t+2:Nat):Int) < ((64:Nat):Int):=by omega
 have c3:0≤((4 * t+3:Nat):Int)∧((4 * t+3:Nat):Int) < ((64:Nat):Int):=by omega
 have cl:True∧t+1≤64:=⟨trivial,by omega⟩
 rw [zD (by omega:(t:Int) < 16)]
 simp only [zw,e4,e1,e2,e3,yh c0,yh c4,yh c1,yh c2,yh c3,Int.toNat_natCast,Nat.mul_one,Nat.zero_add,zL (show 4 * t < l.length by omega),zL (show 4 * t+1 < l.length by omega),zL (show 4 * t+2 < l.length by omega),zL (show 4 * t+3 < l.length by omega),zkS a0.1 (show l.getD (4 * t) 0≤4294967295 by omega),zkS a1.1 (show l.getD (4 * t+1) 0≤4294967295 by omega),zkS a2.1 (show l.getD (4 * t+2) 0≤4294967295 by omega),zkS a3.1 (show l.getD (4 * t+3) 0≤4294967295 by omega),zGA a0 a1 a2 a3,yw,hw,zfp (show t < w.length by omega),zcm (show t≤1000000000 by omega)]
 rw [yh cl]
 exact Eq.trans rfl rfl
theorem zy7 {β:Type} (L:Nat) (b2:List V) {l:List Int} (hl:l.length=64) (hb:∀ x ∈ l,0≤x∧x≤255) (k0:List V→List V→Option β):∀ (n m t:Nat) (w:List Int),w.length=64→t+m=16→m < n→zbo xd L k0 n (t:Int) (row .u8 l) b2 (row .u32 w)=k0 b2 (row .u32 (zx8 m t l w))
 | 0,m,t,w,_,_,h=>by omega
 | n+1,0,t,w,hw,h1,h=>by
  unfold zbo zcn
  rw [zE (by omega)]; exact Eq.trans rfl rfl
 | n+1,m+1,t,w,hw,h1,h=>by
  unfold zbo
  rw [zEi L (by omega) b2 hl hb hw]
  exact zy7 L b2 hl hb k0 n m (t+1) _ (by simpa using hw) (by omega) (by omega)
def znb (l:List Int):List Int:=zyF 48 16 (zx8 16 0 l (List.replicate 64 0))
theorem zgJ (l:List Int):(znb l).length=64:=by
 unfold znb; rw [zAZ,zsR]; rfl
theorem zo6 (n:Nat) (k:IntKind) (x:Int):List.replicate n (V.sc (.int k x))=row k (List.replicate n x):=by simp [row]
theorem zEN (n i:Nat):(List.replicate n (0:Int)).getD i 0=0:=by
 rw [List.getD_eq_getElem?_getD]
 by_cases hi:i < n
 ·simp [hi]
 ·simp [hi]
theorem zyV {β:Type} {w:List Int} (hw:w.length=64) (z:List Int) (hz:z.length=64) (k:List V→Option β) :
  chk (0+64≤(List.length (row .u32 w))) (chk ((List.length (List.take 64 (row .u32 w)))=64∧0+64≤(List.length (row .u32 z))) (
   lt (zr (row .u32 z) 0 (List.take 64 (row .u32 w))) fun r41=>chk (0=0∧(List.length r41)=64∧64≠0) (k r41)))=k (row .u32 w):=by
 have e:List.take 64 (row .u32 w)=row .u32 w:=List.take_of_length_le (by rw [yw]; omega)
 rw [zw,e,zcp (by rw [yw,yw]; omega)]
 rw [yh (by rw [yw]; omega),yh ⟨by rw [yw]; omega,by rw [yw]; omega⟩,yh ⟨rfl,by rw [yw]; omega,by decide⟩]
theorem zBr {β:Type} {L:Nat} (hL:100≤L) {l:List Int} (hl:l.length=64) (hb:∀ x ∈ l,0≤x∧x≤255) (k:List V→Option β):xn β L (row .u8 l) k=k (row .u32 (znb l)):=by
 unfold xn zjl zmI
 rw [zo6]
 refine (zA7 (by omega) _ hl hb _ L 16 0 _ rfl (fun i _=>?_) rfl (by omega)).trans ?_
 ·exact zEN 64 i
 unfold zdq zgp
 refine (zyS L _ _ L 48 16 _ (by rw [zsR]; rfl) (by omega) rfl (by omega)).trans ?_
 unfold zfX
 exact zyV (zgJ l) _ rfl k
theorem zz4 {β:Type} {L:Nat} (hL:100≤L) {l:List Int} (hl:l.length=64) (hb:∀ x ∈ l,0≤x∧x≤255) (k:List V→Option β):zj β L (row .u8 l) k=k (row .u32 (znb l)):=by
 unfold zj zg8 zkP
 rw [zo6]
 refine (zy7 L _ hl hb _ L 16 0 _ rfl rfl (by omega)).trans ?_
 unfold zcL zfd
 refine (zxG L _ _ L 48 16 _ (by rw [zsR]; rfl) (by omega) rfl (by omega)).trans ?_
 unfold zeS
 exact zyV (zgJ l) _ rfl k
end
section
set_option linter.unusedVariables false
set_option linter.unusedSimpArgs false
def kc:List Int:=gk_sha_k.map fun v=>match v with | .sc (.int _ n)=>n | _=>0
theorem zDl:gk_sha_k=row .u32 kc:=rfl
theorem zDn:kc.length=64:=rfl
def t1 (e f g h kk ww:Int):Int :=
 IntKind.wrap .u32 (IntKind.wrap .u32 (IntKind.wrap .u32 (IntKind.wrap .u32 (h+zbH .u32 (zbH .u32 (zof e 6) (zof e 11)) (zof e 25))+zbH .u32 (zf0 .u32 e f) (zf0 .u32 (zE2 .u32 e) g))+kk)+ww)
def t2 (a b c:Int):Int :=
 IntKind.wrap .u32 (zbH .u32 (zbH .u32 (zof a 2) (zof a 13)) (zof a 22)+zbH .u32 (zbH .u32 (zf0 .u32 a b) (zf0 .u32 a c)) (zf0 .u32 b c))
def zsp {γ:Type} (w:List Int) (κ:Int→Int→Int→Int→Int→Int→Int→Int→γ):Nat→Nat→Int→Int→Int→Int→Int→Int→Int→Int→γ
 | 0,_,a,b,c,d,e,f,g,h=>κ a b c d e f g h
 | m+1,t,a,b,c,d,e,f,g,h=>zsp w κ m (t+1) (IntKind.wrap .u32 (t1 e f g h (kc.getD t 0) (w.getD t 0)+t2 a b c)) a b c (IntKind.wrap .u32 (d+t1 e f g h (kc.getD t 0) (w.getD t 0))) e f g
theorem zqa {γ δ:Type} (u:γ→δ) (w:List Int) (κ:Int→Int→Int→Int→Int→Int→Int→Int→γ):∀ (m t:Nat) (a b c d e f g h:Int),zsp w (fun a b c d e f g h=>u (κ a b c d e f g h)) m t a b c d e f g h=u (zsp w κ m t a b c d e f g h)
 | 0,_,_,_,_,_,_,_,_,_=>rfl
 | m+1,t,a,b,c,d,e,f,g,h=>zqa u w κ m (t+1) _ _ _ _ _ _ _ _
theorem zv6 {γ:Type} (u:γ) (w:List Int):∀ (m t:Nat) (a b c d e f g h:Int),zsp w (fun _ _ _ _ _ _ _ _=>u) m t a b c d e f g h=u
 | 0,_,_,_,_,_,_,_,_,_=>rfl
 | m+1,t,a,b,c,d,e,f,g,h=>zv6 u w m (t+1) _ _ _ _ _ _ _ _
theorem zDU {β:Type} (L:Nat) {t:Nat} (ht:t < 64) (a b c d e f g h:Int) (b2:List V) (z0 z1 z2 z3 z4 z5 z6 z7:Int) {w:List Int} (hw:w.length=64) (kh:zfY β) (kx:zgR β):zcg xn zd L a b c d e f g h (t:Int) b2 z0 z1 z2 z3 z4 z5 z6 z7 (row .u32 w) kh kx=kh (IntKind.wrap .u32 (t1 e f g h (kc.getD t 0) (w.getD t 0)+t2 a b c)) a b c (IntKind.wrap .u32 (d+t1 e f g h (kc.getD t 0) (w.getD t 0))) e f g ((t+1:Nat):Int) b2 z0 z1 z2 z3 z4 z5 z6 z7 (row .u32 w):=by
 unfold zcg
 have c0:0≤(t:Int)∧(t:Int) < ((64:Nat):Int):=by omega
 have ek:∀ κ:Int→Option β,cI .u32 (List.drop t gk_sha_k) 0 κ=κ (kc.getD t 0):=by
  intro κ
  rw [zDl,zEO,zL (by rw [List.length_drop,zDn]; omega)]
  simp [List.getD_eq_getElem?_getD]
 rw [zD (by omega:(t:Int) < 64)]
 simp only [zw,yh c0,zBY,Int.toNat_natCast,Nat.mul_one,Nat.zero_add,ek,zL (show t < w.length by omega),zcm (show t≤1000000000 by omega)]
 exact Eq.trans rfl rfl
theorem zCM {β:Type} (L:Nat) {t:Nat} (ht:t < 64) (a b c d e f g h:Int) (b2:List V) (z0 z1 z2 z3 z4 z5 z6 z7:Int) {w:List Int} (hw:w.length=64) (kh:zfb β) (kx:zfP β):zbW zj zi xd L a b c d e f g h (t:Int) b2 z0 z1 z2 z3 z4 z5 z6 z7 (row .u32 w) gk_sha_k kh kx=kh (IntKind.wrap .u32 (t1 e f g h (kc.getD t 0) (w.getD t 0)+t2 a b c)) a b c (IntKind.wrap .u32 (d+t1 e f g h (kc.getD t 0) (w.getD t 0))) e f g ((t+1:Nat):Int) b2 z0 z1 z2 z3 z4 z5 z6 z7 (row .u32 w) gk_sha_k:=by
 unfold zbW
 have c0:0≤(t:Int)∧(t:Int) < ((64:Nat):Int):=by omega
 have ek:∀ κ:Int→Option β,cI .u32 gk_sha_k t κ=κ (kc.getD t 0):=by
  intro κ
  rw [zDl,zL (by rw [zDn]; omega)]
 rw [zD (by omega:(t:Int) < 64)]
 simp only [zw,yh c0,zEq,Int.toNat_natCast,Nat.mul_one,Nat.zero_add,ek,zL (show t < w.length by omega),zcm (show t≤1000000000 by omega)]
 exact Eq.trans rfl rfl
theorem zyN {β:Type} (L:Nat) (b2:List V) (z0 z1 z2 z3 z4 z5 z6 z7:Int) {w:List Int} (hw:w.length=64) (kx:zgR β):∀ (n m t:Nat) (a b c d e f g h:Int),t+m=64→m < n→zbn xn zd L kx n a b c d e f g h (t:Int) b2 z0 z1 z2 z3 z4 z5 z6 z7 (row .u32 w)=zsp w (fun a b c d e f g h=>kx a b c d e f g h b2 z0 z1 z2 z3 z4 z5 z6 z7) m t a b c d e f g h
 | 0,m,t,_,_,_,_,_,_,_,_,_,h=>by omega
 | n+1,0,t,a,b,c,d,e,f,g,h,h1,h2=>by
  unfold zbn zcg
  rw [zE (by omega)]; exact Eq.trans rfl rfl
 | n+1,m+1,t,a,b,c,d,e,f,g,h,h1,h2=>by
  unfold zbn
  rw [zDU L (by omega) a b c d e f g h b2 z0 z1 z2 z3 z4 z5 z6 z7 hw]
  exact zyN L b2 z0 z1 z2 z3 z4 z5 z6 z7 hw kx n m (t+1) _ _ _ _ _ _ _ _ (by omega) (by omega)
theorem zxP {β:Type} (L:Nat) (b2:List V) (z0 z1 z2 z3 z4 z5 z6 z7:Int) {w:List Int} (hw:w.length=64) (kx:zfP β):∀ (n m t:Nat) (a b c d e f g h:Int),t+m=64→m < n→zba zj zi xd L kx n a b c d e f g h (t:Int) b2 z0 z1 z2 z3 z4 z5 z6 z7 (row .u32 w) gk_sha_k=zsp w (fun a b c d e f g h=>kx a b c d e f g h b2 z0 z1 z2 z3 z4 z5 z6 z7) m t a b c d e f g h
 | 0,m,t,_,_,_,_,_,_,_,_,_,h=>by omega
 | n+1,0,t,a,b,c,d,e,f,g,h,h1,h2=>by
  unfold zba zbW
  rw [zE (by omega)]; exact Eq.trans rfl rfl
 | n+1,m+1,t,a,b,c,d,e,f,g,h,h1,h2=>by
  unfold zba
  rw [zCM L (by omega) a b c d e f g h b2 z0 z1 z2 z3 z4 z5 z6 z7 hw]
  exact zxP L b2 z0 z1 z2 z3 z4 z5 z6 z7 hw kx n m (t+1) _ _ _ _ _ _ _ _ (by omega) (by omega)
def zvh (hs:List Int) (a b c d e f g h:Int):List Int :=
 [IntKind.wrap .u32 (hs.getD 0 0+a),IntKind.wrap .u32 (hs.getD 1 0+b),IntKind.wrap .u32 (hs.getD 2 0+c),IntKind.wrap .u32 (hs.getD 3 0+d),IntKind.wrap .u32 (hs.getD 4 0+e),IntKind.wrap .u32 (hs.getD 5 0+f),IntKind.wrap .u32 (hs.getD 6 0+g),IntKind.wrap .u32 (hs.getD 7 0+h)]
def zx9 (hs l:List Int):List Int :=
 zsp (znb l) (zvh hs) 64 0 (hs.getD 0 0) (hs.getD 1 0) (hs.getD 2 0) (hs.getD 3 0) (hs.getD 4 0) (hs.getD 5 0) (hs.getD 6 0) (hs.getD 7 0)
theorem zkH (hs l:List Int):(zx9 hs l).length=8 :=
 ((zqa List.length (znb l) (zvh hs) 64 0 _ _ _ _ _ _ _ _).symm).trans (zv6 8 (znb l) 64 0 _ _ _ _ _ _ _ _)
theorem zEw {β:Type} (L:Nat) {hs:List Int} (hh:hs.length=8) (k:List V→Option β) (a b c d e f g h z0 z1 z2 z3 z4 z5 z6 z7:Int):zc0 xn zd L a b c d e f g h (row .u32 hs) z0 z1 z2 z3 z4 z5 z6 z7 k=k (row .u32 (zvh hs a b c d e f g h)):=by
 unfold zc0
 simp only [zw,zL (show 0 < hs.length by omega),zL (show 1 < hs.length by omega),zL (show 2 < hs.length by omega),zL (show 3 < hs.length by omega),zL (show 4 < hs.length by omega),zL (show 5 < hs.length by omega),zL (show 6 < hs.length by omega),zL (show 7 < hs.length by omega)]
 exact (yh ⟨trivial,rfl,by decide⟩ _).trans rfl
theorem zEj {β:Type} (L:Nat) {hs:List Int} (hh:hs.length=8) (k:List V→Option β) (a b c d e f g h z0 z1 z2 z3 z4 z5 z6 z7:Int):zcF zj zi xd L a b c d e f g h (row .u32 hs) z0 z1 z2 z3 z4 z5 z6 z7 k=k (row .u32 (zvh hs a b c d e f g h)):=by
 unfold zcF
 simp only [zw,zL (show 0 < hs.length by omega),zL (show 1 < hs.length by omega),zL (show 2 < hs.length by omega),zL (show 3 < hs.length by omega),zL (show 4 < hs.length by omega),zL (show 5 < hs.length by omega),zL (show 6 < hs.length by omega),zL (show 7 < hs.length by omega)]
 exact (yh ⟨trivial,rfl,by decide⟩ _).trans rfl
theorem zBK {β:Type} {L:Nat} (hL:100≤L) {hs l:List Int} (hh:hs.length=8) (hl:l.length=64) (hb:∀ x ∈ l,0≤x∧x≤255) (k:List V→Option β):yg β L (row .u32 hs) (row .u8 l) k=k (row .u32 (zx9 hs l)):=by
 unfold yg zjp zmU
 have e1:List.take 64 (row .u8 l)=row .u8 l:=List.take_of_length_le (by rw [yw]; omega)
 rw [yh (by rw [yw]; omega),e1]
 refine (zBr hL hl hb _).trans ?_
 rw [yh ⟨by rw [yw,zgJ],by decide⟩,zw,zcp (by rw [yw,zgJ]; rfl)]
 rw [zL (show 0 < hs.length by omega),zL (show 1 < hs.length by omega),zL (show 2 < hs.length by omega),zL (show 3 < hs.length by omega),zL (show 4 < hs.length by omega),zL (show 5 < hs.length by omega),zL (show 6 < hs.length by omega),zL (show 7 < hs.length by omega)]
 refine (zyN L (row .u32 hs) 0 0 0 0 0 0 0 0 (zgJ l) _ L 64 0 _ _ _ _ _ _ _ _ rfl (by omega)).trans ?_
 simp only [zEw L hh]
 exact zqa (fun r=>k (row .u32 r)) (znb l) (zvh hs) 64 0 _ _ _ _ _ _ _ _
theorem zz1 {β:Type} (L:Nat) (k:List V→Option β):zi β L k=k gk_sha_k:=by
 unfold zi zjQ
 rw [zw]
 exact (yh ⟨rfl,rfl,by decide⟩ _).trans rfl
theorem zAS {β:Type} {L:Nat} (hL:100≤L) {hs l:List Int} (hh:hs.length=8) (hl:l.length=64) (hb:∀ x ∈ l,0≤x∧x≤255) (k:List V→Option β):xe β L (row .u32 hs) (row .u8 l) k=k (row .u32 (zx9 hs l)):=by
 unfold xe zgU zkN
 have e1:List.take 64 (row .u8 l)=row .u8 l:=List.take_of_length_le (by rw [yw]; omega)
 rw [yh (by rw [yw]; omega),e1]
 refine (zz4 hL hl hb _).trans ?_
 refine (zz1 L _).trans ?_
 rw [yh ⟨by rw [yw,zgJ],by decide⟩,zw,zcp (cs:=List.replicate 64 (V.sc (.int .u32 (0:Int)))) (new:=row .u32 (znb l)) (by rw [yw,zgJ]; rfl)]
 rw [yh ⟨rfl,by decide⟩,zw,zcp (cs:=List.replicate 64 (V.sc (.int .u32 (0:Int)))) (new:=gk_sha_k) rfl]
 rw [zL (show 0 < hs.length by omega),zL (show 1 < hs.length by omega),zL (show 2 < hs.length by omega),zL (show 3 < hs.length by omega),zL (show 4 < hs.length by omega),zL (show 5 < hs.length by omega),zL (show 6 < hs.length by omega),zL (show 7 < hs.length by omega)]
 refine (zxP L (row .u32 hs) 0 0 0 0 0 0 0 0 (zgJ l) _ L 64 0 _ _ _ _ _ _ _ _ rfl (by omega)).trans ?_
 simp only [zEj L hh]
 exact zqa (fun r=>k (row .u32 r)) (znb l) (zvh hs) 64 0 _ _ _ _ _ _ _ _
end
section
set_option linter.unusedVariables false
set_option linter.unusedSimpArgs false
def zs (n:Nat):Nat:=(64 - (n+9) % 64) % 64
def pb (n i:Nat):Int:=IntKind.wrap .u8 (zcZ .u64 (IntKind.wrap .u64 ((8:Int) * (n:Int))) ((56 - 8 * i:Nat):Int))
def pbs (n:Nat):Nat→Nat→List Int
 | 0,_=>[]
 | m+1,i=>pb n i::pbs n m (i+1)
theorem zCc (n:Nat):∀ m i:Nat,(pbs n m i).length=m
 | 0,_=>rfl
 | m+1,i=>by rw [pbs,List.length_cons,zCc n m]
theorem zkv (n:Int):0≤IntKind.wrap .u8 n∧IntKind.wrap .u8 n≤255:=by
 unfold IntKind.wrap
 simp only [IntKind.signed,Bool.false_and,Bool.false_eq_true,if_false]
 have h1:=Int.emod_nonneg n (show (2:Int) ^ IntKind.bits .u8≠0 by decide)
 have h2:=Int.emod_lt_of_pos n (show (0:Int) < 2 ^ IntKind.bits .u8 by decide)
 exact ⟨h1,Int.le_of_lt_add_one h2⟩
theorem zDp (n:Nat):∀ m i:Nat,∀ x ∈ pbs n m i,0≤x∧x≤255
 | 0,_=>fun x h=>by simp [pbs] at h
 | m+1,i=>fun x h=>by
  rw [pbs,List.mem_cons] at h
  rcases h with rfl | h
  ·exact zkv _
  ·exact zDp n m (i+1) x h
def zeP (n:Nat):List Int:=(128::List.replicate (zs n) 0)++pbs n 8 0
theorem zpK (n:Nat):(zeP n).length=9+zs n:=by simp [zeP,zCc]; omega
theorem zFy (n:Nat):∀ x ∈ zeP n,0≤x∧x≤255:=by
 intro x hx
 rw [zeP,List.mem_append,List.mem_cons] at hx
 rcases hx with (rfl | hx) | hx
 ·exact ⟨by decide,by decide⟩
 ·rw [List.eq_of_mem_replicate hx]; exact ⟨by decide,by decide⟩
 ·exact zDp n 8 0 x hx
theorem zxA (n:Nat):zs n < 64:=Nat.mod_lt _ (by decide)
theorem zDM (n:Nat):(n+9+zs n) % 64=0:=by unfold zs; omega
theorem zGl (n k:Nat) (h:k < zs n):(n+9+k) % 64≠0:=by unfold zs at h; omega
theorem zsm (x:Int):yp 1 1 [V.sc (.int .u8 x)]=zq .u8 [x]:=rfl
theorem zFd {β:Type} (L:Nat) {n i:Nat} (hi:i < 8) (b:Nat) {acc:List Int} (ha:acc.length≤1000000) (kh:Int→List (List V)→Int→Nat→Option β) (kx:List (List V)→Nat→Option β):zdJ L (n:Int) (zq .u8 acc) (i:Int) b kh kx=kh (n:Int) (zq .u8 (acc++[pb n i])) ((i+1:Nat):Int) b:=by
 unfold zdJ
 have e8:IntKind.wrap .i64 ((8:Int) * (i:Int))=((8 * i:Nat):Int):=by rw [zaJ (by omega) (by omega)]; omega
 have e56:IntKind.wrap .i64 ((56:Int) - ((8 * i:Nat):Int))=((56 - 8 * i:Nat):Int):=by rw [zaJ (by omega) (by omega)]; omega
 rw [zD (by omega:(i:Int) < 8)]
 simp only [zw,e8,e56,zsm,zaX,zcm (show i≤1000000000 by omega)]
 rw [yh (by omega),yh (by simp [yv,yl]; omega)]
 exact Eq.trans rfl rfl
theorem zA5 {β:Type} (L n b:Nat) (kx:List (List V)→Nat→Option β):∀ (f m i:Nat) (acc:List Int),i+m=8→m < f→acc.length≤900000+i→zbr L kx f (n:Int) (zq .u8 acc) (i:Int) b=kx (zq .u8 (acc++pbs n m i)) b
 | 0,m,i,acc,_,h,_=>by omega
 | f+1,0,i,acc,h1,h2,h3=>by
  unfold zbr zdJ
  rw [zE (by omega),pbs,List.append_nil]
 | f+1,m+1,i,acc,h1,h2,h3=>by
  unfold zbr
  rw [zFd L (by omega) b (by omega)]
  refine (zA5 L n b kx f m (i+1) _ (by omega) (by omega) (by simp; omega)).trans ?_
  rw [pbs,List.append_assoc]; exact Eq.trans rfl rfl
theorem zGd {β:Type} {L:Nat} (hL:100≤L) {n:Nat} (hn:n≤100000000) (k k1:List (List V)→Option β):zn β L (n:Int) k k1=k1 (zq .u8 (zeP n)):=by
 unfold zn zqn zuW
 have z64:=zxA n
 have e0:IntKind.wrap .u64 ((n:Int)+(9:Int))=((n+9:Nat):Int):=by rw [zaZ (by omega) (by omega)]; omega
 have e1:Int.tmod ((n+9:Nat):Int) (64:Int)=(((n+9) % 64:Nat):Int):=(Int.ofNat_tmod (n+9) 64).symm
 have e2:IntKind.wrap .u64 ((64:Int) - (((n+9) % 64:Nat):Int))=((64 - (n+9) % 64:Nat):Int):=by rw [zaZ (by omega) (by omega)]; omega
 have e3:Int.tmod ((64 - (n+9) % 64:Nat):Int) (64:Int)=((zs n:Nat):Int):=(Int.ofNat_tmod (64 - (n+9) % 64) 64).symm
 have e4:IntKind.wrap .u64 ((1:Int)+((zs n:Nat):Int))=((1+zs n:Nat):Int):=by rw [zaZ (by omega) (by omega)]; omega
 have e5:IntKind.wrap .u64 ((9:Int)+((zs n:Nat):Int))=((9+zs n:Nat):Int):=by rw [zaZ (by omega) (by omega)]; omega
 have e6:List.flatten (List.replicate (9+zs n) [V.sc (.int .u8 (0:Int))])=row .u8 (List.replicate (9+zs n) 0):=by
  rw [List.flatten_replicate_singleton,zo6]
 have e7:zr (row .u8 (List.replicate (9+zs n) 0)) 0 [V.sc (.int .u8 (128:Int))]=row .u8 (128::List.replicate (8+zs n) 0):=by
  rw [zfp (by simp; omega),show 9+zs n=(8+zs n)+1 by omega,List.replicate_succ,List.set_cons_zero]
 simp only [zw,e0,e1,e2,e3,e4,e5,Int.toNat_natCast,e6,e7]
 rw [yh ⟨by omega,by omega,by simp [yl]; omega,by simp [yl]; omega⟩,yh ⟨by omega,by omega⟩,yh ⟨trivial,by simp [yw]; omega⟩]
 obtain ⟨L',rfl⟩:=Nat.exists_eq_add_of_le hL
 rw [show 100+L'=(99+L')+1 by omega]
 refine (show _=zho (99+L'+1) (n:Int) (1+zs n) (0:Int) (row .u8 (128::List.replicate (8+zs n) 0)) (fun p0 p4 p18 b15=>zbr (99+L'+1) (fun p4 b15=>zdx (99+L'+1) p4 b15 k1) (99+L') p0 p4 p18 b15) (fun p4l b15=>ziE (99+L'+1) p4l b15 k) from rfl).trans ?_
 unfold zho
 have e8:IntKind.wrap .i64 ((8:Int) * (0:Int))=((8 * 0:Nat):Int):=by rw [zaJ (by omega) (by omega)]; omega
 have e56:IntKind.wrap .i64 ((56:Int) - ((8 * 0:Nat):Int))=((56 - 8 * 0:Nat):Int):=by rw [zaJ (by omega) (by omega)]; omega
 have e9:IntKind.wrap .i64 ((0:Int)+(1:Int))=((1:Nat):Int):=zcm (i:=0) (by omega)
 have ec:yp 1 (1+zs n) (row .u8 (128::List.replicate (8+zs n) 0))=zq .u8 (128::List.replicate (zs n) 0):=by
  rw [zoM _ _ _ (by simp; omega),show 1+zs n=zs n+1 by omega,List.take_succ_cons,List.take_replicate,show min (zs n) (8+zs n)=zs n by omega]
 rw [zD (by decide:(0:Int) < 8)]
 simp only [zw,e8,e56,e9,zsm,ec,zaX]
 rw [yh ⟨trivial,by simp [yw]; omega,by simp [yw]⟩,yh (by omega),yh (by simp [yv,yl]; omega)]
 refine (zA5 _ n _ _ (99+L') 7 1 _ rfl (by omega) (by simp; omega)).trans ?_
 unfold zdx zeP
 rw [pbs,List.append_assoc]; exact Eq.trans rfl rfl
theorem zxa {β:Type} (L:Nat) {n:Nat} (hn:n≤100000000) (kx:Int→List (List V)→Option β):∀ (f m k:Nat),k+m=zs n→m < f→zfM L kx f (n:Int) (zq .u8 (128::List.replicate k 0))=kx (n:Int) (zq .u8 (128::List.replicate (zs n) 0))
 | 0,m,k,_,h=>by omega
 | f+1,m,k,h1,h2=>by
  have z64:=zxA n
  unfold zfM zmi
  have e0:IntKind.wrap .u64 (((zq .u8 (128::List.replicate k 0)).length:Nat):Int)=((k+1:Nat):Int):=by
   rw [yv,List.length_cons,List.length_replicate,zaZ (by omega) (by omega)]
  have e1:IntKind.wrap .u64 ((n:Int)+((k+1:Nat):Int))=((n+(k+1):Nat):Int):=by rw [zaZ (by omega) (by omega)]; omega
  have e2:IntKind.wrap .u64 (((n+(k+1):Nat):Int)+(8:Int))=((n+9+k:Nat):Int):=by rw [zaZ (by omega) (by omega)]; omega
  have e3:Int.tmod ((n+9+k:Nat):Int) (64:Int)=(((n+9+k) % 64:Nat):Int):=(Int.ofNat_tmod (n+9+k) 64).symm
  simp only [zw,e0,e1,e2,e3]
  rw [zyB]
  match m,h1,h2 with
  | 0,h1,h2 =>
   have:k=zs n:=by omega
   subst this
   rw [if_pos (by rw [zDM]; rfl)]
  | m+1,h1,h2 =>
   have hz:=zGl n k (by omega)
   rw [if_neg (by omega)]
   rw [zsm,zaX]
   rw [yh (by simp [yv,yl]; omega)]
   have e4:(128::List.replicate k (0:Int))++[0]=128::List.replicate (k+1) 0:=by
    rw [List.cons_append,List.replicate_succ']
   rw [e4]
   exact zxa L hn kx f m (k+1) (by omega) (by omega)
theorem zDL {β:Type} (L:Nat) {n i:Nat} (hi:i < 8) {acc:List Int} (ha:acc.length≤1000000) (kh:Int→List (List V)→Int→Option β) (kx:List (List V)→Option β):zd9 L (n:Int) (zq .u8 acc) ((7:Int) - (i:Int)) kh kx=kh (n:Int) (zq .u8 (acc++[pb n i])) ((7:Int) - ((i+1:Nat):Int)):=by
 unfold zd9
 have e8:IntKind.wrap .i64 ((8:Int) * ((7:Int) - (i:Int)))=((56 - 8 * i:Nat):Int):=by rw [zaJ (by omega) (by omega)]; omega
 have e1:IntKind.wrap .i64 (((7:Int) - (i:Int)) - (1:Int))=(7:Int) - ((i+1:Nat):Int):=by rw [zaJ (by omega) (by omega)]; omega
 rw [zD (by omega:(7:Int) - (i:Int) ≥ 0)]
 simp only [zw,e8,e1,zsm,zaX]
 rw [yh (by omega),yh (by simp [yv,yl]; omega)]
 exact Eq.trans rfl rfl
theorem zzc {β:Type} (L n:Nat) (kx:List (List V)→Option β):∀ (f m i:Nat) (acc:List Int),i+m=8→m < f→acc.length≤900000+i→zcP L kx f (n:Int) (zq .u8 acc) ((7:Int) - (i:Int))=kx (zq .u8 (acc++pbs n m i))
 | 0,m,i,acc,_,h,_=>by omega
 | f+1,0,i,acc,h1,h2,h3=>by
  unfold zcP zd9
  rw [zE (by omega),pbs,List.append_nil]
 | f+1,m+1,i,acc,h1,h2,h3=>by
  unfold zcP
  rw [zDL L (by omega) (by omega)]
  refine (zzc L n kx f m (i+1) _ (by omega) (by omega) (by simp; omega)).trans ?_
  rw [pbs,List.append_assoc]; exact Eq.trans rfl rfl
theorem zFB {β:Type} {L:Nat} (hL:100≤L) {n:Nat} (hn:n≤100000000) (k:List (List V)→Option β):xh β L (n:Int) k=k (zq .u8 (zeP n)):=by
 unfold xh zni zrl
 have z64:=zxA n
 refine (zxa L hn _ L (zs n) 0 (by omega) (by omega)).trans ?_
 unfold zfA zjU
 refine (zzc L n _ L 8 0 _ rfl (by omega) (by simp; omega)).trans ?_
 unfold zhw zeP
 exact Eq.trans rfl rfl
theorem zDW {β:Type} {L:Nat} (hL:100≤L) {a b:List Int} (ha:a.length≤1000000000) (hb:b.length≤1000000000) (k:List (List V)→Option β):xm β L (yp 1 2 [V.sl 1 (zq .u8 a),V.sl 1 (zq .u8 b)]) k=k (zq .u8 (a++b)):=by
 unfold xm zqD zu0
 obtain ⟨L',rfl⟩:=Nat.exists_eq_add_of_le hL
 have es:yp 1 2 [V.sl 1 (zq .u8 a),V.sl 1 (zq .u8 b)]=[[V.sl 1 (zq .u8 a)],[V.sl 1 (zq .u8 b)]]:=rfl
 rw [es,show 100+L'=(97+L')+1+1+1 by omega]
 refine (show _=zcq (97+L'+1+1+1) [] [[V.sl 1 (zq .u8 a)],[V.sl 1 (zq .u8 b)]] ((2:Nat):Int) ((0:Nat):Int) (fun p3 p6 p7 p8=>zeG (97+L'+1+1+1) _ (97+L'+1+1) p3 p6 p7 p8) (fun p3=>zdi (97+L'+1+1+1) p3 k) from rfl).trans ?_
 unfold zcq
 rw [zD (by decide),zbp (c:=[V.sl 1 (zq .u8 a)]) rfl,zmF (sz:=1) (es:=zq .u8 a) rfl,yh (by simp [yv,yl]; omega),zw,List.nil_append,zw,zcm (i:=0) (by omega)]
 refine (show _=zcq (97+L'+1+1+1) (zq .u8 a) [[V.sl 1 (zq .u8 a)],[V.sl 1 (zq .u8 b)]] ((2:Nat):Int) ((1:Nat):Int) (fun p3 p6 p7 p8=>zeG (97+L'+1+1+1) _ (97+L'+1) p3 p6 p7 p8) (fun p3=>zdi (97+L'+1+1+1) p3 k) from rfl).trans ?_
 unfold zcq
 rw [zD (by decide),zbp (c:=[V.sl 1 (zq .u8 b)]) rfl,zmF (sz:=1) (es:=zq .u8 b) rfl,yh (by simp [yv,yl]; omega),zw,zaX,zw,zcm (i:=1) (by omega)]
 refine (show _=zcq (97+L'+1+1+1) (zq .u8 (a++b)) [[V.sl 1 (zq .u8 a)],[V.sl 1 (zq .u8 b)]] ((2:Nat):Int) ((2:Nat):Int) (fun p3 p6 p7 p8=>zeG (97+L'+1+1+1) _ (97+L') p3 p6 p7 p8) (fun p3=>zdi (97+L'+1+1+1) p3 k) from rfl).trans ?_
 unfold zcq
 rw [zE (by decide)]
 unfold zdi
 exact Eq.trans rfl rfl
end
section
set_option linter.unusedVariables false
set_option linter.unusedSimpArgs false
def init0:List Int:=gk_sha_initial.map fun v=>match v with | .sc (.int _ n)=>n | _=>0
theorem zqF:init0.length=8:=rfl
def zyG:Nat→Nat→List Int→List Int→List Int
 | 0,_,_,h=>h
 | m+1,i,p,h=>zyG m (i+1) p (zx9 h ((p.drop (64 * i)).take 64))
theorem zwr:∀ (m i:Nat) (p h:List Int),h.length=8→(zyG m i p h).length=8
 | 0,_,_,_,hh=>hh
 | m+1,i,p,h,hh=>by rw [zyG]; exact zwr m _ _ _ (zkH _ _)
theorem zup (k:IntKind):∀ l:List Int,List.flatten (zq k l)=row k l
 | []=>rfl
 | x::l=>by
  have:=zup k l
  simp only [zq,row] at this
  simp only [zq,row,List.map_cons,List.flatten_cons,this,List.singleton_append]
theorem zo3 {p:List Int} {i:Nat} (h:64 * (i+1)≤p.length):((p.drop (64 * i)).take 64).length=64:=by
 rw [List.length_take,List.length_drop]; omega
theorem zDq {p:List Int} (hp:∀ x ∈ p,0≤x∧x≤255) (i:Nat):∀ x ∈ (p.drop (64 * i)).take 64,0≤x∧x≤255 :=
 fun x hx=>hp x (List.mem_of_mem_drop (List.mem_of_mem_take hx))
theorem zBP (p:List Int) (n:Nat):List.take ((zq .u8 p).length - n) (List.drop n (zq .u8 p))=zq .u8 (p.drop n):=by
 rw [zD2,List.take_of_length_le (by rw [yv,yv,List.length_drop]; omega)]
theorem zEt {β:Type} {L:Nat} (hL:100≤L) {p:List Int} (hp:∀ x ∈ p,0≤x∧x≤255) (hs:p.length≤1000000000) {N i:Nat} (hi:i < N) (hN:64 * (i+1)≤p.length) (b2:List V) {h:List Int} (hh:h.length=8) (kh:List (List V)→Int→Int→List V→List V→Option β) (kx:List V→List V→Option β):zfN zn xm yg L (zq .u8 p) (N:Int) (i:Int) b2 (row .u32 h) kh kx=kh (zq .u8 p) (N:Int) ((i+1:Nat):Int) b2 (row .u32 (zx9 h ((p.drop (64 * i)).take 64))):=by
 unfold zfN
 have e9:IntKind.wrap .i64 ((64:Int) * (i:Int))=((64 * i:Nat):Int):=by rw [zaJ (by omega) (by omega)]; omega
 have e8:List.take 8 (row .u32 h)=row .u32 h:=List.take_of_length_le (by rw [yw]; omega)
 have ec:List.take 64 (row .u8 ((p.drop (64 * i)).take 64))=row .u8 ((p.drop (64 * i)).take 64):=List.take_of_length_le (by rw [yw,zo3 hN]; omega)
 rw [zD (by omega:(i:Int) < (N:Int)),yh (by rw [yw]; omega),zw,e9,Int.toNat_natCast,zBP,zyW,zup,e8,ec]
 rw [yh ⟨by omega,by rw [yv]; omega⟩,yh (by rw [yv,List.length_drop]; omega)]
 refine (zBK hL hh (zo3 hN) (zDq hp i) _).trans ?_
 rw [yh ⟨by rw [yw,zkH],by rw [yw]; omega⟩,zw,zw,zcp (by rw [yw,yw,zkH,hh]),zcm (by omega)]
theorem zAd {β:Type} {L:Nat} (hL:100≤L) {p:List Int} (hp:∀ x ∈ p,0≤x∧x≤255) (hs:p.length≤1000000000) {N:Nat} (hN:64 * N≤p.length) (b2:List V) (kx:List V→List V→Option β):∀ (f m i:Nat) (h:List Int),h.length=8→i+m=N→m < f→zdT zn xm yg L kx f (zq .u8 p) (N:Int) (i:Int) b2 (row .u32 h)=kx b2 (row .u32 (zyG m i p h))
 | 0,m,i,h,_,_,hf=>by omega
 | f+1,0,i,h,hh,h1,h2=>by
  unfold zdT zfN
  rw [zE (by omega)]; exact Eq.trans rfl rfl
 | f+1,m+1,i,h,hh,h1,h2=>by
  unfold zdT
  rw [zEt hL hp hs (by omega) (by omega) b2 hh]
  exact zAd hL hp hs hN b2 kx f m (i+1) _ (zkH _ _) (by omega) (by omega)
theorem zDQ {β:Type} {L:Nat} (hL:100≤L) {p:List Int} (hp:∀ x ∈ p,0≤x∧x≤255) (hs:p.length≤1000000000) {i:Nat} (hN:64 * (i+1)≤p.length) (b2:List V) {h:List Int} (hh:h.length=8) (kh:List (List V)→Int→List V→List V→Option β) (kx:List V→List V→Option β):zeb xh zf xe L (zq .u8 p) ((64 * i:Nat):Int) b2 (row .u32 h) kh kx=kh (zq .u8 p) ((64 * (i+1):Nat):Int) b2 (row .u32 (zx9 h ((p.drop (64 * i)).take 64))):=by
 unfold zeb
 have e9:IntKind.wrap .i64 (((64 * i:Nat):Int)+(64:Int))=((64 * (i+1):Nat):Int):=by rw [zaJ (by omega) (by omega)]; omega
 have e8:List.take 8 (row .u32 h)=row .u32 h:=List.take_of_length_le (by rw [yw]; omega)
 have em:min (zq .u8 (p.drop (64 * i))).length 64=64:=by rw [yv,List.length_drop]; omega
 have er:zr (List.replicate 64 (V.sc (.int .u8 (0:Int)))) 0 (row .u8 ((p.drop (64 * i)).take 64))=row .u8 ((p.drop (64 * i)).take 64):=zcp (by rw [yw,zo3 hN,List.length_replicate])
 have ec:List.take 64 (row .u8 ((p.drop (64 * i)).take 64))=row .u8 ((p.drop (64 * i)).take 64):=List.take_of_length_le (by rw [yw,zo3 hN]; omega)
 rw [zw,e9,zD (by rw [yv]; omega),Int.toNat_natCast,zBP,em,zyW,zup,er,e8,zw,ec]
 rw [yh ⟨by omega,by rw [yv]; omega⟩,yh (by rw [yw]; omega),yh (by rw [yw,zo3 hN]; omega)]
 refine (zAS hL hh (zo3 hN) (zDq hp i) _).trans ?_
 rw [yh ⟨by rw [yw,zkH],by rw [yw]; omega⟩,zw,zw,zcp (by rw [yw,yw,zkH,hh])]
theorem zy4 {β:Type} {L:Nat} (hL:100≤L) {p:List Int} (hp:∀ x ∈ p,0≤x∧x≤255) (hs:p.length≤1000000000) {N:Nat} (hN:64 * N=p.length) (b2:List V) (kx:List V→List V→Option β):∀ (f m i:Nat) (h:List Int),h.length=8→i+m=N→m < f→zcN xh zf xe L kx f (zq .u8 p) ((64 * i:Nat):Int) b2 (row .u32 h)=kx b2 (row .u32 (zyG m i p h))
 | 0,m,i,h,_,_,hf=>by omega
 | f+1,0,i,h,hh,h1,h2=>by
  unfold zcN zeb
  have e9:IntKind.wrap .i64 (((64 * i:Nat):Int)+(64:Int))=((64 * (i+1):Nat):Int):=by rw [zaJ (by omega) (by omega)]; omega
  rw [zw,e9,zE (by rw [yv]; omega)]; exact Eq.trans rfl rfl
 | f+1,m+1,i,h,hh,h1,h2=>by
  unfold zcN
  rw [zDQ hL hp hs (by omega) b2 hh]
  exact zy4 hL hp hs hN b2 kx f m (i+1) _ (zkH _ _) (by omega) (by omega)
def ob (h:List Int) (i:Nat):Int:=IntKind.wrap .u8 (zcZ .u32 (h.getD (i / 4) 0) ((24 - i % 4 * 8:Nat):Int))
def zq5 (h:List Int):List Int:=(List.range 32).map (ob h)
theorem zs3 (h:List Int):(zq5 h).length=32:=by simp [zq5]
theorem zFb (h:List Int) {i:Nat} (hi:i < 32):(zq5 h).getD i 0=ob h i:=by
 simp [zq5,List.getD_eq_getElem?_getD,hi]
theorem zFW (h:List Int):∀ x ∈ zq5 h,0≤x∧x≤255:=by
 intro x hx
 rw [zq5,List.mem_map] at hx
 obtain ⟨i,_,rfl⟩:=hx
 exact zkv _
theorem zEy {l m:List Int} (h:l.length=m.length) (hg:∀ i,i < l.length→l.getD i 0=m.getD i 0):l=m:=by
 apply List.ext_getElem h
 intro i h1 h2
 have:=hg i h1
 rwa [List.getD_eq_getElem?_getD,List.getD_eq_getElem?_getD,List.getElem?_eq_getElem h1,List.getElem?_eq_getElem h2] at this
theorem zCi {h z:List Int} (hz:z.length=32) (hg:∀ j,j < 32→z.getD j 0=ob h j):z=zq5 h :=
 zEy (by rw [hz,zs3]) fun i hi=>by rw [zFb h (by omega)]; exact hg i (by omega)
theorem zDt {β:Type} (L:Nat) {i:Nat} (hi:i < 32) (b2:List V) {h z:List Int} (hh:h.length=8) (hz:z.length=32) (kh:Int→List V→List V→List V→Option β) (kx:List V→List V→Option β):zd5 zn xm yg L (i:Int) b2 (row .u32 h) (row .u8 z) kh kx=kh ((i+1:Nat):Int) b2 (row .u32 h) (row .u8 (z.set i (ob h i))):=by
 unfold zd5
 have e1:IntKind.wrap .i64 (Int.tdiv (i:Int) (4:Int))=((i / 4:Nat):Int):=by
  rw [show Int.tdiv (i:Int) (4:Int)=((i / 4:Nat):Int) from (Int.ofNat_tdiv i 4).symm,zaJ (by omega) (by omega)]
 have e2:Int.tmod (i:Int) (4:Int)=((i % 4:Nat):Int):=(Int.ofNat_tmod i 4).symm
 have e3:IntKind.wrap .i64 (((i % 4:Nat):Int) * (8:Int))=((i % 4 * 8:Nat):Int):=by rw [zaJ (by omega) (by omega)]; omega
 have e4:IntKind.wrap .i64 ((24:Int) - ((i % 4 * 8:Nat):Int))=((24 - i % 4 * 8:Nat):Int):=by rw [zaJ (by omega) (by omega)]; omega
 have c1:0≤((i / 4:Nat):Int)∧((i / 4:Nat):Int) < ((8:Nat):Int):=by omega
 have c2:0≤(i:Int)∧(i:Int) < ((32:Nat):Int):=by omega
 have c3:0≤((24 - i % 4 * 8:Nat):Int):=by omega
 have cl:True∧i+1≤32:=⟨trivial,by omega⟩
 rw [zD (by omega:(i:Int) < 32)]
 simp only [zw,e1,e2,e3,e4,yh c1,yh c2,yh c3,Int.toNat_natCast,Nat.mul_one,Nat.zero_add,zL (show i / 4 < h.length by omega),yw,hz,zfp (show i < z.length by omega),zcm (show i≤1000000000 by omega)]
 rw [yh cl]
 exact Eq.trans rfl rfl
theorem zzd {β:Type} (L:Nat) (b2:List V) {h:List Int} (hh:h.length=8) (kx:List V→List V→Option β):∀ (f m i:Nat) (z:List Int),z.length=32→i+m=32→m < f→(∀ j,j < i→z.getD j 0=ob h j)→zcO zn xm yg L kx f (i:Int) b2 (row .u32 h) (row .u8 z)=kx b2 (row .u8 (zq5 h))
 | 0,m,i,z,_,_,hf,_=>by omega
 | f+1,0,i,z,hz,h1,h2,hg=>by
  unfold zcO zd5
  rw [zE (by omega),zCi hz fun j hj=>hg j (by omega)]
 | f+1,m+1,i,z,hz,h1,h2,hg=>by
  unfold zcO
  rw [zDt L (by omega) b2 hh hz]
  refine zzd L b2 hh kx f m (i+1) _ (by simpa using hz) (by omega) (by omega) fun j hj=>?_
  by_cases he:i=j
  ·subst he; exact zey (by omega) _
  ·rw [getD_set_ne he]; exact hg j (by omega)
theorem zGz (v:Int):zcZ .u32 v ((0:Nat):Int)=v:=by
 unfold zcZ
 rw [show min (Int.toNat ((0:Nat):Int)) (IntKind.bits .u32)=0 from rfl,show (2:Int) ^ 0=1 from rfl,Int.fdiv_one]
theorem zCO {β:Type} (L:Nat) {i:Nat} (hi:i < 8) (b2:List V) {h z:List Int} (hh:h.length=8) (hz:z.length=32) (kh:List V→Int→List V→List V→Option β) (kx:List V→List V→Option β):zc5 xh zf xe L (row .u32 h) (i:Int) b2 (row .u8 z) kh kx=kh (row .u32 h) ((i+1:Nat):Int) b2 (row .u8 ((((z.set (4 * i) (ob h (4 * i))).set (4 * i+1) (ob h (4 * i+1))).set (4 * i+2) (ob h (4 * i+2))).set (4 * i+3) (ob h (4 * i+3)))):=by
 unfold zc5
 have e4:IntKind.wrap .i64 ((4:Int) * (i:Int))=((4 * i:Nat):Int):=zCU (by omega)
 have e1:IntKind.wrap .i64 (((4 * i:Nat):Int)+(1:Int))=((4 * i+1:Nat):Int):=zwB (b:=1) (by omega) (by omega)
 have e2:IntKind.wrap .i64 (((4 * i:Nat):Int)+(2:Int))=((4 * i+2:Nat):Int):=zwB (b:=2) (by omega) (by omega)
 have e3:IntKind.wrap .i64 (((4 * i:Nat):Int)+(3:Int))=((4 * i+3:Nat):Int):=zwB (b:=3) (by omega) (by omega)
 have c0:0≤(i:Int)∧(i:Int) < ((8:Nat):Int):=by omega
 have c4:0≤((4 * i:Nat):Int)∧((4 * i:Nat):Int) < ((32:Nat):Int):=by omega
 have c1:0≤((4 * i+1:Nat):Int)∧((4 * i+1:Nat):Int) < ((32:Nat):Int):=by omega
 have c2:0≤((4 * i+2:Nat):Int)∧((4 * i+2:Nat):Int) < ((32:Nat):Int):=by omega
 have c3:0≤((4 * i+3:Nat):Int)∧((4 * i+3:Nat):Int) < ((32:Nat):Int):=by omega
 have l0:True∧4 * i+1≤32:=⟨trivial,by omega⟩
 have l1:True∧4 * i+1+1≤32:=⟨trivial,by omega⟩
 have l2:True∧4 * i+2+1≤32:=⟨trivial,by omega⟩
 have l3:True∧4 * i+3+1≤32:=⟨trivial,by omega⟩
 have o0:IntKind.wrap .u8 (zcZ .u32 (h.getD i 0) (24:Int))=ob h (4 * i):=by
  unfold ob; rw [show 4 * i / 4=i by omega,show 24 - 4 * i % 4 * 8=24 by omega]; exact Eq.trans rfl rfl
 have o1:IntKind.wrap .u8 (zcZ .u32 (h.getD i 0) (16:Int))=ob h (4 * i+1):=by
  unfold ob; rw [show (4 * i+1) / 4=i by omega,show 24 - (4 * i+1) % 4 * 8=16 by omega]; exact Eq.trans rfl rfl
 have o2:IntKind.wrap .u8 (zcZ .u32 (h.getD i 0) (8:Int))=ob h (4 * i+2):=by
  unfold ob; rw [show (4 * i+2) / 4=i by omega,show 24 - (4 * i+2) % 4 * 8=8 by omega]; exact Eq.trans rfl rfl
 have o3:IntKind.wrap .u8 (h.getD i 0)=ob h (4 * i+3):=by
  unfold ob; rw [show (4 * i+3) / 4=i by omega,show 24 - (4 * i+3) % 4 * 8=0 by omega,zGz]
 rw [zD (by omega:(i:Int) < 8)]
 simp only [zw,e4,e1,e2,e3,yh c0,yh c4,yh c1,yh c2,yh c3,Int.toNat_natCast,Nat.mul_one,Nat.zero_add,zL (show i < h.length by omega),o0,o1,o2,o3,yw]
 rw [zfp (by omega),zfp (by rw [List.length_set]; omega),zfp (by rw [List.length_set,List.length_set]; omega),zfp (by rw [List.length_set,List.length_set,List.length_set]; omega)]
 simp only [yw,List.length_set,hz,zcm (show i≤1000000000 by omega)]
 rw [yh l0,yh l1,yh l2,yh l3]
theorem zxk {β:Type} (L:Nat) (b2:List V) {h:List Int} (hh:h.length=8) (kx:List V→List V→Option β):∀ (f m i:Nat) (z:List Int),z.length=32→i+m=8→m < f→(∀ j,j < 4 * i→z.getD j 0=ob h j)→zbV xh zf xe L kx f (row .u32 h) (i:Int) b2 (row .u8 z)=kx b2 (row .u8 (zq5 h))
 | 0,m,i,z,_,_,hf,_=>by omega
 | f+1,0,i,z,hz,h1,h2,hg=>by
  unfold zbV zc5
  rw [zE (by omega),zCi hz fun j hj=>hg j (by omega)]
 | f+1,m+1,i,z,hz,h1,h2,hg=>by
  unfold zbV
  rw [zCO L (by omega) b2 hh hz]
  refine zxk L b2 hh kx f m (i+1) _ (by simpa using hz) (by omega) (by omega) fun j hj=>?_
  by_cases h3:4 * i+3=j
  ·subst h3; exact zey (by simp; omega) _
  rw [getD_set_ne h3]
  by_cases h2:4 * i+2=j
  ·subst h2; exact zey (by simp; omega) _
  rw [getD_set_ne h2]
  by_cases h1:4 * i+1=j
  ·subst h1; exact zey (by simp; omega) _
  rw [getD_set_ne h1]
  by_cases h0:4 * i=j
  ·subst h0; exact zey (by omega) _
  rw [getD_set_ne h0]
  exact hg j (by omega)
def zqR (l:List Int):List Int:=zq5 (zyG ((l++zeP l.length).length / 64) 0 (l++zeP l.length) init0)
theorem z8 (l:List Int):(zqR l).length=32:=zs3 _
theorem zB1 (l:List Int):∀ x ∈ zqR l,0≤x∧x≤255:=zFW _
theorem zBV (l:List Int):64 * ((l++zeP l.length).length / 64)=(l++zeP l.length).length:=by
 have:=zDM l.length
 rw [List.length_append,zpK]; omega
theorem zDm {l:List Int} (h:∀ x ∈ l,0≤x∧x≤255):∀ x ∈ l++zeP l.length,0≤x∧x≤255:=by
 intro x hx
 rcases List.mem_append.1 hx with hx | hx
 ·exact h x hx
 ·exact zFy _ x hx
theorem zCo {β:Type} {w:List Int} (hw:w.length=32) (z:List Int) (hz:z.length=32) (k:List V→Option β) :
  chk (0+32≤(List.length (row .u8 w))) (chk ((List.length (List.take 32 (row .u8 w)))=32∧0+32≤(List.length (row .u8 z))) (
   lt (zr (row .u8 z) 0 (List.take 32 (row .u8 w))) fun r41=>chk (0=0∧(List.length r41)=32∧32≠0) (k r41)))=k (row .u8 w):=by
 have e:List.take 32 (row .u8 w)=row .u8 w:=List.take_of_length_le (by rw [yw]; omega)
 rw [zw,e,zcp (by rw [yw,yw]; omega)]
 rw [yh (by rw [yw]; omega),yh ⟨by rw [yw]; omega,by rw [yw]; omega⟩,yh ⟨rfl,by rw [yw]; omega,by decide⟩]
theorem zDj {β:Type} {L:Nat} {l:List Int} (hL:l.length+200≤L) (hl:l.length≤100000000) (hb:∀ x ∈ l,0≤x∧x≤255) (k:List V→Option β):zas β L (zq .u8 l) k=k (row .u8 (zqR l)):=by
 unfold zas zqG zuG
 have z64:=zxA l.length
 have hm:=zBV l
 have hlen:(l++zeP l.length).length=l.length+(9+zs l.length):=by rw [List.length_append,zpK]
 have e0:IntKind.wrap .u64 (((zq .u8 l).length:Nat):Int)=(l.length:Int):=by rw [yv,zaZ (by omega) (by omega)]
 rw [zw,e0]
 refine (zGd (by omega) hl _ _).trans ?_
 refine (zDW (by omega) (by omega) (by rw [zpK]; omega) _).trans ?_
 have e1:zr [V.sc (.int .u32 (0:Int)),V.sc (.int .u32 (0:Int)),V.sc (.int .u32 (0:Int)),V.sc (.int .u32 (0:Int)),V.sc (.int .u32 (0:Int)),V.sc (.int .u32 (0:Int)),V.sc (.int .u32 (0:Int)),V.sc (.int .u32 (0:Int))] 0 (List.take 8 gk_sha_initial)=row .u32 init0:=(zcp rfl).trans rfl
 have e2:IntKind.wrap .i64 (Int.tdiv (((zq .u8 (l++zeP l.length)).length:Nat):Int) (64:Int))=(((l++zeP l.length).length / 64:Nat):Int):=by
  rw [yv,show Int.tdiv (((l++zeP l.length).length:Nat):Int) (64:Int)=(((l++zeP l.length).length / 64:Nat):Int) from (Int.ofNat_tdiv _ 64).symm,zaJ (by omega) (by omega)]
 rw [yh ⟨rfl,by decide⟩,zw,e1,zw,e2]
 refine (zAd (by omega) (zDm hb) (by omega) (by omega) _ _ L ((l++zeP l.length).length / 64) 0 _ zqF (by omega) (by omega)).trans ?_
 unfold zfy zjR
 rw [zo6]
 refine (zzd L _ (zwr _ _ _ _ zqF) _ L 32 0 _ List.length_replicate rfl (by omega) (fun j hj=>by omega)).trans ?_
 unfold zhE
 exact zCo (zs3 _) _ List.length_replicate k
theorem zCr {β:Type} (L:Nat) (k:List V→Option β):zf β L k=k (row .u32 init0):=by
 unfold zf zlH
 rw [zw]
 exact (yh ⟨rfl,rfl,by decide⟩ _).trans rfl
theorem zBQ {β:Type} {L:Nat} {l:List Int} (hL:l.length+200≤L) (hl:l.length≤100000000) (hb:∀ x ∈ l,0≤x∧x≤255) (k:List V→Option β):zT β L (zq .u8 l) k=k (row .u8 (zqR l)):=by
 unfold zT znl zqT
 have z64:=zxA l.length
 have hm:=zBV l
 have hlen:(l++zeP l.length).length=l.length+(9+zs l.length):=by rw [List.length_append,zpK]
 have e0:IntKind.wrap .u64 (((zq .u8 l).length:Nat):Int)=(l.length:Int):=by rw [yv,zaZ (by omega) (by omega)]
 rw [yh (by simp [yv,yl]; omega),zw,List.nil_append,zw,e0]
 refine (zFB (by omega) hl _).trans ?_
 rw [yh (by simp [yv,zpK,yl]; omega),zw,zaX]
 refine (zCr L _).trans ?_
 have e1:zr [V.sc (.int .u32 (0:Int)),V.sc (.int .u32 (0:Int)),V.sc (.int .u32 (0:Int)),V.sc (.int .u32 (0:Int)),V.sc (.int .u32 (0:Int)),V.sc (.int .u32 (0:Int)),V.sc (.int .u32 (0:Int)),V.sc (.int .u32 (0:Int))] 0 (row .u32 init0)=row .u32 init0:=zcp rfl
 rw [yh ⟨rfl,by decide⟩,zw,e1]
 refine (zy4 (by omega) (zDm hb) (by omega) hm _ _ L ((l++zeP l.length).length / 64) 0 _ zqF (by omega) (by omega)).trans ?_
 unfold zeu zhF
 have hb8:=zwr ((l++zeP l.length).length / 64) 0 (l++zeP l.length) init0 zqF
 rw [yh (by rw [yw,hb8]; omega),List.take_of_length_le (by rw [yw,hb8]; omega),zo6]
 refine (zxk L _ hb8 _ L 8 0 _ List.length_replicate rfl (by omega) (fun j hj=>by omega)).trans ?_
 unfold zgw
 exact zCo (zs3 _) _ List.length_replicate k
def zC4 (l:List Int):List Int:=zqR (zqR l)
theorem zsr (l:List Int):(zC4 l).length=32:=z8 _
theorem zxl {w:List Int} (hw:w.length=32):zr (List.replicate 32 (V.sc (.int .u8 (0:Int)))) 0 (row .u8 w)=row .u8 w:=zcp (by rw [yw,hw,List.length_replicate])
theorem zBU {w:List Int} (hw:w.length=32):List.isEmpty (row .u8 w)=false:=by
 rw [List.isEmpty_eq_false_iff]; intro h
 have:=congrArg List.length h
 rw [yw,hw] at this; cases this
theorem zD7 {β:Type} {L:Nat} {l:List Int} (hL:l.length+300≤L) (hl:l.length≤100000000) (hb:∀ x ∈ l,0≤x∧x≤255) (k:List V→Option β):yV β L (zq .u8 l) k=k (row .u8 (zC4 l)):=by
 unfold yV zpH
 have ec:yp 1 32 (row .u8 (zqR l))=zq .u8 (zqR l):=by
  rw [zoM _ _ _ (by rw [z8]; omega),List.take_of_length_le (by rw [z8]; omega)]
 refine (zDj (by omega) hl hb _).trans ?_
 rw [yh ⟨by rw [yw,z8],by decide⟩,zw,zxl (z8 l),yh (by rw [yw,z8]; omega),zBU (z8 l),zje,ec]
 refine (zDj (by rw [z8]; omega) (by rw [z8]; omega) (zB1 l) _).trans ?_
 rw [yh ⟨by rw [yw,z8],by decide⟩,zw,zxl (z8 _),yh ⟨rfl,by rw [yw,z8],by decide⟩]
 exact Eq.trans rfl rfl
theorem zwU {β:Type} {L:Nat} {l:List Int} (hL:l.length+300≤L) (hl:l.length≤100000000) (hb:∀ x ∈ l,0≤x∧x≤255) (k:List V→Option β):xx β L (zq .u8 l) k=k (row .u8 (zC4 l)):=by
 unfold xx zmW
 have ec:yp 1 32 (row .u8 (zqR l))=zq .u8 (zqR l):=by
  rw [zoM _ _ _ (by rw [z8]; omega),List.take_of_length_le (by rw [z8]; omega)]
 refine (zBQ (by omega) hl hb _).trans ?_
 rw [yh ⟨by rw [yw,z8],by decide⟩,zw,zxl (z8 l),yh (by rw [yw,z8]; omega),zBU (z8 l),zje,ec]
 refine (zBQ (by rw [z8]; omega) (by rw [z8]; omega) (zB1 l) _).trans ?_
 rw [yh ⟨by rw [yw,z8],by decide⟩,zw,zxl (z8 _),yh ⟨rfl,by rw [yw,z8],by decide⟩]
 exact Eq.trans rfl rfl
end
section
set_option linter.unusedVariables false
set_option linter.unusedSimpArgs false
set_option maxRecDepth 100000
variable {β:Type}
theorem zgt {a b:List Int} (ha:zci a) (hb:zci b):zci (a++b):=by
 intro x hx
 rcases List.mem_append.1 hx with h | h
 ·exact ha x h
 ·exact hb x h
theorem zwY {α:Type} {l:List α} {f:α→List Int} (h:∀ x ∈ l,zci (f x)):zci (l.flatMap f):=by
 intro x hx
 obtain ⟨y,hy,hx⟩:=List.mem_flatMap.1 hx
 exact h y hy x hx
theorem zpF {a:Int} {l:List Int} (ha:0≤a∧a≤255) (hl:zci l):zci (a::l):=by
 intro x hx
 rcases List.mem_cons.1 hx with rfl | h
 ·exact ha
 ·exact hl x h
theorem zym:zci []:=fun x hx=>by cases hx
theorem zi4 (n:Int) (w:Nat):zci (zdM n w):=by
 intro x hx
 rw [zdM,List.mem_map] at hx
 obtain ⟨i,_,rfl⟩:=hx
 exact zkv _
theorem zxz (n:Int):zci (szB n):=by
 unfold szB
 split
 ·exact zpF (zkv _) zym
 ·split
  ·exact zpF ⟨by decide,by decide⟩ (zi4 _ _)
  ·split
   ·exact zpF ⟨by decide,by decide⟩ (zi4 _ _)
   ·exact zpF ⟨by decide,by decide⟩ (zi4 _ _)
theorem zD9 {s:List Int} (h:zci s):zci (bsB s):=zgt (zxz _) h
theorem zEB {x:Inp} (h:InpOk x):zci (zvb x):=by
 unfold zvb
 have b:=h.by_
 repeat' (first | exact zym | refine zpF (b _ (by decide)) ?_)
theorem zya {t:TxT} (h:TxOk t) (w:Bool):zci (ziG t w):=by
 unfold ziG
 refine zgt (zgt (zgt (zgt (zgt (zgt (zi4 _ _) (zxz _)) (zwY fun x hx=>?_)) (zxz _)) (zwY fun x hx=>?_)) (zi4 _ _)) ?_
 ·exact zgt (zgt (zEB (h.ins x hx)) (zi4 _ _)) (zi4 _ _)
 ·exact zgt (zi4 _ _) (zD9 (h.outs x hx).scr)
 ·cases w
  ·exact zym
  ·exact zwY fun x hx=>zgt (zxz _) (zwY fun y hy=>zD9 ((h.ins x hx).wit y hy).1)
theorem zwg {t:TxT} (h:KeptP t) (w:Bool):(ziG t w).length≤3000000:=by
 obtain ⟨q1,q2,q3⟩:=h.lens
 have s1:=zfe (t.ins.length:Int)
 have s2:=zfe (t.outs.length:Int)
 cases w <;> simp only [ziG,List.length_append,zbe,if_true,Bool.false_eq_true,if_false,List.length_nil] <;> omega
theorem zEG {L:Nat} (hL:2000≤L) {t:TxT} (h:KeptP t) (w:Bool) (k:List (List V)→Int→Option β):zH β L (zd1 t) w k=if za6 t=true then k (zq .u8 (ziG t w)) 0 else k (zq .u8 []) 4:=by
 simp only [zH,zri,zdd,zeQ]
 rw [zAY hL h,zqi hL h]
 cases za6 t <;> rfl
def zm6 (t:TxT) (w:Bool):List Int:=if za6 t=true then zC4 (ziG t w) else List.replicate 32 0
theorem zkT (t:TxT) (w:Bool):(zm6 t w).length=32:=by
 unfold zm6; split
 ·exact zsr _
 ·exact List.length_replicate
theorem zwd (k:List V→Option β):(lt (List.replicate 32 (V.sc (.int .u8 (0:Int)))) fun r2=>chk (0=0∧(List.length r2)=32∧32≠0) (k r2))=k (row .u8 (List.replicate 32 0)):=by
 rw [zw,zo6,yh ⟨rfl,by rw [yw,List.length_replicate],by decide⟩]
theorem zpj {w:List Int} (hw:w.length=32) (k:List V→Option β):chk ((List.length (row .u8 w))=32∧0+32≤32) (lt (zr (List.replicate 32 (V.sc (.int .u8 (0:Int)))) 0 (row .u8 w)) fun r4=>chk (0=0∧(List.length r4)=32∧32≠0) (k r4))=k (row .u8 w):=by
 rw [zw,zxl hw,yh ⟨by rw [yw,hw],by decide⟩,yh ⟨rfl,by rw [yw,hw],by decide⟩]
theorem zA6 {L:Nat} (hL:4000000≤L) {t:TxT} (ht:TxOk t) (h:KeptP t) (w:Bool) (k:List V→Option β):yH β L (zd1 t) w k=k (row .u8 (zm6 t w)):=by
 have hl:=zwg h w
 unfold yH zqV
 rw [zdd,zeQ,zEG (by omega) h]
 unfold zm6
 split
 ·rw [zyB,if_pos rfl,zD7 (by omega) (by omega) (zya ht w),zpj (zsr _)]
 ·rw [zyB,if_neg (by decide),zwd]
theorem zGT {L:Nat} (hL:4000000≤L) {t:TxT} (ht:TxOk t) (h:KeptP t) (k:List V→Option β):zcj β L (zd1 t) k=k (row .u8 (zm6 t false)):=by
 unfold zcj zyu
 rw [zdd,zeQ,zA6 hL ht h,zpj (zkT _ _)]
theorem zGq {L:Nat} (hL:4000000≤L) {t:TxT} (ht:TxOk t) (h:KeptP t) (k:List V→Option β):zaU β L (zd1 t) k=k (row .u8 (zm6 t true)):=by
 unfold zaU zub
 rw [zdd,zeQ,zA6 hL ht h,zpj (zkT _ _)]
theorem zGw {L:Nat} (hL:4000000≤L) {t:TxT} (ht:TxOk t) (h:KeptP t) (k:List V→Option β):zar β L (zd1 t) k=k (row .u8 (zm6 t false)):=by
 have hl:=zwg h false
 unfold zar zs0
 rw [zdd,zeQ,zuu (by omega) h]
 unfold zm6
 cases za6 t
 ·rw [if_neg (by decide)]
  exact zwd k
 ·rw [if_pos rfl]
  rw [Bool.not_true,zje,zdd,zlX (by omega) h,zwU (by omega) (by omega) (zya ht false),zpj (zsr _)]
theorem zFC {L:Nat} (hL:4000000≤L) {t:TxT} (ht:TxOk t) (h:KeptP t) (k:List V→Option β):xV β L (zd1 t) k=k (row .u8 (zm6 t true)):=by
 have hl:=zwg h true
 unfold xV zpc
 rw [zdd,zeQ,zuu (by omega) h]
 unfold zm6
 cases za6 t
 ·rw [if_neg (by decide)]
  exact zwd k
 ·rw [if_pos rfl]
  rw [Bool.not_true,zje,zdd,zlX (by omega) h,zwU (by omega) (by omega) (zya ht true),zpj (zsr _)]
def zu2 (t:TxT):Int:=if za6 t=true then IntKind.wrap .i64 (IntKind.wrap .i64 ((3:Int) * ((ziG t false).length:Int))+((ziG t true).length:Int)) else 0
theorem zED {L:Nat} (hL:2000≤L) {t:TxT} (h:KeptP t) (k:Int→Option β):xH β L (zd1 t) k=k (zu2 t):=by
 simp only [xH,zq2,zdd,zeQ,zw]
 rw [zAY hL h,zqi hL h,zqi hL h,yv,yv]
 unfold zu2
 cases za6 t
 ·rfl
 ·rw [if_pos rfl]; rfl
theorem zDV {L:Nat} (hL:2000≤L) {t:TxT} (h:KeptP t) (k:Int→Option β):xP β L (zd1 t) k=k (zu2 t):=by
 simp only [xP,zmG,zdd,zeQ,zw]
 rw [zuu hL h,zlX hL h,zlX hL h,yv,yv]
 unfold zu2
 cases za6 t
 ·rfl
 ·rw [if_pos rfl]; rfl
theorem zzp (a0:List V) (wf0:HasRow ([.int .u32]++[.sl (List.replicate 32 (.int .u8)++List.replicate 2 (.int .u32)++[.sl ([.sl ([.int .u8])])])]++[.sl ([.int .i64]++[.sl ([.int .u8])])]++[.int .u32]) a0):∃ L,∀ k:Bool→Option Bool,zdO Bool L a0 k=k true:=by
 obtain ⟨t,rfl,ht⟩:=zGx wf0
 refine ⟨5000000,fun k=>?_⟩
 simp only [zdO,zli,zdd,zeQ]
 rw [zFs (by omega)]
 simp only [Bool.not_true,zje]
 rw [zF2 (by omega)]
 cases hk:zwC t with
 | false=>rfl
 | true =>
  have hp:=zF6 hk
  simp only [Bool.not_true,zje]
  rw [zGT (by omega) ht hp,zGw (by omega) ht hp,zCb .u8 (zkT _ _) (zkT _ _),decide_eq_true rfl,zkE]
  rw [zGq (by omega) ht hp,zFC (by omega) ht hp,zCb .u8 (zkT _ _) (zkT _ _),decide_eq_true rfl,zkE]
  rw [zED (by omega) hp,zDV (by omega) hp,zqS rfl,zC6,zBL,BEq.rfl]
end
section
open Go.ChangeShapes Go.WideShapes Go.ChangeAt Go.RowKit
set_option linter.unusedVariables false
theorem zza {H:Type} {enc:TypeId × Value→H} {P:Program} {w:World} {base:Nat} {spare:Nat→Bool} {held:Bool} {fuel n:Nat} {t e:TypeId} {k:IntKind} {cs:List Value} {d:DataW H} {p:List MemPlace} (ht:P.underlying t=some (.array n e)) (he:P.underlying e=some (.int k)) (hc:P.cellsOf e=1)
  (ns:List Int) (hd:d=.agg (ns.map fun x=>.lit (.int k x))) (h:DataW.trod enc P w base spare held fuel t cs=some (d,p)) {i:Nat} (hi:i < n):cs[i]?=some (.int k (ns.getD i 0)):=by
 obtain ⟨xs,m,_,hx,_,hlen,hel⟩:=DataW.trod_array ht h
 have h1:=hel i hi
 rw [hc,Nat.mul_one] at h1
 have hxi:xs[i]?=some (xs[i]'(by omega)):=List.getElem?_eq_getElem _
 rw [hxi] at h1
 obtain ⟨v,e1,e2,_⟩:=DataW.trod_int he h1
 simp only [Prod.mk.injEq] at hx
 have h2:d=.agg (xs.map (·.1)):=hx.1
 rw [hd] at h2
 have h3:ns.map (fun x=>DataW.lit (H:=H) (.int k x))=xs.map (·.1):=by injection h2
 have h4:=congrArg (fun l=>l[i]?) h3
 simp only [List.getElem?_map,hxi,Option.map_some,e2] at h4
 have h5:ns[i]?=some v:=by
  cases hq:ns[i]? with
  | none=>rw [hq] at h4; cases h4
  | some q =>
   rw [hq] at h4
   simp only [Option.map_some,Option.some.injEq] at h4
   injection h4 with h6
   injection h6 with _ h7
   rw [h7]
 rw [List.getD_eq_getElem?_getD,h5]
 have h8:=congrArg (fun l=>l[0]?) e1
 simp only [List.getElem?_take,List.getElem?_drop] at h8
 simpa using h8
theorem zAr {k:IntKind} {ns:List Int} {i:Nat} {v:V} (h:(row k ns)[i]?=some v):i < ns.length∧v=.sc (.int k (ns.getD i 0)):=by
 unfold row at h
 rw [List.getElem?_map] at h
 cases hq:ns[i]? with
 | none=>rw [hq] at h; cases h
 | some q =>
  rw [hq] at h
  obtain ⟨hi,_⟩:=List.getElem?_eq_some_iff.1 hq
  refine ⟨hi,?_⟩
  rw [List.getD_eq_getElem?_getD,hq]
  simpa using h.symm
def zw3 {H:Type}:List (String × DataW H):=[("lightclient/sha.k",Rows.laid_lightclient_sha_k),("lightclient/sha.initial",Rows.laid_lightclient_sha_initial)]
theorem gK:Tryd.prog.globalNamed "lightclient/sha.k"=some 1:=by kernel_rfl
theorem gI:Tryd.prog.globalNamed "lightclient/sha.initial"=some 0:=by kernel_rfl
theorem tK:(Tryd.prog.globals[1]?).map (·.type)=some 71:=by kernel_rfl
theorem tI:(Tryd.prog.globals[0]?).map (·.type)=some 65:=by kernel_rfl
theorem zFz {W:World} (h:laidMetH Tryd.prog zw3 W):GV (zO fg gls) W ziK:=by
 rw [MakeChecks.laidMetH_plain _ _ _ (by kernel_rfl)] at h
 obtain ⟨ps,⟨g0,t0,cs0,f0,p0,q0,hg0,ht0,hv0,hd0,⟨g1,t1,cs1,f1,p1,q1,hg1,ht1,hv1,hd1,_,_⟩,_⟩,_,_⟩:=h
 obtain rfl:=Option.some.inj (gK.symm.trans hg0)
 obtain rfl:=Option.some.inj (gI.symm.trans hg1)
 obtain rfl:=Option.some.inj (tK.symm.trans ht0)
 obtain rfl:=Option.some.inj (tI.symm.trans ht1)
 have eu:Tryd.prog.underlying 22=some (.int .u32):=by kernel_rfl
 have ec:Tryd.prog.cellsOf 22=1:=by kernel_rfl
 have ek:Tryd.prog.underlying 71=some (.array 64 22):=by kernel_rfl
 have ei:Tryd.prog.underlying 65=some (.array 8 22):=by kernel_rfl
 have dk:(Rows.laid_lightclient_sha_k:DataW Unit)=.agg (kc.map fun x=>.lit (.int .u32 x)):=rfl
 have di:(Rows.laid_lightclient_sha_initial:DataW Unit)=.agg (init0.map fun x=>.lit (.int .u32 x)):=rfl
 intro g cs hg i v hv
 have hg':(gls.find? (fun e=>e.1 == g)).map (·.2)=some cs:=hg
 by_cases hk:g=1
 ·subst hk
  obtain rfl:gk_sha_k=cs:=Option.some.inj ((show (gls.find? (fun e=>e.1 == 1)).map (·.2)=some gk_sha_k from rfl).symm.trans hg')
  obtain ⟨hi,rfl⟩:=zAr (k:=.u32) (ns:=kc) hv
  refine ⟨_,rfl,rfl,fun hw=>hw,?_⟩
  rw [World.var?_cell gK hv0 i,Array.getElem?_toList.symm]
  exact zza ek eu ec kc dk hd0 hi
 ·by_cases hk2:g=0
  ·subst hk2
   obtain rfl:gk_sha_initial=cs:=Option.some.inj ((show (gls.find? (fun e=>e.1 == 0)).map (·.2)=some gk_sha_initial from rfl).symm.trans hg')
   obtain ⟨hi,rfl⟩:=zAr (k:=.u32) (ns:=init0) hv
   refine ⟨_,rfl,rfl,fun hw=>hw,?_⟩
   rw [World.var?_cell gI hv1 i,Array.getElem?_toList.symm]
   exact zza ei eu ec init0 di hd1 hi
  ·exfalso
   have e:gls=[(0,gk_sha_initial),(1,gk_sha_k)]:=rfl
   rw [e] at hg'
   simp only [List.find?_cons,List.find?_nil,beq_eq_false_iff_ne.2 (Ne.symm hk),beq_eq_false_iff_ne.2 (Ne.symm hk2)] at hg'
   cases hg'
theorem zE6 (os:Os) (args:Array Value):laidMetH Tryd.prog zw3 ((World.doorLaid Tryd.prog 400 os).forCall (fun _ _=>0) ⟨#[],args,[]⟩).memory :=
 laidMetH_of_parts3 (fuel:=8) (laidMet_of_run' 8 (by kernel_rfl) (by kernel_rfl)) (by kernel_rfl) (by kernel_rfl)
end
section
namespace txNamesL
open Go.ChangeShapes Go.WideShapes Go.ChangeAt Go.RowKit
set_option linter.unusedVariables false
theorem own:ownKnob Tryd.prog.godebug=none:=by kernel_rfl
theorem zFq:laidOutB Tryd.prog=true:=by kernel_rfl
set_option maxRecDepth 100000 in
theorem zGh (os:Os) (started:os.Started) (H:Type) (enc:TypeId × Value→H) :
  ReturnsInHanded {} Tryd.checked os 4 .any (fun w args=>(Rows.txNamesSpec.pre enc Tryd.prog Tryd.f4 [] false w args∧laidMetH Tryd.prog zw3 w)∧sizedMet enc Tryd.prog Tryd.f4 (OpenSpec.ofChange Rows.txNamesSpec) false w args)
   (Rows.txNamesSpec.post enc Tryd.prog Tryd.f4 false true false false):=by
 refine returnsInHanded_of_change_and (C:=Tryd.checked) (X:=fun w _=>laidMetH Tryd.prog zw3 w) (fun _ _ _ hh h=>h.of_heap hh) own started (by kernel_rfl) Tryd.func4
  (ChangeSpec.witness_shaped (enc:=enc) (C:=Tryd.checked) (os:=os) (X:=fun w _=>laidMetH Tryd.prog zw3 w) false (World.doorLaid Tryd.prog 400 os) #[.agg (#[(Value.int .u32 0)]++#[(Value.slice none 0 0)]++#[(Value.slice none 0 0)]++#[(Value.int .u32 0)])] 8 rfl (World.shaped_of_RefB (by kernel_rfl) (by kernel_rfl)) (by kernel_rfl) (by kernel_rfl) (by kernel_rfl) (zE6 os _)) ?_
 intro W base args ds gs before hval0 hW hcnd _ hlaid _
 have hval:∀ (j:Nat) t v,Tryd.f4.params[j]?=some t→args[j]?=some v→Value.okWide Tryd.prog W .any base t v:=hval0
 have hW':=hW
 obtain ⟨p,q,hA0,hV,rfl,hfz,hnd⟩:=hW
 have hA:DataW.TrodAll enc Tryd.prog W 0 (fun _=>true) true Tryd.f4.params.toList args.toList ds p:=hA0
 rw [Tryd.params4] at hA hval
 obtain ⟨v0,vs0,d0,ds0,p0,q0,hargs,rfl,rfl,h0,r0⟩:=trodAll_cons hA
 obtain ⟨rfl,rfl,rfl⟩:=trodAll_nil r0
 obtain rfl:args=#[v0]:=by cases args; simp_all
 obtain ⟨rfl,rfl⟩:=trodVars_none hV
 have k0:=h0
 have lt0:∀ x ∈ p0,x.block < W.heap.size:=by obtain ⟨m,hm⟩:=k0; exact DataW.trod_lt m _ _ _ hm
 obtain ⟨a0,wf0,rp0⟩:=zFw (ren:=zO fg gls) (d:=20) (cts:=[.int .u32]++[.sl (List.replicate 32 (.int .u8)++List.replicate 2 (.int .u32)++[.sl ([.sl ([.int .u8])])])]++[.sl ([.int .i64]++[.sl ([.int .u8])])]++[.int .u32]) (by kernel_rfl) (hval 0 26 v0 rfl rfl) h0 (by kernel_rfl)
 clear hA0 hval0
 obtain ⟨L,hL⟩:=zzp a0 wf0
 obtain ⟨v,b,hev,hk⟩:=zvv L 100 (by decide) Bool [(V.agg a0)] [] zzW true (hL (fun p=>zzW (V.sc (.bool p)) []))
 have hv:=zDJ hk
 subst hv
 refine (zCS (us:=[v0]) (w:=W) (zFz hlaid) (zGs L 100) (f:=4) (by kernel_rfl) rfl (fun i x u hx hu=>?_) hev).mono fun e W' ⟨he,bel0⟩=>?_
 ·match i,hx,hu with
  | 0,hx,hu=>cases hx; cases hu; exact rp0
  | n+1,hx,hu=>simp at hx
 ·have bel:=Kept.below bel0
  subst he
  exact ⟨_,rfl,_,_,_,[],_,[],hW',trodAll_mk1 (shut_bool Tryd.underlying4 _),(trodAll_cons_mk (Below.trod zFq (by kernel_rfl) (of_decide_eq_true (by kernel_rfl)) k0 bel lt0) trodAll_mk0),rfl,bel.frame _,fun h=>by cases h⟩
theorem over:Rows.txNamesRow.holds Tryd.pinned (OpenSpec.ofChange Rows.txNamesSpec) :=
 OpenClaim.holds_of_wide 4 Tryd.f4 rfl rfl rfl rfl rfl rfl rfl ⟨rfl,rfl,rfl,rfl,rfl⟩ rfl rfl rfl rfl rfl (by kernel_rfl) Tryd.func4 (by kernel_rfl)
  (of_decide_eq_true (by kernel_rfl)) (by unfold Func.isWrapper; first | (rw [if_pos (by decide +kernel)]; kernel_rfl) | (rw [if_neg (by decide +kernel)]; exact ⟨rfl,rfl⟩))
  (fun os started H enc _=>zGh os started H enc)
theorem card:Claim7.holds Tryd.pinned (.plain (OpenSpec.ofChange Rows.txNamesSpec)) Rows.txNamesCard :=
 Claim7.holds_tied_plain_at .later [] [.data,.data] true (true,"0f3ddc9a8225705fb4d172c9f6a28d9d1ed65a88f8837991914385fd35c7ee8c") false
  over (fun _ h=>by cases h) (by kernel_rfl) (fun _ h=>by cases h) txNames_row_tie rfl ⟨rfl,rfl⟩ (by kernel_rfl) rfl
  (fun f fn hf hfn=>by
   obtain rfl:f=4:=Option.some.inj ((show Tryd.prog.funcNamed "lightclient/lightclientlaw09.TxNames"=some 4 by kernel_rfl).symm.trans hf) |>.symm
   obtain rfl:fn=Tryd.f4:=(Option.some.inj (Tryd.func4.symm.trans hfn)).symm
   exact ⟨by kernel_rfl,fun j t ht=>by
    rw [Tryd.params4] at ht
    have hm:t ∈ [26]:=by simpa using Array.mem_of_getElem? ht
    have hall:([26].all fun u=>!Tryd.prog.wantsStandIn u)=true:=by kernel_rfl
    exact (show Tryd.prog.wantsStandIn t=false by simpa using List.all_eq_true.1 hall t hm)⟩)
  (by kernel_rfl)
end txNamesL
theorem txNames_holds:Rows.TxNamesCardSaid:=txNamesL.card
end
end Go.Proofs.YtoeobffjdbdpgaaDoor
