/- TxWitnessFree: for every input the call returns true, and each argument reads afterwards as it read before. Condition: the package variables lightclient/sha.k and lightclient/sha.initial begin as the program text lays them (the card ties them to the pruned copy of the text); nothing else is asked. -/
import Derived.LaidMore
import Derived.OpenShut
import Derived.MakeChecks
import Derived.LaidLaws
import Derived.Test.YtoeobffjdbdpgaaDoorCards
import Derived.Test.YtoeobffjdbdpgaaDoorTie
import Derived.SevenTiedAt
import Derived.Stop.Joined
import Derived.Test.YtoeobffjdbdpgaaDoorMTxWitnessFree11
namespace Go.Proofs.YtoeobffjdbdpgaaDoor
section
set_option linter.unusedVariables false
set_option linter.unusedSimpArgs false
theorem zl1 (n:Int):0≤IntKind.wrap .u64 n:=by
 unfold IntKind.wrap
 simp only [IntKind.signed,Bool.false_and,Bool.false_eq_true,if_false]
 exact Int.emod_nonneg _ (by decide)
def zk5 (p n:Int):Int :=
 ior .u32 (zjX .u32 p (zdN .u64 (IntKind.wrap .u64 (IntKind.wrap .i64 (0 - n))) 31)) (zdJ .u32 p (IntKind.wrap .u64 (32 - (zdN .u64 (IntKind.wrap .u64 (IntKind.wrap .i64 (0 - n))) 31))))
theorem zDq {β:Type} (L:Nat) (p n:Int) (k:Int→Option β):ym β L p n k=k (ior .u32 (zjX .u32 p (zdN .u64 (IntKind.wrap .u64 n) 31)) (zdJ .u32 p (IntKind.wrap .u64 (32 - (zdN .u64 (IntKind.wrap .u64 n) 31))))):=by
 unfold ym zcW
 simp only [xG]
 rw [xl (show 0≤zdN .u64 (IntKind.wrap .u64 n) 31 from zl1 _),xl (zl1 _)]
theorem zyj {β:Type} (L:Nat) (p n:Int) (k:Int→Option β):yb β L p n k=k (zk5 p n):=by
 unfold yb zoH
 simp only [xG]
 rw [zDq]; exact Eq.trans rfl rfl
theorem zam {β:Type} {k:IntKind} {l:List Int} {j:Nat} (h:j < l.length) (κ:Int→Option β):cI k (row k l) j κ=κ (l.getD j 0) :=
 zkN (by simp [row,h]) κ
theorem zl4 {k:IntKind} {w:List Int} {j:Nat} (h:j < w.length) (x:Int):xk (row k w) j [V.sc (.int k x)]=row k (w.set j x):=by
 rw [zzQ (by rw [yA]; exact h)]
 simp [row]
theorem zyM {t c:Nat} (h:c≤t) (h2:t≤1000000):IntKind.wrap .i64 ((t:Int) - (c:Int))=((t - c:Nat):Int):=by
 rw [zbb (by omega) (by omega)]; omega
def s2 (w:List Int) (t:Nat):Int :=
 IntKind.wrap .u32 (IntKind.wrap .u32 (IntKind.wrap .u32 (w.getD (t - 16) 0+zaR .u32 (zaR .u32 (zk5 (w.getD (t - 15) 0) 7) (zk5 (w.getD (t - 15) 0) 18)) (zdJ .u32 (w.getD (t - 15) 0) 3))+w.getD (t - 7) 0)+zaR .u32 (zaR .u32 (zk5 (w.getD (t - 2) 0) 17) (zk5 (w.getD (t - 2) 0) 19)) (zdJ .u32 (w.getD (t - 2) 0) 10))
def zwC:Nat→Nat→List Int→List Int
 | 0,_,w=>w
 | m+1,t,w=>zwC m (t+1) (w.set t (s2 w t))
theorem zwL:∀ (m t:Nat) (w:List Int),(zwC m t w).length=w.length
 | 0,_,_=>rfl
 | m+1,t,w=>by rw [zwC,zwL m]; simp
theorem zAe {β:Type} (L:Nat) {t:Nat} (h1:16≤t) (h2:t < 64) (b2:List V) {w:List Int} (hw:w.length=64) (kh:Int→List V→List V→Option β) (kx:List V→List V→Option β):zbn yb L (t:Int) b2 (row .u32 w) kh kx=kh ((t+1:Nat):Int) b2 (row .u32 (w.set t (s2 w t))):=by
 unfold zbn
 have e15:IntKind.wrap .i64 ((t:Int) - (15:Int))=((t - 15:Nat):Int):=zyM (c:=15) (by omega) (by omega)
 have e2:IntKind.wrap .i64 ((t:Int) - (2:Int))=((t - 2:Nat):Int):=zyM (c:=2) (by omega) (by omega)
 have e16:IntKind.wrap .i64 ((t:Int) - (16:Int))=((t - 16:Nat):Int):=zyM (c:=16) (by omega) (by omega)
 have e7:IntKind.wrap .i64 ((t:Int) - (7:Int))=((t - 7:Nat):Int):=zyM (c:=7) (by omega) (by omega)
 have c15:0≤((t - 15:Nat):Int)∧((t - 15:Nat):Int) < ((64:Nat):Int):=by omega
 have c2:0≤((t - 2:Nat):Int)∧((t - 2:Nat):Int) < ((64:Nat):Int):=by omega
 have c16:0≤((t - 16:Nat):Int)∧((t - 16:Nat):Int) < ((64:Nat):Int):=by omega
 have c7:0≤((t - 7:Nat):Int)∧((t - 7:Nat):Int) < ((64:Nat):Int):=by omega
 have c0:0≤(t:Int)∧(t:Int) < ((64:Nat):Int):=by omega
 have cl:True∧t+1≤64:=⟨trivial,by omega⟩
 rw [xJ (by omega:(t:Int) < 64)]
 simp only [xG,e15,e2,e16,e7,xl c15,xl c2,xl c16,xl c7,xl c0,Int.toNat_natCast,Nat.mul_one,Nat.zero_add,zyj,zam (show t - 15 < w.length by omega),zam (show t - 2 < w.length by omega),zam (show t - 16 < w.length by omega),zam (show t - 7 < w.length by omega),yA,hw,zl4 (show t < w.length by omega),zcJ (show t≤1000000000 by omega)]
 rw [xl cl]
 exact Eq.trans rfl rfl
theorem zu1 {β:Type} (L:Nat) (b2:List V) (kx:List V→List V→Option β):∀ (n m t:Nat) (w:List Int),w.length=64→16≤t→t+m=64→m < n→zaK yb L kx n (t:Int) b2 (row .u32 w)=kx b2 (row .u32 (zwC m t w))
 | 0,m,t,w,_,_,_,h=>by omega
 | n+1,0,t,w,hw,h1,h2,h=>by
  unfold zaK zbn
  rw [yO (by omega)]; exact Eq.trans rfl rfl
 | n+1,m+1,t,w,hw,h1,h2,h=>by
  unfold zaK
  rw [zAe L h1 (by omega) b2 hw]
  exact zu1 L b2 kx n m (t+1) _ (by simpa using hw) (by omega) (by omega) (by omega)
theorem zrz {n:Int} (h1:0≤n) (h2:n < 4294967296):IntKind.wrap .u32 n=n:=zr8 h1 (by omega)
theorem zDc {a b:Int} {n:Nat} (ha:0≤a) (hb:0≤b) (hb2:b < 2 ^ n) (hs:a * 2 ^ n+b < 4294967296):ior .u32 (a * 2 ^ n) b=a * 2 ^ n+b:=by
 obtain ⟨x,rfl⟩:=Int.eq_ofNat_of_zero_le ha
 obtain ⟨y,rfl⟩:=Int.eq_ofNat_of_zero_le hb
 have hy:y < 2 ^ n:=by exact_mod_cast hb2
 have e:((x:Int) * 2 ^ n)=((x * 2 ^ n:Nat):Int):=by rw [Int.natCast_mul,Int.natCast_pow]; rfl
 rw [e] at hs ⊢
 have hxy:x * 2 ^ n+y < 4294967296:=by omega
 unfold ior
 have q1:(BitVec.ofInt (IntKind.bits .u32) ((x * 2 ^ n:Nat):Int)).toNat=x * 2 ^ n:=by
  rw [BitVec.toNat_ofInt]
  show (((x * 2 ^ n:Nat):Int) % ((2 ^ 32:Nat):Int)).toNat=_
  rw [← Int.natCast_emod,Int.toNat_natCast,Nat.mod_eq_of_lt (by omega)]
 have q2:(BitVec.ofInt (IntKind.bits .u32) (y:Int)).toNat=y:=by
  rw [BitVec.toNat_ofInt]
  show ((y:Int) % ((2 ^ 32:Nat):Int)).toNat=_
  rw [← Int.natCast_emod,Int.toNat_natCast,Nat.mod_eq_of_lt (by omega)]
 rw [BitVec.toNat_or,q1,q2,← Nat.shiftLeft_eq,← Nat.shiftLeft_add_eq_or_of_lt hy,Nat.shiftLeft_eq]
 rw [zrz (by omega) (by omega),Int.natCast_add]
theorem zBW {a:Int} (n:Nat) (hn:n≤32) (ha:0≤a) (hs:a * 2 ^ n < 4294967296):zjX .u32 a (n:Int)=a * 2 ^ n:=by
 unfold zjX
 have:min (Int.toNat (n:Int)) (IntKind.bits .u32)=n:=by
  rw [Int.toNat_natCast]; exact Nat.min_eq_left hn
 rw [this]
 have h0:0≤a * 2 ^ n:=Int.mul_nonneg ha (Int.le_of_lt (Int.pow_pos (by decide)))
 exact zrz h0 hs
theorem zjG {l:List Int} (h:∀ x ∈ l,0≤x∧x≤255) (i:Nat):0≤l.getD i 0∧l.getD i 0≤255:=by
 rw [List.getD_eq_getElem?_getD]
 by_cases hi:i < l.length
 ·rw [List.getElem?_eq_getElem hi]; exact h _ (List.getElem_mem hi)
 ·rw [List.getElem?_eq_none (by omega)]; simp
theorem zi9 {w:List Int} {t:Nat} (h:t < w.length) (x:Int):(w.set t x).getD t 0=x:=by
 simp [List.getD_eq_getElem?_getD,h]
theorem getD_set_ne {w:List Int} {t i:Nat} (h:t≠i) (x:Int):(w.set t x).getD i 0=w.getD i 0:=by
 simp [List.getD_eq_getElem?_getD,List.getElem?_set_ne h]
def zuk (l:List Int) (t:Nat):Int :=
 ((l.getD (4 * t) 0 * 256+l.getD (4 * t+1) 0) * 256+l.getD (4 * t+2) 0) * 256+l.getD (4 * t+3) 0
theorem zDo {x y:Int} (h0:0≤x) (h1:x < 16777216) (b0:0≤y) (b1:y≤255):ior .u32 (zjX .u32 x (8:Int)) y=x * 256+y:=by
 have e1:zjX .u32 x (8:Int)=x * 2 ^ 8:=zBW 8 (by decide) h0 (by omega)
 rw [e1,zDc (n:=8) h0 b0 (by omega) (by omega)]; exact Eq.trans rfl rfl
theorem zEs {t:Nat} (h:t≤1000000):IntKind.wrap .i64 ((4:Int) * (t:Int))=((4 * t:Nat):Int):=by
 rw [zbb (by omega) (by omega)]; omega
theorem zES {a b:Nat} (h:a≤1000000000) (h2:b≤1000000000):IntKind.wrap .i64 ((a:Int)+(b:Int))=((a+b:Nat):Int):=by
 rw [zbb (by omega) (by omega)]; omega
theorem zDe {β:Type} (L:Nat) {t j:Nat} (ht:t < 16) (hj:j < 4) (b2:List V) {l w:List Int} (hl:l.length=64) (hb:∀ x ∈ l,0≤x∧x≤255) (hw:w.length=64) {x:Int} (hx:w.getD t 0=x) (h0:0≤x) (h1:x < 16777216) (kh:Int→Int→Int→List V→List V→List V→Option β) (kx:Int→List V→List V→List V→Option β):yL yb L (t:Int) (t:Int) (j:Int) (row .u8 l) b2 (row .u32 w) kh kx=kh (t:Int) (t:Int) ((j+1:Nat):Int) (row .u8 l) b2 (row .u32 (w.set t (x * 256+l.getD (4 * t+j) 0))):=by
 unfold yL
 have bb:=zjG hb (4 * t+j)
 have e4:IntKind.wrap .i64 ((4:Int) * (t:Int))=((4 * t:Nat):Int):=zEs (by omega)
 have e5:IntKind.wrap .i64 (((4 * t:Nat):Int)+(j:Int))=((4 * t+j:Nat):Int):=zES (by omega) (by omega)
 have e6:IntKind.wrap .u32 (l.getD (4 * t+j) 0)=l.getD (4 * t+j) 0:=zr8 bb.1 (by omega)
 have e7:ior .u32 (zjX .u32 x (8:Int)) (l.getD (4 * t+j) 0)=x * 256+l.getD (4 * t+j) 0:=zDo h0 h1 bb.1 bb.2
 have c0:0≤(t:Int)∧(t:Int) < ((64:Nat):Int):=by omega
 have c5:0≤((4 * t+j:Nat):Int)∧((4 * t+j:Nat):Int) < ((64:Nat):Int):=by omega
 have cl:True∧t+1≤64:=⟨trivial,by omega⟩
 rw [xJ (by omega:(j:Int) < 4)]
 simp only [xG,e4,e5,xl c0,xl c5,Int.toNat_natCast,Nat.mul_one,Nat.zero_add,zam (show t < w.length by omega),zam (show 4 * t+j < l.length by omega),hx,e6,e7,yA,hw,zl4 (show t < w.length by omega),zcJ (show j≤1000000000 by omega)]
 rw [xl cl]
theorem znX {β:Type} (L n:Nat) {t j:Nat} (ht:t < 16) (hj:j < 4) (b2:List V) {l w:List Int} (hl:l.length=64) (hb:∀ x ∈ l,0≤x∧x≤255) (hw:w.length=64) {x:Int} (hx:w.getD t 0=x) (h0:0≤x) (h1:x < 16777216) (kx:Int→List V→List V→List V→Option β):yF yb L kx (n+1) (t:Int) (t:Int) (j:Int) (row .u8 l) b2 (row .u32 w)=yF yb L kx n (t:Int) (t:Int) ((j+1:Nat):Int) (row .u8 l) b2 (row .u32 (w.set t (x * 256+l.getD (4 * t+j) 0))) :=
 (show yF yb L kx (n+1) (t:Int) (t:Int) (j:Int) (row .u8 l) b2 (row .u32 w)=yL yb L (t:Int) (t:Int) (j:Int) (row .u8 l) b2 (row .u32 w) (fun p4 p9 p12 b1 b2 b3=>yF yb L kx n p4 p9 p12 b1 b2 b3) kx from rfl).trans (zDe L ht hj b2 hl hb hw hx h0 h1 _ _)
theorem zDg {β:Type} (L n:Nat) {t:Nat} (ht:t < 16) (b2:List V) {l w:List Int} (hl:l.length=64) (hb:∀ x ∈ l,0≤x∧x≤255) (hw:w.length=64) (hx:w.getD t 0=0) (kx:Int→List V→List V→List V→Option β):yF yb L kx (n+5) (t:Int) (t:Int) ((0:Nat):Int) (row .u8 l) b2 (row .u32 w)=kx (t:Int) (row .u8 l) b2 (row .u32 (w.set t (zuk l t))):=by
 have htw:t < w.length:=by omega
 have a0:=zjG hb (4 * t+0)
 have a1:=zjG hb (4 * t+1)
 have a2:=zjG hb (4 * t+2)
 have a3:=zjG hb (4 * t+3)
 refine (znX L (n+4) ht (j:=0) (by decide) b2 hl hb hw hx (by decide) (by decide) kx).trans ?_
 refine (znX L (n+3) ht (j:=1) (by decide) b2 hl hb (by simpa using hw) (zi9 htw _) (by omega) (by omega) kx).trans ?_
 rw [List.set_set]
 refine (znX L (n+2) ht (j:=2) (by decide) b2 hl hb (by simpa using hw) (zi9 htw _) (by omega) (by omega) kx).trans ?_
 rw [List.set_set]
 refine (znX L (n+1) ht (j:=3) (by decide) b2 hl hb (by simpa using hw) (zi9 htw _) (by omega) (by omega) kx).trans ?_
 rw [List.set_set]
 have e:(((0 * 256+l.getD (4 * t+0) 0) * 256+l.getD (4 * t+1) 0) * 256+l.getD (4 * t+2) 0) * 256+l.getD (4 * t+3) 0=zuk l t:=by
  unfold zuk; rw [Nat.add_zero,Int.zero_mul,Int.zero_add]
 rw [e]
 refine (show _=yL yb L (t:Int) (t:Int) ((3+1:Nat):Int) (row .u8 l) b2 (row .u32 (w.set t (zuk l t))) (fun p4 p9 p12 b1 b2 b3=>yF yb L kx n p4 p9 p12 b1 b2 b3) kx from rfl).trans ?_
 unfold yL
 rw [yO (by omega)]
def zwH:Nat→Nat→List Int→List Int→List Int
 | 0,_,_,w=>w
 | m+1,t,l,w=>zwH m (t+1) l (w.set t (zuk l t))
theorem zsn:∀ (m t:Nat) (l w:List Int),(zwH m t l w).length=w.length
 | 0,_,_,_=>rfl
 | m+1,t,l,w=>by rw [zwH,zsn m]; simp
theorem zBh {β:Type} {L:Nat} (hL:5≤L) {t:Nat} (ht:t < 16) (b2:List V) {l w:List Int} (hl:l.length=64) (hb:∀ x ∈ l,0≤x∧x≤255) (hw:w.length=64) (hx:w.getD t 0=0) (k0:List V→List V→Option β) (kh:Int→List V→List V→List V→Option β):zaN yb L (t:Int) (row .u8 l) b2 (row .u32 w) k0 kh=kh ((t+1:Nat):Int) (row .u8 l) b2 (row .u32 (w.set t (zuk l t))):=by
 obtain ⟨n,rfl⟩:=Nat.exists_eq_add_of_le hL
 unfold zaN zc8
 rw [xJ (by omega:(t:Int) < 16)]
 rw [Nat.add_comm 5 n]
 refine (zDg (n+5) n ht b2 hl hb hw hx _).trans ?_
 unfold zbC
 rw [xG,zcJ (by omega)]
theorem zwI {β:Type} {L:Nat} (hL:5≤L) (b2:List V) {l:List Int} (hl:l.length=64) (hb:∀ x ∈ l,0≤x∧x≤255) (k0:List V→List V→Option β):∀ (n m t:Nat) (w:List Int),w.length=64→(∀ i,t≤i→w.getD i 0=0)→t+m=16→m < n→zaY yb L k0 n (t:Int) (row .u8 l) b2 (row .u32 w)=k0 b2 (row .u32 (zwH m t l w))
 | 0,m,t,w,_,_,_,h=>by omega
 | n+1,0,t,w,hw,hz,h1,h=>by
  unfold zaY zaN zc8
  rw [yO (by omega)]; exact Eq.trans rfl rfl
 | n+1,m+1,t,w,hw,hz,h1,h=>by
  unfold zaY
  rw [zBh hL (by omega) b2 hl hb hw (hz t (Nat.le_refl t))]
  exact zwI hL b2 hl hb k0 n m (t+1) _ (by simpa using hw) (fun i hi=>by rw [getD_set_ne (by omega)]; exact hz i (by omega)) (by omega) (by omega)
def zoB (l:List Int):List Int:=zwC 48 16 (zwH 16 0 l (List.replicate 64 0))
theorem zl5 (l:List Int):(zoB l).length=64:=by
 unfold zoB; rw [zwL,zsn]; rfl
theorem zq3 (n:Nat) (k:IntKind) (x:Int):List.replicate n (V.sc (.int k x))=row k (List.replicate n x):=by simp [row]
theorem zBF (n i:Nat):(List.replicate n (0:Int)).getD i 0=0:=by
 rw [List.getD_eq_getElem?_getD]
 by_cases hi:i < n
 ·simp [hi]
 ·simp [hi]
theorem zz0 {β:Type} {w:List Int} (hw:w.length=64) (z:List Int) (hz:z.length=64) (k:List V→Option β) :
  chk (0+64≤(List.length (row .u32 w))) (chk ((List.length (List.take 64 (row .u32 w)))=64∧0+64≤(List.length (row .u32 z))) (
   lt (xk (row .u32 z) 0 (List.take 64 (row .u32 w))) fun r41=>chk (0=0∧(List.length r41)=64∧64≠0) (k r41)))=k (row .u32 w):=by
 have e:List.take 64 (row .u32 w)=row .u32 w:=List.take_of_length_le (by rw [yA]; omega)
 rw [xG,e,zei (by rw [yA,yA]; omega)]
 rw [xl (by rw [yA]; omega),xl ⟨by rw [yA]; omega,by rw [yA]; omega⟩,xl ⟨rfl,by rw [yA]; omega,by decide⟩]
theorem zxx {β:Type} {L:Nat} (hL:100≤L) {l:List Int} (hl:l.length=64) (hb:∀ x ∈ l,0≤x∧x≤255) (k:List V→Option β):xi β L (row .u8 l) k=k (row .u32 (zoB l)):=by
 unfold xi zgh zi7
 rw [zq3]
 refine (zwI (by omega) _ hl hb _ L 16 0 _ rfl (fun i _=>?_) rfl (by omega)).trans ?_
 ·exact zBF 64 i
 unfold zb2 zd1
 refine (zu1 L _ _ L 48 16 _ (by rw [zsn]; rfl) (by omega) rfl (by omega)).trans ?_
 unfold zdG
 exact zz0 (zl5 l) _ rfl k
end
section
set_option linter.unusedVariables false
set_option linter.unusedSimpArgs false
def kc:List Int:=gk_sha_k.map fun v=>match v with | .sc (.int _ n)=>n | _=>0
theorem zDW:gk_sha_k=row .u32 kc:=rfl
theorem zDK:kc.length=64:=rfl
def t1 (e f g h kk ww:Int):Int :=
 IntKind.wrap .u32 (IntKind.wrap .u32 (IntKind.wrap .u32 (IntKind.wrap .u32 (h+zaR .u32 (zaR .u32 (zk5 e 6) (zk5 e 11)) (zk5 e 25))+zaR .u32 (zdN .u32 e f) (zdN .u32 (zBm .u32 e) g))+kk)+ww)
def t2 (a b c:Int):Int :=
 IntKind.wrap .u32 (zaR .u32 (zaR .u32 (zk5 a 2) (zk5 a 13)) (zk5 a 22)+zaR .u32 (zaR .u32 (zdN .u32 a b) (zdN .u32 a c)) (zdN .u32 b c))
def zqV {γ:Type} (w:List Int) (κ:Int→Int→Int→Int→Int→Int→Int→Int→γ):Nat→Nat→Int→Int→Int→Int→Int→Int→Int→Int→γ
 | 0,_,a,b,c,d,e,f,g,h=>κ a b c d e f g h
 | m+1,t,a,b,c,d,e,f,g,h=>zqV w κ m (t+1) (IntKind.wrap .u32 (t1 e f g h (kc.getD t 0) (w.getD t 0)+t2 a b c)) a b c (IntKind.wrap .u32 (d+t1 e f g h (kc.getD t 0) (w.getD t 0))) e f g
theorem zqn {γ δ:Type} (u:γ→δ) (w:List Int) (κ:Int→Int→Int→Int→Int→Int→Int→Int→γ):∀ (m t:Nat) (a b c d e f g h:Int),zqV w (fun a b c d e f g h=>u (κ a b c d e f g h)) m t a b c d e f g h=u (zqV w κ m t a b c d e f g h)
 | 0,_,_,_,_,_,_,_,_,_=>rfl
 | m+1,t,a,b,c,d,e,f,g,h=>zqn u w κ m (t+1) _ _ _ _ _ _ _ _
theorem zrO {γ:Type} (u:γ) (w:List Int):∀ (m t:Nat) (a b c d e f g h:Int),zqV w (fun _ _ _ _ _ _ _ _=>u) m t a b c d e f g h=u
 | 0,_,_,_,_,_,_,_,_,_=>rfl
 | m+1,t,a,b,c,d,e,f,g,h=>zrO u w m (t+1) _ _ _ _ _ _ _ _
theorem zzG {β:Type} (L:Nat) {t:Nat} (ht:t < 64) (a b c d e f g h:Int) (b2:List V) (z0 z1 z2 z3 z4 z5 z6 z7:Int) {w:List Int} (hw:w.length=64) (kh:zdH β) (kx:zeC β):zbh xi yb L a b c d e f g h (t:Int) b2 z0 z1 z2 z3 z4 z5 z6 z7 (row .u32 w) kh kx=kh (IntKind.wrap .u32 (t1 e f g h (kc.getD t 0) (w.getD t 0)+t2 a b c)) a b c (IntKind.wrap .u32 (d+t1 e f g h (kc.getD t 0) (w.getD t 0))) e f g ((t+1:Nat):Int) b2 z0 z1 z2 z3 z4 z5 z6 z7 (row .u32 w):=by
 unfold zbh
 have c0:0≤(t:Int)∧(t:Int) < ((64:Nat):Int):=by omega
 have ek:∀ κ:Int→Option β,cI .u32 (List.drop t gk_sha_k) 0 κ=κ (kc.getD t 0):=by
  intro κ
  rw [zDW,zBk,zam (by rw [List.length_drop,zDK]; omega)]
  simp [List.getD_eq_getElem?_getD]
 rw [xJ (by omega:(t:Int) < 64)]
 simp only [xG,xl c0,zyj,Int.toNat_natCast,Nat.mul_one,Nat.zero_add,ek,zam (show t < w.length by omega),zcJ (show t≤1000000000 by omega)]
 exact Eq.trans rfl rfl
theorem zuO {β:Type} (L:Nat) (b2:List V) (z0 z1 z2 z3 z4 z5 z6 z7:Int) {w:List Int} (hw:w.length=64) (kx:zeC β):∀ (n m t:Nat) (a b c d e f g h:Int),t+m=64→m < n→zaB xi yb L kx n a b c d e f g h (t:Int) b2 z0 z1 z2 z3 z4 z5 z6 z7 (row .u32 w)=zqV w (fun a b c d e f g h=>kx a b c d e f g h b2 z0 z1 z2 z3 z4 z5 z6 z7) m t a b c d e f g h
 | 0,m,t,_,_,_,_,_,_,_,_,_,h=>by omega
 | n+1,0,t,a,b,c,d,e,f,g,h,h1,h2=>by
  unfold zaB zbh
  rw [yO (by omega)]; exact Eq.trans rfl rfl
 | n+1,m+1,t,a,b,c,d,e,f,g,h,h1,h2=>by
  unfold zaB
  rw [zzG L (by omega) a b c d e f g h b2 z0 z1 z2 z3 z4 z5 z6 z7 hw]
  exact zuO L b2 z0 z1 z2 z3 z4 z5 z6 z7 hw kx n m (t+1) _ _ _ _ _ _ _ _ (by omega) (by omega)
def zvI (hs:List Int) (a b c d e f g h:Int):List Int :=
 [IntKind.wrap .u32 (hs.getD 0 0+a),IntKind.wrap .u32 (hs.getD 1 0+b),IntKind.wrap .u32 (hs.getD 2 0+c),IntKind.wrap .u32 (hs.getD 3 0+d),IntKind.wrap .u32 (hs.getD 4 0+e),IntKind.wrap .u32 (hs.getD 5 0+f),IntKind.wrap .u32 (hs.getD 6 0+g),IntKind.wrap .u32 (hs.getD 7 0+h)]
def zyN (hs l:List Int):List Int :=
 zqV (zoB l) (zvI hs) 64 0 (hs.getD 0 0) (hs.getD 1 0) (hs.getD 2 0) (hs.getD 3 0) (hs.getD 4 0) (hs.getD 5 0) (hs.getD 6 0) (hs.getD 7 0)
theorem zoN (hs l:List Int):(zyN hs l).length=8 :=
 ((zqn List.length (zoB l) (zvI hs) 64 0 _ _ _ _ _ _ _ _).symm).trans (zrO 8 (zoB l) 64 0 _ _ _ _ _ _ _ _)
theorem zB2 {β:Type} (L:Nat) {hs:List Int} (hh:hs.length=8) (k:List V→Option β) (a b c d e f g h z0 z1 z2 z3 z4 z5 z6 z7:Int):zbE xi yb L a b c d e f g h (row .u32 hs) z0 z1 z2 z3 z4 z5 z6 z7 k=k (row .u32 (zvI hs a b c d e f g h)):=by
 unfold zbE
 simp only [xG,zam (show 0 < hs.length by omega),zam (show 1 < hs.length by omega),zam (show 2 < hs.length by omega),zam (show 3 < hs.length by omega),zam (show 4 < hs.length by omega),zam (show 5 < hs.length by omega),zam (show 6 < hs.length by omega),zam (show 7 < hs.length by omega)]
 exact (xl ⟨trivial,rfl,by decide⟩ _).trans rfl
theorem zxK {β:Type} {L:Nat} (hL:100≤L) {hs l:List Int} (hh:hs.length=8) (hl:l.length=64) (hb:∀ x ∈ l,0≤x∧x≤255) (k:List V→Option β):yd β L (row .u32 hs) (row .u8 l) k=k (row .u32 (zyN hs l)):=by
 unfold yd zf5 zi3
 have e1:List.take 64 (row .u8 l)=row .u8 l:=List.take_of_length_le (by rw [yA]; omega)
 rw [xl (by rw [yA]; omega),e1]
 refine (zxx hL hl hb _).trans ?_
 rw [xl ⟨by rw [yA,zl5],by decide⟩,xG,zei (by rw [yA,zl5]; rfl)]
 rw [zam (show 0 < hs.length by omega),zam (show 1 < hs.length by omega),zam (show 2 < hs.length by omega),zam (show 3 < hs.length by omega),zam (show 4 < hs.length by omega),zam (show 5 < hs.length by omega),zam (show 6 < hs.length by omega),zam (show 7 < hs.length by omega)]
 refine (zuO L (row .u32 hs) 0 0 0 0 0 0 0 0 (zl5 l) _ L 64 0 _ _ _ _ _ _ _ _ rfl (by omega)).trans ?_
 simp only [zB2 L hh]
 exact zqn (fun r=>k (row .u32 r)) (zoB l) (zvI hs) 64 0 _ _ _ _ _ _ _ _
end
section
set_option linter.unusedVariables false
set_option linter.unusedSimpArgs false
def zs (n:Nat):Nat:=(64 - (n+9) % 64) % 64
def pb (n i:Nat):Int:=IntKind.wrap .u8 (zdJ .u64 (IntKind.wrap .u64 ((8:Int) * (n:Int))) ((56 - 8 * i:Nat):Int))
def pbs (n:Nat):Nat→Nat→List Int
 | 0,_=>[]
 | m+1,i=>pb n i::pbs n m (i+1)
theorem zyt (n:Nat):∀ m i:Nat,(pbs n m i).length=m
 | 0,_=>rfl
 | m+1,i=>by rw [pbs,List.length_cons,zyt n m]
theorem zg3 (n:Int):0≤IntKind.wrap .u8 n∧IntKind.wrap .u8 n≤255:=by
 unfold IntKind.wrap
 simp only [IntKind.signed,Bool.false_and,Bool.false_eq_true,if_false]
 have h1:=Int.emod_nonneg n (show (2:Int) ^ IntKind.bits .u8≠0 by decide)
 have h2:=Int.emod_lt_of_pos n (show (0:Int) < 2 ^ IntKind.bits .u8 by decide)
 exact ⟨h1,Int.le_of_lt_add_one h2⟩
theorem zzV (n:Nat):∀ m i:Nat,∀ x ∈ pbs n m i,0≤x∧x≤255
 | 0,_=>fun x h=>by simp [pbs] at h
 | m+1,i=>fun x h=>by
  rw [pbs,List.mem_cons] at h
  rcases h with rfl | h
  ·exact zg3 _
  ·exact zzV n m (i+1) x h
def zfY (n:Nat):List Int:=(128::List.replicate (zs n) 0)++pbs n 8 0
theorem zr2 (n:Nat):(zfY n).length=9+zs n:=by simp [zfY,zyt]; omega
theorem zC6 (n:Nat):∀ x ∈ zfY n,0≤x∧x≤255:=by
 intro x hx
 rw [zfY,List.mem_append,List.mem_cons] at hx
 rcases hx with (rfl | hx) | hx
 ·exact ⟨by decide,by decide⟩
 ·rw [List.eq_of_mem_replicate hx]; exact ⟨by decide,by decide⟩
 ·exact zzV n 8 0 x hx
theorem zCj (n:Nat):zs n < 64:=Nat.mod_lt _ (by decide)
theorem zDZ (n:Nat):(n+9+zs n) % 64=0:=by unfold zs; omega
theorem zwN (x:Int):yf 1 1 [V.sc (.int .u8 x)]=xt .u8 [x]:=rfl
theorem zBv {β:Type} (L:Nat) {n i:Nat} (hi:i < 8) (b:Nat) {acc:List Int} (ha:acc.length≤1000000) (kh:Int→List (List V)→Int→Nat→Option β) (kx:List (List V)→Nat→Option β):zb7 L (n:Int) (xt .u8 acc) (i:Int) b kh kx=kh (n:Int) (xt .u8 (acc++[pb n i])) ((i+1:Nat):Int) b:=by
 unfold zb7
 have e8:IntKind.wrap .i64 ((8:Int) * (i:Int))=((8 * i:Nat):Int):=by rw [zbb (by omega) (by omega)]; omega
 have e56:IntKind.wrap .i64 ((56:Int) - ((8 * i:Nat):Int))=((56 - 8 * i:Nat):Int):=by rw [zbb (by omega) (by omega)]; omega
 rw [xJ (by omega:(i:Int) < 8)]
 simp only [xG,e8,e56,zwN,zbO,zcJ (show i≤1000000000 by omega)]
 rw [xl (by omega),xl (by simp [yC,xg]; omega)]
 exact Eq.trans rfl rfl
theorem zwq {β:Type} (L n b:Nat) (kx:List (List V)→Nat→Option β):∀ (f m i:Nat) (acc:List Int),i+m=8→m < f→acc.length≤900000+i→zaF L kx f (n:Int) (xt .u8 acc) (i:Int) b=kx (xt .u8 (acc++pbs n m i)) b
 | 0,m,i,acc,_,h,_=>by omega
 | f+1,0,i,acc,h1,h2,h3=>by
  unfold zaF zb7
  rw [yO (by omega),pbs,List.append_nil]
 | f+1,m+1,i,acc,h1,h2,h3=>by
  unfold zaF
  rw [zBv L (by omega) b (by omega)]
  refine (zwq L n b kx f m (i+1) _ (by omega) (by omega) (by simp; omega)).trans ?_
  rw [pbs,List.append_assoc]; exact Eq.trans rfl rfl
theorem zDO {β:Type} {L:Nat} (hL:100≤L) {n:Nat} (hn:n≤100000000) (k k1:List (List V)→Option β):zi β L (n:Int) k k1=k1 (xt .u8 (zfY n)):=by
 unfold zi zmj zp3
 have z64:=zCj n
 have e0:IntKind.wrap .u64 ((n:Int)+(9:Int))=((n+9:Nat):Int):=by rw [zc6 (by omega) (by omega)]; omega
 have e1:Int.tmod ((n+9:Nat):Int) (64:Int)=(((n+9) % 64:Nat):Int):=(Int.ofNat_tmod (n+9) 64).symm
 have e2:IntKind.wrap .u64 ((64:Int) - (((n+9) % 64:Nat):Int))=((64 - (n+9) % 64:Nat):Int):=by rw [zc6 (by omega) (by omega)]; omega
 have e3:Int.tmod ((64 - (n+9) % 64:Nat):Int) (64:Int)=((zs n:Nat):Int):=(Int.ofNat_tmod (64 - (n+9) % 64) 64).symm
 have e4:IntKind.wrap .u64 ((1:Int)+((zs n:Nat):Int))=((1+zs n:Nat):Int):=by rw [zc6 (by omega) (by omega)]; omega
 have e5:IntKind.wrap .u64 ((9:Int)+((zs n:Nat):Int))=((9+zs n:Nat):Int):=by rw [zc6 (by omega) (by omega)]; omega
 have e6:List.flatten (List.replicate (9+zs n) [V.sc (.int .u8 (0:Int))])=row .u8 (List.replicate (9+zs n) 0):=by
  rw [List.flatten_replicate_singleton,zq3]
 have e7:xk (row .u8 (List.replicate (9+zs n) 0)) 0 [V.sc (.int .u8 (128:Int))]=row .u8 (128::List.replicate (8+zs n) 0):=by
  rw [zl4 (by simp; omega),show 9+zs n=(8+zs n)+1 by omega,List.replicate_succ,List.set_cons_zero]
 simp only [xG,e0,e1,e2,e3,e4,e5,Int.toNat_natCast,e6,e7]
 rw [xl ⟨by omega,by omega,by simp [xg]; omega,by simp [xg]; omega⟩,xl ⟨by omega,by omega⟩,xl ⟨trivial,by simp [yA]; omega⟩]
 obtain ⟨L',rfl⟩:=Nat.exists_eq_add_of_le hL
 rw [show 100+L'=(99+L')+1 by omega]
 refine (show _=zex (99+L'+1) (n:Int) (1+zs n) (0:Int) (row .u8 (128::List.replicate (8+zs n) 0)) (fun p0 p4 p18 b15=>zaF (99+L'+1) (fun p4 b15=>zb1 (99+L'+1) p4 b15 k1) (99+L') p0 p4 p18 b15) (fun p4l b15=>zfG (99+L'+1) p4l b15 k) from rfl).trans ?_
 unfold zex
 have e8:IntKind.wrap .i64 ((8:Int) * (0:Int))=((8 * 0:Nat):Int):=by rw [zbb (by omega) (by omega)]; omega
 have e56:IntKind.wrap .i64 ((56:Int) - ((8 * 0:Nat):Int))=((56 - 8 * 0:Nat):Int):=by rw [zbb (by omega) (by omega)]; omega
 have e9:IntKind.wrap .i64 ((0:Int)+(1:Int))=((1:Nat):Int):=zcJ (i:=0) (by omega)
 have ec:yf 1 (1+zs n) (row .u8 (128::List.replicate (8+zs n) 0))=xt .u8 (128::List.replicate (zs n) 0):=by
  rw [zoI _ _ _ (by simp; omega),show 1+zs n=zs n+1 by omega,List.take_succ_cons,List.take_replicate,show min (zs n) (8+zs n)=zs n by omega]
 rw [xJ (by decide:(0:Int) < 8)]
 simp only [xG,e8,e56,e9,zwN,ec,zbO]
 rw [xl ⟨trivial,by simp [yA]; omega,by simp [yA]⟩,xl (by omega),xl (by simp [yC,xg]; omega)]
 refine (zwq _ n _ _ (99+L') 7 1 _ rfl (by omega) (by simp; omega)).trans ?_
 unfold zb1 zfY
 rw [pbs,List.append_assoc]; exact Eq.trans rfl rfl
theorem zAK {β:Type} {L:Nat} (hL:100≤L) {a b:List Int} (ha:a.length≤1000000000) (hb:b.length≤1000000000) (k:List (List V)→Option β):xh β L (yf 1 2 [V.sl 1 (xt .u8 a),V.sl 1 (xt .u8 b)]) k=k (xt .u8 (a++b)):=by
 unfold xh zlQ zp0
 obtain ⟨L',rfl⟩:=Nat.exists_eq_add_of_le hL
 have es:yf 1 2 [V.sl 1 (xt .u8 a),V.sl 1 (xt .u8 b)]=[[V.sl 1 (xt .u8 a)],[V.sl 1 (xt .u8 b)]]:=rfl
 rw [es,show 100+L'=(97+L')+1+1+1 by omega]
 refine (show _=zbd (97+L'+1+1+1) [] [[V.sl 1 (xt .u8 a)],[V.sl 1 (xt .u8 b)]] ((2:Nat):Int) ((0:Nat):Int) (fun p3 p6 p7 p8=>zcM (97+L'+1+1+1) _ (97+L'+1+1) p3 p6 p7 p8) (fun p3=>zbM (97+L'+1+1+1) p3 k) from rfl).trans ?_
 unfold zbd
 rw [xJ (by decide),zdi (c:=[V.sl 1 (xt .u8 a)]) rfl,ziR (sz:=1) (es:=xt .u8 a) rfl,xl (by simp [yC,xg]; omega),xG,List.nil_append,xG,zcJ (i:=0) (by omega)]
 refine (show _=zbd (97+L'+1+1+1) (xt .u8 a) [[V.sl 1 (xt .u8 a)],[V.sl 1 (xt .u8 b)]] ((2:Nat):Int) ((1:Nat):Int) (fun p3 p6 p7 p8=>zcM (97+L'+1+1+1) _ (97+L'+1) p3 p6 p7 p8) (fun p3=>zbM (97+L'+1+1+1) p3 k) from rfl).trans ?_
 unfold zbd
 rw [xJ (by decide),zdi (c:=[V.sl 1 (xt .u8 b)]) rfl,ziR (sz:=1) (es:=xt .u8 b) rfl,xl (by simp [yC,xg]; omega),xG,zbO,xG,zcJ (i:=1) (by omega)]
 refine (show _=zbd (97+L'+1+1+1) (xt .u8 (a++b)) [[V.sl 1 (xt .u8 a)],[V.sl 1 (xt .u8 b)]] ((2:Nat):Int) ((2:Nat):Int) (fun p3 p6 p7 p8=>zcM (97+L'+1+1+1) _ (97+L') p3 p6 p7 p8) (fun p3=>zbM (97+L'+1+1+1) p3 k) from rfl).trans ?_
 unfold zbd
 rw [yO (by decide)]
 unfold zbM
 exact Eq.trans rfl rfl
end
section
set_option linter.unusedVariables false
set_option linter.unusedSimpArgs false
def init0:List Int:=gk_sha_initial.map fun v=>match v with | .sc (.int _ n)=>n | _=>0
theorem zu3:init0.length=8:=rfl
def zwU:Nat→Nat→List Int→List Int→List Int
 | 0,_,_,h=>h
 | m+1,i,p,h=>zwU m (i+1) p (zyN h ((p.drop (64 * i)).take 64))
theorem zwA:∀ (m i:Nat) (p h:List Int),h.length=8→(zwU m i p h).length=8
 | 0,_,_,_,hh=>hh
 | m+1,i,p,h,hh=>by rw [zwU]; exact zwA m _ _ _ (zoN _ _)
theorem zuG (k:IntKind):∀ l:List Int,List.flatten (xt k l)=row k l
 | []=>rfl
 | x::l=>by
  have:=zuG k l
  simp only [xt,row] at this
  simp only [xt,row,List.map_cons,List.flatten_cons,this,List.singleton_append]
theorem zx6 {p:List Int} {i:Nat} (h:64 * (i+1)≤p.length):((p.drop (64 * i)).take 64).length=64:=by
 rw [List.length_take,List.length_drop]; omega
theorem zD7 {p:List Int} (hp:∀ x ∈ p,0≤x∧x≤255) (i:Nat):∀ x ∈ (p.drop (64 * i)).take 64,0≤x∧x≤255 :=
 fun x hx=>hp x (List.mem_of_mem_drop (List.mem_of_mem_take hx))
theorem zDs (p:List Int) (n:Nat):List.take ((xt .u8 p).length - n) (List.drop n (xt .u8 p))=xt .u8 (p.drop n):=by
 rw [zAE,List.take_of_length_le (by rw [yC,yC,List.length_drop]; omega)]
theorem zB8 {β:Type} {L:Nat} (hL:100≤L) {p:List Int} (hp:∀ x ∈ p,0≤x∧x≤255) (hs:p.length≤1000000000) {N i:Nat} (hi:i < N) (hN:64 * (i+1)≤p.length) (b2:List V) {h:List Int} (hh:h.length=8) (kh:List (List V)→Int→Int→List V→List V→Option β) (kx:List V→List V→Option β):zdC zi xh yd L (xt .u8 p) (N:Int) (i:Int) b2 (row .u32 h) kh kx=kh (xt .u8 p) (N:Int) ((i+1:Nat):Int) b2 (row .u32 (zyN h ((p.drop (64 * i)).take 64))):=by
 unfold zdC
 have e9:IntKind.wrap .i64 ((64:Int) * (i:Int))=((64 * i:Nat):Int):=by rw [zbb (by omega) (by omega)]; omega
 have e8:List.take 8 (row .u32 h)=row .u32 h:=List.take_of_length_le (by rw [yA]; omega)
 have ec:List.take 64 (row .u8 ((p.drop (64 * i)).take 64))=row .u8 ((p.drop (64 * i)).take 64):=List.take_of_length_le (by rw [yA,zx6 hN]; omega)
 rw [xJ (by omega:(i:Int) < (N:Int)),xl (by rw [yA]; omega),xG,e9,Int.toNat_natCast,zDs,zAu,zuG,e8,ec]
 rw [xl ⟨by omega,by rw [yC]; omega⟩,xl (by rw [yC,List.length_drop]; omega)]
 refine (zxK hL hh (zx6 hN) (zD7 hp i) _).trans ?_
 rw [xl ⟨by rw [yA,zoN],by rw [yA]; omega⟩,xG,xG,zei (by rw [yA,yA,zoN,hh]),zcJ (by omega)]
theorem zwZ {β:Type} {L:Nat} (hL:100≤L) {p:List Int} (hp:∀ x ∈ p,0≤x∧x≤255) (hs:p.length≤1000000000) {N:Nat} (hN:64 * N≤p.length) (b2:List V) (kx:List V→List V→Option β):∀ (f m i:Nat) (h:List Int),h.length=8→i+m=N→m < f→zci zi xh yd L kx f (xt .u8 p) (N:Int) (i:Int) b2 (row .u32 h)=kx b2 (row .u32 (zwU m i p h))
 | 0,m,i,h,_,_,hf=>by omega
 | f+1,0,i,h,hh,h1,h2=>by
  unfold zci zdC
  rw [yO (by omega)]; exact Eq.trans rfl rfl
 | f+1,m+1,i,h,hh,h1,h2=>by
  unfold zci
  rw [zB8 hL hp hs (by omega) (by omega) b2 hh]
  exact zwZ hL hp hs hN b2 kx f m (i+1) _ (zoN _ _) (by omega) (by omega)
def ob (h:List Int) (i:Nat):Int:=IntKind.wrap .u8 (zdJ .u32 (h.getD (i / 4) 0) ((24 - i % 4 * 8:Nat):Int))
def zol (h:List Int):List Int:=(List.range 32).map (ob h)
theorem zsj (h:List Int):(zol h).length=32:=by simp [zol]
theorem zA9 (h:List Int) {i:Nat} (hi:i < 32):(zol h).getD i 0=ob h i:=by
 simp [zol,List.getD_eq_getElem?_getD,hi]
theorem zC2 (h:List Int):∀ x ∈ zol h,0≤x∧x≤255:=by
 intro x hx
 rw [zol,List.mem_map] at hx
 obtain ⟨i,_,rfl⟩:=hx
 exact zg3 _
theorem zBT {l m:List Int} (h:l.length=m.length) (hg:∀ i,i < l.length→l.getD i 0=m.getD i 0):l=m:=by
 apply List.ext_getElem h
 intro i h1 h2
 have:=hg i h1
 rwa [List.getD_eq_getElem?_getD,List.getD_eq_getElem?_getD,List.getElem?_eq_getElem h1,List.getElem?_eq_getElem h2] at this
theorem zCG {h z:List Int} (hz:z.length=32) (hg:∀ j,j < 32→z.getD j 0=ob h j):z=zol h :=
 zBT (by rw [hz,zsj]) fun i hi=>by rw [zA9 h (by omega)]; exact hg i (by omega)
theorem zz3 {β:Type} (L:Nat) {i:Nat} (hi:i < 32) (b2:List V) {h z:List Int} (hh:h.length=8) (hz:z.length=32) (kh:Int→List V→List V→List V→Option β) (kx:List V→List V→Option β):zcs zi xh yd L (i:Int) b2 (row .u32 h) (row .u8 z) kh kx=kh ((i+1:Nat):Int) b2 (row .u32 h) (row .u8 (z.set i (ob h i))):=by
 unfold zcs
 have e1:IntKind.wrap .i64 (Int.tdiv (i:Int) (4:Int))=((i / 4:Nat):Int):=by
  rw [show Int.tdiv (i:Int) (4:Int)=((i / 4:Nat):Int) from (Int.ofNat_tdiv i 4).symm,zbb (by omega) (by omega)]
 have e2:Int.tmod (i:Int) (4:Int)=((i % 4:Nat):Int):=(Int.ofNat_tmod i 4).symm
 have e3:IntKind.wrap .i64 (((i % 4:Nat):Int) * (8:Int))=((i % 4 * 8:Nat):Int):=by rw [zbb (by omega) (by omega)]; omega
 have e4:IntKind.wrap .i64 ((24:Int) - ((i % 4 * 8:Nat):Int))=((24 - i % 4 * 8:Nat):Int):=by rw [zbb (by omega) (by omega)]; omega
 have c1:0≤((i / 4:Nat):Int)∧((i / 4:Nat):Int) < ((8:Nat):Int):=by omega
 have c2:0≤(i:Int)∧(i:Int) < ((32:Nat):Int):=by omega
 have c3:0≤((24 - i % 4 * 8:Nat):Int):=by omega
 have cl:True∧i+1≤32:=⟨trivial,by omega⟩
 rw [xJ (by omega:(i:Int) < 32)]
 simp only [xG,e1,e2,e3,e4,xl c1,xl c2,xl c3,Int.toNat_natCast,Nat.mul_one,Nat.zero_add,zam (show i / 4 < h.length by omega),yA,hz,zl4 (show i < z.length by omega),zcJ (show i≤1000000000 by omega)]
 rw [xl cl]
 exact Eq.trans rfl rfl
theorem zuY {β:Type} (L:Nat) (b2:List V) {h:List Int} (hh:h.length=8) (kx:List V→List V→Option β):∀ (f m i:Nat) (z:List Int),z.length=32→i+m=32→m < f→(∀ j,j < i→z.getD j 0=ob h j)→zbx zi xh yd L kx f (i:Int) b2 (row .u32 h) (row .u8 z)=kx b2 (row .u8 (zol h))
 | 0,m,i,z,_,_,hf,_=>by omega
 | f+1,0,i,z,hz,h1,h2,hg=>by
  unfold zbx zcs
  rw [yO (by omega),zCG hz fun j hj=>hg j (by omega)]
 | f+1,m+1,i,z,hz,h1,h2,hg=>by
  unfold zbx
  rw [zz3 L (by omega) b2 hh hz]
  refine zuY L b2 hh kx f m (i+1) _ (by simpa using hz) (by omega) (by omega) fun j hj=>?_
  by_cases he:i=j
  ·subst he; exact zi9 (by omega) _
  ·rw [getD_set_ne he]; exact hg j (by omega)
def zsp (l:List Int):List Int:=zol (zwU ((l++zfY l.length).length / 64) 0 (l++zfY l.length) init0)
theorem zcn (l:List Int):(zsp l).length=32:=zsj _
theorem zCD (l:List Int):∀ x ∈ zsp l,0≤x∧x≤255:=zC2 _
theorem zDa (l:List Int):64 * ((l++zfY l.length).length / 64)=(l++zfY l.length).length:=by
 have:=zDZ l.length
 rw [List.length_append,zr2]; omega
theorem zD9 {l:List Int} (h:∀ x ∈ l,0≤x∧x≤255):∀ x ∈ l++zfY l.length,0≤x∧x≤255:=by
 intro x hx
 rcases List.mem_append.1 hx with hx | hx
 ·exact h x hx
 ·exact zC6 _ x hx
theorem zDf {β:Type} {w:List Int} (hw:w.length=32) (z:List Int) (hz:z.length=32) (k:List V→Option β) :
  chk (0+32≤(List.length (row .u8 w))) (chk ((List.length (List.take 32 (row .u8 w)))=32∧0+32≤(List.length (row .u8 z))) (
   lt (xk (row .u8 z) 0 (List.take 32 (row .u8 w))) fun r41=>chk (0=0∧(List.length r41)=32∧32≠0) (k r41)))=k (row .u8 w):=by
 have e:List.take 32 (row .u8 w)=row .u8 w:=List.take_of_length_le (by rw [yA]; omega)
 rw [xG,e,zei (by rw [yA,yA]; omega)]
 rw [xl (by rw [yA]; omega),xl ⟨by rw [yA]; omega,by rw [yA]; omega⟩,xl ⟨rfl,by rw [yA]; omega,by decide⟩]
theorem zzM {β:Type} {L:Nat} {l:List Int} (hL:l.length+200≤L) (hl:l.length≤100000000) (hb:∀ x ∈ l,0≤x∧x≤255) (k:List V→Option β):yW β L (xt .u8 l) k=k (row .u8 (zsp l)):=by
 unfold yW zme zqm
 have z64:=zCj l.length
 have hm:=zDa l
 have hlen:(l++zfY l.length).length=l.length+(9+zs l.length):=by rw [List.length_append,zr2]
 have e0:IntKind.wrap .u64 (((xt .u8 l).length:Nat):Int)=(l.length:Int):=by rw [yC,zc6 (by omega) (by omega)]
 rw [xG,e0]
 refine (zDO (by omega) hl _ _).trans ?_
 refine (zAK (by omega) (by omega) (by rw [zr2]; omega) _).trans ?_
 have e1:xk [V.sc (.int .u32 (0:Int)),V.sc (.int .u32 (0:Int)),V.sc (.int .u32 (0:Int)),V.sc (.int .u32 (0:Int)),V.sc (.int .u32 (0:Int)),V.sc (.int .u32 (0:Int)),V.sc (.int .u32 (0:Int)),V.sc (.int .u32 (0:Int))] 0 (List.take 8 gk_sha_initial)=row .u32 init0:=(zei rfl).trans rfl
 have e2:IntKind.wrap .i64 (Int.tdiv (((xt .u8 (l++zfY l.length)).length:Nat):Int) (64:Int))=(((l++zfY l.length).length / 64:Nat):Int):=by
  rw [yC,show Int.tdiv (((l++zfY l.length).length:Nat):Int) (64:Int)=(((l++zfY l.length).length / 64:Nat):Int) from (Int.ofNat_tdiv _ 64).symm,zbb (by omega) (by omega)]
 rw [xl ⟨rfl,by decide⟩,xG,e1,xG,e2]
 refine (zwZ (by omega) (zD9 hb) (by omega) (by omega) _ _ L ((l++zfY l.length).length / 64) 0 _ zu3 (by omega) (by omega)).trans ?_
 unfold zdq zgn
 rw [zq3]
 refine (zuY L _ (zwA _ _ _ _ zu3) _ L 32 0 _ List.length_replicate rfl (by omega) (fun j hj=>by omega)).trans ?_
 unfold zeR
 exact zDf (zsj _) _ List.length_replicate k
def zCb (l:List Int):List Int:=zsp (zsp l)
theorem zwz (l:List Int):(zCb l).length=32:=zcn _
theorem zzv {w:List Int} (hw:w.length=32):xk (List.replicate 32 (V.sc (.int .u8 (0:Int)))) 0 (row .u8 w)=row .u8 w:=zei (by rw [yA,hw,List.length_replicate])
theorem zCF {w:List Int} (hw:w.length=32):List.isEmpty (row .u8 w)=false:=by
 rw [List.isEmpty_eq_false_iff]; intro h
 have:=congrArg List.length h
 rw [yA,hw] at this; cases this
theorem zAd {β:Type} {L:Nat} {l:List Int} (hL:l.length+300≤L) (hl:l.length≤100000000) (hb:∀ x ∈ l,0≤x∧x≤255) (k:List V→Option β):xM β L (xt .u8 l) k=k (row .u8 (zCb l)):=by
 unfold xM zk9
 have ec:yf 1 32 (row .u8 (zsp l))=xt .u8 (zsp l):=by
  rw [zoI _ _ _ (by rw [zcn]; omega),List.take_of_length_le (by rw [zcn]; omega)]
 refine (zzM (by omega) hl hb _).trans ?_
 rw [xl ⟨by rw [yA,zcn],by decide⟩,xG,zzv (zcn l),xl (by rw [yA,zcn]; omega),zCF (zcn l),zjs,ec]
 refine (zzM (by rw [zcn]; omega) (by rw [zcn]; omega) (zCD l) _).trans ?_
 rw [xl ⟨by rw [yA,zcn],by decide⟩,xG,zzv (zcn _),xl ⟨rfl,by rw [yA,zcn],by decide⟩]
 exact Eq.trans rfl rfl
end
section
set_option linter.unusedVariables false
set_option linter.unusedSimpArgs false
set_option maxRecDepth 100000
variable {β:Type}
theorem zeb {a b:List Int} (ha:zbe a) (hb:zbe b):zbe (a++b):=by
 intro x hx
 rcases List.mem_append.1 hx with h | h
 ·exact ha x h
 ·exact hb x h
theorem zs5 {α:Type} {l:List α} {f:α→List Int} (h:∀ x ∈ l,zbe (f x)):zbe (l.flatMap f):=by
 intro x hx
 obtain ⟨y,hy,hx⟩:=List.mem_flatMap.1 hx
 exact h y hy x hx
theorem zlt {a:Int} {l:List Int} (ha:0≤a∧a≤255) (hl:zbe l):zbe (a::l):=by
 intro x hx
 rcases List.mem_cons.1 hx with rfl | h
 ·exact ha
 ·exact hl x h
theorem zul:zbe []:=fun x hx=>by cases hx
theorem zfI (n:Int) (w:Nat):zbe (zgy n w):=by
 intro x hx
 rw [zgy,List.mem_map] at hx
 obtain ⟨i,_,rfl⟩:=hx
 exact zg3 _
theorem ztw (n:Int):zbe (szB n):=by
 unfold szB
 split
 ·exact zlt (zg3 _) zul
 ·split
  ·exact zlt ⟨by decide,by decide⟩ (zfI _ _)
  ·split
   ·exact zlt ⟨by decide,by decide⟩ (zfI _ _)
   ·exact zlt ⟨by decide,by decide⟩ (zfI _ _)
theorem zAP {s:List Int} (h:zbe s):zbe (bsB s):=zeb (ztw _) h
theorem zCf {x:Inp} (h:InpOk x):zbe (zqS x):=by
 unfold zqS
 have b:=h.by_
 repeat' (first | exact zul | refine zlt (b _ (by decide)) ?_)
theorem zDw {t:TxT} (h:TxOk t) (w:Bool):zbe (zeZ t w):=by
 unfold zeZ
 refine zeb (zeb (zeb (zeb (zeb (zeb (zfI _ _) (ztw _)) (zs5 fun x hx=>?_)) (ztw _)) (zs5 fun x hx=>?_)) (zfI _ _)) ?_
 ·exact zeb (zeb (zCf (h.ins x hx)) (zfI _ _)) (zfI _ _)
 ·exact zeb (zfI _ _) (zAP (h.outs x hx).scr)
 ·cases w
  ·exact zul
  ·exact zs5 fun x hx=>zeb (ztw _) (zs5 fun y hy=>zAP ((h.ins x hx).wit y hy).1)
theorem zB1 {t:TxT} (h:KeptP t) (w:Bool):(zeZ t w).length≤3000000:=by
 obtain ⟨q1,q2,q3⟩:=h.lens
 have s1:=zhB (t.ins.length:Int)
 have s2:=zhB (t.outs.length:Int)
 cases w <;> simp only [zeZ,List.length_append,zc5,if_true,Bool.false_eq_true,if_false,List.length_nil] <;> omega
theorem zoj {L:Nat} (hL:2000≤L) {t:TxT} (h:KeptP t) (w:Bool) (k:List (List V)→Int→Option β):xo β L (zc2 t) w k=if zbD t=true then k (xt .u8 (zeZ t w)) 0 else k (xt .u8 []) 4:=by
 simp only [xo,zmV,zi1,zlh]
 rw [zBn hL h,zuz hL h]
 cases zbD t <;> rfl
def zl3 (t:TxT) (w:Bool):List Int:=if zbD t=true then zCb (zeZ t w) else List.replicate 32 0
theorem zpL (t:TxT) (w:Bool):(zl3 t w).length=32:=by
 unfold zl3; split
 ·exact zwz _
 ·exact List.length_replicate
theorem zBs (k:List V→Option β):(lt (List.replicate 32 (V.sc (.int .u8 (0:Int)))) fun r2=>chk (0=0∧(List.length r2)=32∧32≠0) (k r2))=k (row .u8 (List.replicate 32 0)):=by
 rw [xG,zq3,xl ⟨rfl,by rw [yA,List.length_replicate],by decide⟩]
theorem zvT {w:List Int} (hw:w.length=32) (k:List V→Option β):chk ((List.length (row .u8 w))=32∧0+32≤32) (lt (xk (List.replicate 32 (V.sc (.int .u8 (0:Int)))) 0 (row .u8 w)) fun r4=>chk (0=0∧(List.length r4)=32∧32≠0) (k r4))=k (row .u8 w):=by
 rw [xG,zzv hw,xl ⟨by rw [yA,hw],by decide⟩,xl ⟨rfl,by rw [yA,hw],by decide⟩]
theorem zBc {L:Nat} (hL:4000000≤L) {t:TxT} (ht:TxOk t) (h:KeptP t) (w:Bool) (k:List V→Option β):zH β L (zc2 t) w k=k (row .u8 (zl3 t w)):=by
 have hl:=zB1 h w
 unfold zH zmJ
 rw [zi1,zlh,zoj (by omega) h]
 unfold zl3
 split
 ·rw [zht,if_pos rfl,zAd (by omega) (by omega) (zDw ht w),zvT (zwz _)]
 ·rw [zht,if_neg (by decide),zBs]
theorem zEd {L:Nat} (hL:4000000≤L) {t:TxT} (ht:TxOk t) (h:KeptP t) (k:List V→Option β):zV β L (zc2 t) k=k (row .u8 (zl3 t false)):=by
 unfold zV zuo
 rw [zi1,zlh,zBc hL ht h,zvT (zpL _ _)]
def zEY (t:TxT):Int:=if zbD t=true then IntKind.wrap .i64 (IntKind.wrap .i64 ((3:Int) * ((zeZ t false).length:Int))+((zeZ t true).length:Int)) else 0
end
section
set_option linter.unusedVariables false
set_option linter.unusedSimpArgs false
set_option maxRecDepth 100000
variable {β:Type}
theorem zyE (x:Inp):(zas x).mapM V.plain=some (zas x):=rfl
theorem zz7 {f:V→Option V} {l m l' m':List V} (h1:l.mapM f=some l') (h2:m.mapM f=some m'):(l++m).mapM f=some (l'++m'):=by
 rw [List.mapM_append,h1,h2]
 rfl
theorem zrU:∀ (xs:List Inp),((xs.map zas).flatten).mapM V.plain=some (xs.map zas).flatten
 | []=>rfl
 | x::xs=>by
  rw [List.map_cons,List.flatten_cons]
  exact zz7 (zyE x) (zrU xs)
theorem zw0 (xs:List Inp):yf 35 xs.length (xs.map zas).flatten=xs.map zas:=by
 have:=zrI (sz:=35) (es:=xs.map zas) (fun e he=>by obtain ⟨y,_,rfl⟩:=List.mem_map.1 he; exact zhd y)
 rwa [List.length_map] at this
theorem zBC (x:Inp) (ws:List (List Int)):(zas x).set 34 (V.sl 1 (zeu ws))=zas { x with wit:=ws }:=rfl
theorem zAF (x:Inp) (xs:List Inp) (ws:List (List Int)):List.set (((x::xs).map zas).flatten) 34 (V.sl 1 (zeu ws))=((({ x with wit:=ws }:Inp)::xs).map zas).flatten:=by
 rw [List.map_cons,List.flatten_cons,List.map_cons,List.flatten_cons,List.set_append_left _ _ (by rw [zhd]; omega),zBC]
theorem zC1 (t:TxT):List.take 4 (zc2 t)=zc2 t:=List.take_of_length_le (by rw [zi0]; exact Nat.le_refl _)
theorem zDj (x:Inp) (ws:List (List Int)):inB { x with wit:=ws }=inB x:=rfl
theorem zCd {t:TxT} {x:Inp} {xs:List Inp} (h:t.ins=x::xs) (ws:List (List Int)):zeZ ⟨t.ver,({ x with wit:=ws }:Inp)::xs,t.outs,t.lock⟩ false=zeZ t false:=by
 unfold zeZ
 rw [h]
 simp only [List.flatMap_cons,List.length_cons,zDj,Bool.false_eq_true,if_false]
theorem zpa (a0:List V) (a1:List (List V)) (wf0:HasRow ([.int .u32]++[.sl (List.replicate 32 (.int .u8)++List.replicate 2 (.int .u32)++[.sl ([.sl ([.int .u8])])])]++[.sl ([.int .i64]++[.sl ([.int .u8])])]++[.int .u32]) a0) (hl1:a1.length≤maxLen) (wf1:∀ e ∈ a1,HasRow [.sl ([.int .u8])] e):∃ L,∀ k:Bool→Option Bool,zU Bool L a0 a1 k=k true:=by
 obtain ⟨t,rfl,ht⟩:=zEr wf0
 obtain ⟨ws,rfl,hws⟩:=zsA wf1
 obtain ⟨L,hL⟩:∃ L:Nat,4000000≤L:=⟨4000000,Nat.le_refl _⟩
 refine ⟨L,fun k=>?_⟩
 have l4:=zi0 t
 have hs:(100000000:Nat)≤xg:=by decide
 unfold zU zd6
 rw [zCK (by omega)]
 simp only [Bool.not_true,zjs]
 rw [zi1,zlh,zDY (by omega)]
 cases hk:zsf t with
 | false=>rfl
 | true =>
  simp only [Bool.not_true,zjs]
  rw [zuQ (by omega) (by decide)]
  have hkp:=zDN hk
  cases hi:(decide ((ws.length:Int)≤10) && ws.all fun x=>decide ((x.length:Int)≤200)) with
  | false=>rfl
  | true =>
   simp only [Bool.and_eq_true,decide_eq_true_eq,List.all_eq_true] at hi
   obtain ⟨hw1,hw2⟩:=hi
   simp only [Bool.not_true,zjs]
   rw [zf7,List.length_map]
   cases hins:t.ins with
   | nil=>rfl
   | cons x xs =>
    have hni:=hkp.ni
    rw [hins,List.length_cons] at hni
    have hx:x ∈ t.ins:=by rw [hins]; simp
    rw [zxp (by simp only [List.length_cons]; omega),zC1,xl l4,zqU,zC4,zDb,zkS,xl (by omega),zf7,hins,List.length_map,List.length_cons,xl (by omega),xG]
    have hfl:=zA8 (sz:=35) (es:=(x::xs).map zas) (fun e he=>by obtain ⟨y,_,rfl⟩:=List.mem_map.1 he; exact zhd y)
    rw [List.length_map,List.length_cons] at hfl
    rw [xl (by omega),xl (by refine ⟨by trivial,?_⟩; rw [hfl]; omega),zAF]
    let u:TxT:=⟨t.ver,({ x with wit:=ws }:Inp)::xs,t.outs,t.lock⟩
    have hux:InpOk { x with wit:=ws }:=⟨(ht.ins x hx).pv,(ht.ins x hx).by_,(ht.ins x hx).ix,(ht.ins x hx).seq,hws,by have hm:(100000:Nat)≤maxLen:=(by decide); show ws.length≤maxLen; omega⟩
    have hu:TxOk u:=⟨ht.ver,ht.lock,fun y hy=>by
     rcases List.mem_cons.1 hy with rfl | hy
     ·exact hux
     ·exact ht.ins y (by rw [hins]; simp [hy]),ht.outs,by have:=ht.il; rw [hins] at this; exact this,ht.ol⟩
    have hku:KeptP u:=⟨by show (_::xs).length≤70; rw [List.length_cons]; exact hni,hkp.no,fun y hy=>by
     rcases List.mem_cons.1 hy with rfl | hy
     ·simp only; omega
     ·exact hkp.wl y (by rw [hins]; simp [hy]),fun y hy=>by
     rcases List.mem_cons.1 hy with rfl | hy
     ·intro z hz; have:=hw2 z hz; omega
     ·exact hkp.wi y (by rw [hins]; simp [hy]),hkp.sl⟩
    have hen:zeZ u false=zeZ t false:=zCd hins ws
    rw [zoj (by omega) hkp]
    have hp:=zrU (({ x with wit:=ws }:Inp)::xs)
    have hch:=zw0 (({ x with wit:=ws }:Inp)::xs)
    cases hF:((({ x with wit:=ws }:Inp)::xs).map zas).flatten with
    | nil=>rw [List.map_cons,List.flatten_cons,List.append_eq_nil_iff] at hF; have:=zhd { x with wit:=ws }; rw [hF.1] at this; cases this
    | cons c cs =>
     rw [hF] at hp hch
     have hlit:[V.sc (.int .u32 t.ver),V.sl 35 (yf 35 (xs.length+1) (c::cs)),V.sl 2 (t.outs.map zdh),V.sc (.int .u32 t.lock)]=zc2 u:=by
      rw [List.length_cons] at hch
      rw [hch]; exact zBD u
     have hpc:∀ K:List V→Option Bool,zcR (c::cs) K=K (c::cs):=fun K=>by unfold zcR; rw [hp]
     have hfin:zl3 t false=zl3 u false∨¬ (zbD t=true∧zbD u=true):=by
      by_cases h:zbD t=true∧zbD u=true
      ·left; unfold zl3; rw [if_pos h.1,if_pos h.2,hen]
      ·exact .inr h
     by_cases hft:zbD t=true
     ·rw [if_pos hft]
      show zcR (c::cs) _=_
      rw [hpc,hlit,zoj (by omega) hku]
      by_cases hfu:zbD u=true
      ·rw [if_pos hfu,zht,if_pos rfl,zht,if_pos rfl,zi1,zEd hL ht hkp,zEd hL hu hku,hfin.resolve_right (fun h=>h ⟨hft,hfu⟩),zCR _ (zpL _ _) (zpL _ _),decide_eq_true rfl]
      ·rw [if_neg hfu,zht,if_pos rfl,zht,if_neg (by decide)]
     ·rw [if_neg hft]
      show zcR (c::cs) _=_
      rw [hpc,hlit,zoj (by omega) hku]
      by_cases hfu:zbD u=true
      ·rw [if_pos hfu,zht,if_neg (by decide)]
      ·rw [if_neg hfu,zht,if_neg (by decide)]
end
section
open Go.ChangeShapes Go.WideShapes Go.ChangeAt Go.RowKit
set_option linter.unusedVariables false
theorem zu4 {H:Type} {enc:TypeId × Value→H} {P:Program} {w:World} {base:Nat} {spare:Nat→Bool} {held:Bool} {fuel n:Nat} {t e:TypeId} {k:IntKind} {cs:List Value} {d:DataW H} {p:List MemPlace} (ht:P.underlying t=some (.array n e)) (he:P.underlying e=some (.int k)) (hc:P.cellsOf e=1)
  (ns:List Int) (hd:d=.agg (ns.map fun x=>.lit (.int k x))) (h:DataW.trod enc P w base spare held fuel t cs=some (d,p)) {i:Nat} (hi:i < n):cs[i]?=some (.int k (ns.getD i 0)):=by
 obtain ⟨xs,m,_,hx,_,hlen,hel⟩:=DataW.trod_array ht h
 have h1:=hel i hi
 rw [hc,Nat.mul_one] at h1
 have hxi:xs[i]?=some (xs[i]'(by omega)):=List.getElem?_eq_getElem _
 rw [hxi] at h1
 obtain ⟨v,e1,e2,_⟩:=DataW.trod_int he h1
 simp only [Prod.mk.injEq] at hx
 have h2:d=.agg (xs.map (·.1)):=hx.1
 rw [hd] at h2
 have h3:ns.map (fun x=>DataW.lit (H:=H) (.int k x))=xs.map (·.1):=by injection h2
 have h4:=congrArg (fun l=>l[i]?) h3
 simp only [List.getElem?_map,hxi,Option.map_some,e2] at h4
 have h5:ns[i]?=some v:=by
  cases hq:ns[i]? with
  | none=>rw [hq] at h4; cases h4
  | some q =>
   rw [hq] at h4
   simp only [Option.map_some,Option.some.injEq] at h4
   injection h4 with h6
   injection h6 with _ h7
   rw [h7]
 rw [List.getD_eq_getElem?_getD,h5]
 have h8:=congrArg (fun l=>l[0]?) e1
 simp only [List.getElem?_take,List.getElem?_drop] at h8
 simpa using h8
theorem zwR {k:IntKind} {ns:List Int} {i:Nat} {v:V} (h:(row k ns)[i]?=some v):i < ns.length∧v=.sc (.int k (ns.getD i 0)):=by
 unfold row at h
 rw [List.getElem?_map] at h
 cases hq:ns[i]? with
 | none=>rw [hq] at h; cases h
 | some q =>
  rw [hq] at h
  obtain ⟨hi,_⟩:=List.getElem?_eq_some_iff.1 hq
  refine ⟨hi,?_⟩
  rw [List.getD_eq_getElem?_getD,hq]
  simpa using h.symm
def zty {H:Type}:List (String × DataW H):=[("lightclient/sha.k",Rows.laid_lightclient_sha_k),("lightclient/sha.initial",Rows.laid_lightclient_sha_initial)]
theorem gK:Tryd.prog.globalNamed "lightclient/sha.k"=some 1:=by kernel_rfl
theorem gI:Tryd.prog.globalNamed "lightclient/sha.initial"=some 0:=by kernel_rfl
theorem tK:(Tryd.prog.globals[1]?).map (·.type)=some 71:=by kernel_rfl
theorem tI:(Tryd.prog.globals[0]?).map (·.type)=some 65:=by kernel_rfl
theorem zDn {W:World} (h:laidMetH Tryd.prog zty W):GV (zB fg gls) W zeT:=by
 rw [MakeChecks.laidMetH_plain _ _ _ (by kernel_rfl)] at h
 obtain ⟨ps,⟨g0,t0,cs0,f0,p0,q0,hg0,ht0,hv0,hd0,⟨g1,t1,cs1,f1,p1,q1,hg1,ht1,hv1,hd1,_,_⟩,_⟩,_,_⟩:=h
 obtain rfl:=Option.some.inj (gK.symm.trans hg0)
 obtain rfl:=Option.some.inj (gI.symm.trans hg1)
 obtain rfl:=Option.some.inj (tK.symm.trans ht0)
 obtain rfl:=Option.some.inj (tI.symm.trans ht1)
 have eu:Tryd.prog.underlying 22=some (.int .u32):=by kernel_rfl
 have ec:Tryd.prog.cellsOf 22=1:=by kernel_rfl
 have ek:Tryd.prog.underlying 71=some (.array 64 22):=by kernel_rfl
 have ei:Tryd.prog.underlying 65=some (.array 8 22):=by kernel_rfl
 have dk:(Rows.laid_lightclient_sha_k:DataW Unit)=.agg (kc.map fun x=>.lit (.int .u32 x)):=rfl
 have di:(Rows.laid_lightclient_sha_initial:DataW Unit)=.agg (init0.map fun x=>.lit (.int .u32 x)):=rfl
 intro g cs hg i v hv
 have hg':(gls.find? (fun e=>e.1 == g)).map (·.2)=some cs:=hg
 by_cases hk:g=1
 ·subst hk
  obtain rfl:gk_sha_k=cs:=Option.some.inj ((show (gls.find? (fun e=>e.1 == 1)).map (·.2)=some gk_sha_k from rfl).symm.trans hg')
  obtain ⟨hi,rfl⟩:=zwR (k:=.u32) (ns:=kc) hv
  refine ⟨_,rfl,rfl,fun hw=>hw,?_⟩
  rw [World.var?_cell gK hv0 i,Array.getElem?_toList.symm]
  exact zu4 ek eu ec kc dk hd0 hi
 ·by_cases hk2:g=0
  ·subst hk2
   obtain rfl:gk_sha_initial=cs:=Option.some.inj ((show (gls.find? (fun e=>e.1 == 0)).map (·.2)=some gk_sha_initial from rfl).symm.trans hg')
   obtain ⟨hi,rfl⟩:=zwR (k:=.u32) (ns:=init0) hv
   refine ⟨_,rfl,rfl,fun hw=>hw,?_⟩
   rw [World.var?_cell gI hv1 i,Array.getElem?_toList.symm]
   exact zu4 ei eu ec init0 di hd1 hi
  ·exfalso
   have e:gls=[(0,gk_sha_initial),(1,gk_sha_k)]:=rfl
   rw [e] at hg'
   simp only [List.find?_cons,List.find?_nil,beq_eq_false_iff_ne.2 (Ne.symm hk),beq_eq_false_iff_ne.2 (Ne.symm hk2)] at hg'
   cases hg'
theorem zBG (os:Os) (args:Array Value):laidMetH Tryd.prog zty ((World.doorLaid Tryd.prog 400 os).forCall (fun _ _=>0) ⟨#[],args,[]⟩).memory :=
 laidMetH_of_parts3 (fuel:=8) (laidMet_of_run' 8 (by kernel_rfl) (by kernel_rfl)) (by kernel_rfl) (by kernel_rfl)
end
section
namespace txWitnessFreeL
open Go.ChangeShapes Go.WideShapes Go.ChangeAt Go.RowKit
set_option linter.unusedVariables false
theorem own:ownKnob Tryd.prog.godebug=none:=by kernel_rfl
theorem zyc:laidOutB Tryd.prog=true:=by kernel_rfl
set_option maxRecDepth 100000 in
theorem zDI (os:Os) (started:os.Started) (H:Type) (enc:TypeId × Value→H) :
  ReturnsInHanded {} Tryd.checked os 3 .any (fun w args=>(Rows.txWitnessFreeSpec.pre enc Tryd.prog Tryd.f3 [] false w args∧laidMetH Tryd.prog zty w)∧sizedMet enc Tryd.prog Tryd.f3 (OpenSpec.ofChange Rows.txWitnessFreeSpec) false w args)
   (Rows.txWitnessFreeSpec.post enc Tryd.prog Tryd.f3 false true false false):=by
 refine returnsInHanded_of_change_and (C:=Tryd.checked) (X:=fun w _=>laidMetH Tryd.prog zty w) (fun _ _ _ hh h=>h.of_heap hh) own started (by kernel_rfl) Tryd.func3
  (ChangeSpec.witness_shaped (enc:=enc) (C:=Tryd.checked) (os:=os) (X:=fun w _=>laidMetH Tryd.prog zty w) false (World.doorLaid Tryd.prog 400 os) #[.agg (#[(Value.int .u32 0)]++#[(Value.slice none 0 0)]++#[(Value.slice none 0 0)]++#[(Value.int .u32 0)]),.slice none 0 0] 8 rfl (World.shaped_of_RefB (by kernel_rfl) (by kernel_rfl)) (by kernel_rfl) (by kernel_rfl) (by kernel_rfl) (zBG os _)) ?_
 intro W base args ds gs before hval0 hW hcnd _ hlaid _
 have hval:∀ (j:Nat) t v,Tryd.f3.params[j]?=some t→args[j]?=some v→Value.okWide Tryd.prog W .any base t v:=hval0
 have hW':=hW
 obtain ⟨p,q,hA0,hV,rfl,hfz,hnd⟩:=hW
 have hA:DataW.TrodAll enc Tryd.prog W 0 (fun _=>true) true Tryd.f3.params.toList args.toList ds p:=hA0
 rw [Tryd.params3] at hA hval
 obtain ⟨v0,vs0,d0,ds0,p0,q0,hargs,rfl,rfl,h0,r0⟩:=trodAll_cons hA
 obtain ⟨v1,vs1,d1,ds1,p1,q1,rfl,rfl,rfl,h1,r1⟩:=trodAll_cons r0
 obtain ⟨rfl,rfl,rfl⟩:=trodAll_nil r1
 obtain rfl:args=#[v0,v1]:=by cases args; simp_all
 obtain ⟨rfl,rfl⟩:=trodVars_none hV
 have k0:=h0
 have lt0:∀ x ∈ p0,x.block < W.heap.size:=by obtain ⟨m,hm⟩:=k0; exact DataW.trod_lt m _ _ _ hm
 have k1:=h1
 have lt1:∀ x ∈ p1,x.block < W.heap.size:=by obtain ⟨m,hm⟩:=k1; exact DataW.trod_lt m _ _ _ hm
 obtain ⟨a0,wf0,rp0⟩:=zDr (ren:=zB fg gls) (d:=20) (cts:=[.int .u32]++[.sl (List.replicate 32 (.int .u8)++List.replicate 2 (.int .u32)++[.sl ([.sl ([.int .u8])])])]++[.sl ([.int .i64]++[.sl ([.int .u8])])]++[.int .u32]) (by kernel_rfl) (hval 0 26 v0 rfl rfl) h0 (by kernel_rfl)
 obtain ⟨A1,len1,cap1,rfl⟩:=okWide_slice Tryd.underlying27 (hval 1 27 v1 rfl rfl)
 obtain ⟨x1,hx1,rp1⟩:=zC3 (r:=.any) (b0:=base) (ren:=zB fg gls) (d:=20) (ct:=.sl ([.sl ([.int .u8])])) rfl h1 (by kernel_rfl)
 obtain ⟨a1,rfl,hl1,wf1⟩:=hx1.sl_inv
 clear hA0 hval0
 obtain ⟨L,hL⟩:=zpa a0 a1 wf0 hl1 wf1
 have hd:zcj zU L Bool [(V.agg a0),(V.sl 1 a1)] [] zqY=some true:=by
  show (aG (V.agg a0) fun x0=>aL 1 (V.sl 1 a1) fun x1=>zU Bool L x0 x1 (fun p=>zqY (V.sc (.bool p)) []))=some true
  rw [zEu,zEj]
  exact (hL (fun p=>zqY (V.sc (.bool p)) [])).trans rfl
 obtain ⟨v,b,hev,hk⟩:=zlF L 100 (by decide) Bool [(V.agg a0),(V.sl 1 a1)] [] zqY true hd
 have hv:=zAn hk
 subst hv
 refine (zyP (us:=[v0,.slice A1 len1 cap1]) (w:=W) (zDn hlaid) (zEz L 100) (f:=3) (by kernel_rfl) rfl (fun i x u hx hu=>?_) hev).mono fun e W' ⟨he,bel0⟩=>?_
 ·match i,hx,hu with
  | 0,hx,hu=>cases hx; cases hu; exact rp0
  | 1,hx,hu=>cases hx; cases hu; exact rp1
  | n+2,hx,hu=>simp at hx
 ·have bel:=Kept.below bel0
  subst he
  exact ⟨_,rfl,_,_,_,[],_,[],hW',trodAll_mk1 (shut_bool Tryd.underlying4 _),(trodAll_cons_mk (Below.trod zyc (by kernel_rfl) (of_decide_eq_true (by kernel_rfl)) k0 bel lt0) (trodAll_cons_mk (Below.trod zyc (by kernel_rfl) (of_decide_eq_true (by kernel_rfl)) k1 bel lt1) trodAll_mk0)),rfl,bel.frame _,fun h=>by cases h⟩
theorem over:Rows.txWitnessFreeRow.holds Tryd.pinned (OpenSpec.ofChange Rows.txWitnessFreeSpec) :=
 OpenClaim.holds_of_wide 3 Tryd.f3 rfl rfl rfl rfl rfl rfl rfl ⟨rfl,rfl,rfl,rfl,rfl⟩ rfl rfl rfl rfl rfl (by kernel_rfl) Tryd.func3 (by kernel_rfl)
  (of_decide_eq_true (by kernel_rfl)) (by unfold Func.isWrapper; first | (rw [if_pos (by decide +kernel)]; kernel_rfl) | (rw [if_neg (by decide +kernel)]; exact ⟨rfl,rfl⟩))
  (fun os started H enc _=>zDI os started H enc)
theorem card:Claim7.holds Tryd.pinned (.plain (OpenSpec.ofChange Rows.txWitnessFreeSpec)) Rows.txWitnessFreeCard :=
 Claim7.holds_tied_plain_at .later [] [.data,.data] true (true,"0f3ddc9a8225705fb4d172c9f6a28d9d1ed65a88f8837991914385fd35c7ee8c") false
  over (fun _ h=>by cases h) (by kernel_rfl) (fun _ h=>by cases h) txWitnessFree_row_tie rfl ⟨rfl,rfl⟩ (by kernel_rfl) rfl
  (fun f fn hf hfn=>by
   obtain rfl:f=3:=Option.some.inj ((show Tryd.prog.funcNamed "lightclient/lightclientlaw09.TxWitnessFree"=some 3 by kernel_rfl).symm.trans hf) |>.symm
   obtain rfl:fn=Tryd.f3:=(Option.some.inj (Tryd.func3.symm.trans hfn)).symm
   exact ⟨by kernel_rfl,fun j t ht=>by
    rw [Tryd.params3] at ht
    have hm:t ∈ [26,27]:=by simpa using Array.mem_of_getElem? ht
    have hall:([26,27].all fun u=>!Tryd.prog.wantsStandIn u)=true:=by kernel_rfl
    exact (show Tryd.prog.wantsStandIn t=false by simpa using List.all_eq_true.1 hall t hm)⟩)
  (by kernel_rfl)
end txWitnessFreeL
theorem txWitnessFree_holds:Rows.TxWitnessFreeCardSaid:=txWitnessFreeL.card
end
end Go.Proofs.YtoeobffjdbdpgaaDoor
