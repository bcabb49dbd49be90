/- Part 11 of the proof of JournalAppends: an abstract machine over plain values, its soundness, and the functions of the program on plain values. -/
import Derived.Laws.Strings
import Derived.Test.YteopmmegeagklaaDoorMJournalAppends10
namespace Go.Proofs.YteopmmegeagklaaDoor
section
set_option linter.unusedVariables false
set_option linter.unusedSimpArgs false
theorem zpx (n:Int):0≤IntKind.wrap .u64 n:=by
 unfold IntKind.wrap
 simp only [IntKind.signed,Bool.false_and,Bool.false_eq_true,if_false]
 exact Int.emod_nonneg _ (by decide)
def znr (p n:Int):Int :=
 ior .u32 (zbO .u32 p (zfT .u64 (IntKind.wrap .u64 (IntKind.wrap .i64 (0 - n))) 31)) (zb9 .u32 p (IntKind.wrap .u64 (32 - (zfT .u64 (IntKind.wrap .u64 (IntKind.wrap .i64 (0 - n))) 31))))
theorem zAy {β:Type} (L:Nat) (p n:Int) (k:Int→Option β):xm β L p n k=k (ior .u32 (zbO .u32 p (zfT .u64 (IntKind.wrap .u64 n) 31)) (zb9 .u32 p (IntKind.wrap .u64 (32 - (zfT .u64 (IntKind.wrap .u64 n) 31))))):=by
 unfold xm zeW
 simp only [zk]
 rw [zf (show 0≤zfT .u64 (IntKind.wrap .u64 n) 31 from zpx _),zf (zpx _)]
theorem zAS {β:Type} (L:Nat) (p n:Int) (k:Int→Option β):yd β L p n k=k (znr p n):=by
 unfold yd zq6
 simp only [zk]
 rw [zAy]; exact Eq.trans rfl rfl
theorem zDs {β:Type} (L:Nat) (p n:Int) (k:Int→Option β):xd β L p n k=k (znr p n):=by
 unfold xd zoA
 simp only [zk]
 rw [zAy]; exact Eq.trans rfl rfl
theorem xK {β:Type} {k:IntKind} {l:List Int} {j:Nat} (h:j < l.length) (κ:Int→Option β):cI k (row k l) j κ=κ (l.getD j 0) :=
 zqC (by simp [row,h]) κ
theorem zfB {k:IntKind} {w:List Int} {j:Nat} (h:j < w.length) (x:Int):xn (row k w) j [V.sc (.int k x)]=row k (w.set j x):=by
 rw [zBT (by rw [xu]; exact h)]
 simp [row]
theorem zBO {t c:Nat} (h:c≤t) (h2:t≤1000000):IntKind.wrap .i64 ((t:Int) - (c:Int))=((t - c:Nat):Int):=by
 rw [yy (by omega) (by omega)]; omega
def s2 (w:List Int) (t:Nat):Int :=
 IntKind.wrap .u32 (IntKind.wrap .u32 (IntKind.wrap .u32 (w.getD (t - 16) 0+zbW .u32 (zbW .u32 (znr (w.getD (t - 15) 0) 7) (znr (w.getD (t - 15) 0) 18)) (zb9 .u32 (w.getD (t - 15) 0) 3))+w.getD (t - 7) 0)+zbW .u32 (zbW .u32 (znr (w.getD (t - 2) 0) 17) (znr (w.getD (t - 2) 0) 19)) (zb9 .u32 (w.getD (t - 2) 0) 10))
def zxt:Nat→Nat→List Int→List Int
 | 0,_,w=>w
 | m+1,t,w=>zxt m (t+1) (w.set t (s2 w t))
theorem zzb:∀ (m t:Nat) (w:List Int),(zxt m t w).length=w.length
 | 0,_,_=>rfl
 | m+1,t,w=>by rw [zxt,zzb m]; simp
theorem zxP {β:Type} (L:Nat) {t:Nat} (h1:16≤t) (h2:t < 64) (b2:List V) {w:List Int} (hw:w.length=64) (kh:Int→List V→List V→Option β) (kx:List V→List V→Option β):zbT yd L (t:Int) b2 (row .u32 w) kh kx=kh ((t+1:Nat):Int) b2 (row .u32 (w.set t (s2 w t))):=by
 unfold zbT
 have e15:IntKind.wrap .i64 ((t:Int) - (15:Int))=((t - 15:Nat):Int):=zBO (c:=15) (by omega) (by omega)
 have e2:IntKind.wrap .i64 ((t:Int) - (2:Int))=((t - 2:Nat):Int):=zBO (c:=2) (by omega) (by omega)
 have e16:IntKind.wrap .i64 ((t:Int) - (16:Int))=((t - 16:Nat):Int):=zBO (c:=16) (by omega) (by omega)
 have e7:IntKind.wrap .i64 ((t:Int) - (7:Int))=((t - 7:Nat):Int):=zBO (c:=7) (by omega) (by omega)
 have c15:0≤((t - 15:Nat):Int)∧((t - 15:Nat):Int) < ((64:Nat):Int):=by omega
 have c2:0≤((t - 2:Nat):Int)∧((t - 2:Nat):Int) < ((64:Nat):Int):=by omega
 have c16:0≤((t - 16:Nat):Int)∧((t - 16:Nat):Int) < ((64:Nat):Int):=by omega
 have c7:0≤((t - 7:Nat):Int)∧((t - 7:Nat):Int) < ((64:Nat):Int):=by omega
 have c0:0≤(t:Int)∧(t:Int) < ((64:Nat):Int):=by omega
 have cl:True∧t+1≤64:=⟨trivial,by omega⟩
 rw [zO (by omega:(t:Int) < 64)]
 simp only [zk,e15,e2,e16,e7,zf c15,zf c2,zf c16,zf c7,zf c0,Int.toNat_natCast,Nat.mul_one,Nat.zero_add,zAS,xK (show t - 15 < w.length by omega),xK (show t - 2 < w.length by omega),xK (show t - 16 < w.length by omega),xK (show t - 7 < w.length by omega),xu,hw,zfB (show t < w.length by omega),zaM (show t≤1000000000 by omega)]
 rw [zf cl]
 exact Eq.trans rfl rfl
theorem zBA {β:Type} (L:Nat) {t:Nat} (h1:16≤t) (h2:t < 64) (b2:List V) {w:List Int} (hw:w.length=64) (kh:Int→List V→List V→Option β) (kx:List V→List V→Option β):zb8 xd L (t:Int) b2 (row .u32 w) kh kx=kh ((t+1:Nat):Int) b2 (row .u32 (w.set t (s2 w t))) :=
 (show zb8 xd L (t:Int) b2 (row .u32 w) kh kx=zbT yd L (t:Int) b2 (row .u32 w) kh kx from rfl).trans (zxP L h1 h2 b2 hw kh kx)
theorem zxX {β:Type} (L:Nat) (b2:List V) (kx:List V→List V→Option β):∀ (n m t:Nat) (w:List Int),w.length=64→16≤t→t+m=64→m < n→zbR yd L kx n (t:Int) b2 (row .u32 w)=kx b2 (row .u32 (zxt m t w))
 | 0,m,t,w,_,_,_,h=>by omega
 | n+1,0,t,w,hw,h1,h2,h=>by
  unfold zbR zbT
  rw [xL (by omega)]; exact Eq.trans rfl rfl
 | n+1,m+1,t,w,hw,h1,h2,h=>by
  unfold zbR
  rw [zxP L h1 (by omega) b2 hw]
  exact zxX L b2 kx n m (t+1) _ (by simpa using hw) (by omega) (by omega) (by omega)
theorem zwg {β:Type} (L:Nat) (b2:List V) (kx:List V→List V→Option β):∀ (n m t:Nat) (w:List Int),w.length=64→16≤t→t+m=64→m < n→zbi xd L kx n (t:Int) b2 (row .u32 w)=kx b2 (row .u32 (zxt m t w))
 | 0,m,t,w,_,_,_,h=>by omega
 | n+1,0,t,w,hw,h1,h2,h=>by
  unfold zbi zb8
  rw [xL (by omega)]; exact Eq.trans rfl rfl
 | n+1,m+1,t,w,hw,h1,h2,h=>by
  unfold zbi
  rw [zBA L h1 (by omega) b2 hw]
  exact zwg L b2 kx n m (t+1) _ (by simpa using hw) (by omega) (by omega) (by omega)
theorem zuw {n:Int} (h1:0≤n) (h2:n < 4294967296):IntKind.wrap .u32 n=n:=zdn h1 (by omega)
theorem zoi {a b:Int} {n:Nat} (ha:0≤a) (hb:0≤b) (hb2:b < 2 ^ n) (hs:a * 2 ^ n+b < 4294967296):ior .u32 (a * 2 ^ n) b=a * 2 ^ n+b:=by
 obtain ⟨x,rfl⟩:=Int.eq_ofNat_of_zero_le ha
 obtain ⟨y,rfl⟩:=Int.eq_ofNat_of_zero_le hb
 have hy:y < 2 ^ n:=by exact_mod_cast hb2
 have e:((x:Int) * 2 ^ n)=((x * 2 ^ n:Nat):Int):=by rw [Int.natCast_mul,Int.natCast_pow]; rfl
 rw [e] at hs ⊢
 have hxy:x * 2 ^ n+y < 4294967296:=by omega
 unfold ior
 have q1:(BitVec.ofInt (IntKind.bits .u32) ((x * 2 ^ n:Nat):Int)).toNat=x * 2 ^ n:=by
  rw [BitVec.toNat_ofInt]
  show (((x * 2 ^ n:Nat):Int) % ((2 ^ 32:Nat):Int)).toNat=_
  rw [← Int.natCast_emod,Int.toNat_natCast,Nat.mod_eq_of_lt (by omega)]
 have q2:(BitVec.ofInt (IntKind.bits .u32) (y:Int)).toNat=y:=by
  rw [BitVec.toNat_ofInt]
  show ((y:Int) % ((2 ^ 32:Nat):Int)).toNat=_
  rw [← Int.natCast_emod,Int.toNat_natCast,Nat.mod_eq_of_lt (by omega)]
 rw [BitVec.toNat_or,q1,q2,← Nat.shiftLeft_eq,← Nat.shiftLeft_add_eq_or_of_lt hy,Nat.shiftLeft_eq]
 rw [zuw (by omega) (by omega),Int.natCast_add]
theorem zmk {a:Int} (n:Nat) (hn:n≤32) (ha:0≤a) (hs:a * 2 ^ n < 4294967296):zbO .u32 a (n:Int)=a * 2 ^ n:=by
 unfold zbO
 have:min (Int.toNat (n:Int)) (IntKind.bits .u32)=n:=by
  rw [Int.toNat_natCast]; exact Nat.min_eq_left hn
 rw [this]
 have h0:0≤a * 2 ^ n:=Int.mul_nonneg ha (Int.le_of_lt (Int.pow_pos (by decide)))
 exact zuw h0 hs
theorem zeM {l:List Int} (h:∀ x ∈ l,0≤x∧x≤255) (i:Nat):0≤l.getD i 0∧l.getD i 0≤255:=by
 rw [List.getD_eq_getElem?_getD]
 by_cases hi:i < l.length
 ·rw [List.getElem?_eq_getElem hi]; exact h _ (List.getElem_mem hi)
 ·rw [List.getElem?_eq_none (by omega)]; simp
theorem zeN {w:List Int} {t:Nat} (h:t < w.length) (x:Int):(w.set t x).getD t 0=x:=by
 simp [List.getD_eq_getElem?_getD,h]
theorem getD_set_ne {w:List Int} {t i:Nat} (h:t≠i) (x:Int):(w.set t x).getD i 0=w.getD i 0:=by
 simp [List.getD_eq_getElem?_getD,List.getElem?_set_ne h]
def zvj (l:List Int) (t:Nat):Int :=
 ((l.getD (4 * t) 0 * 256+l.getD (4 * t+1) 0) * 256+l.getD (4 * t+2) 0) * 256+l.getD (4 * t+3) 0
theorem zD0 {x y:Int} (h0:0≤x) (h1:x < 16777216) (b0:0≤y) (b1:y≤255):ior .u32 (zbO .u32 x (8:Int)) y=x * 256+y:=by
 have e1:zbO .u32 x (8:Int)=x * 2 ^ 8:=zmk 8 (by decide) h0 (by omega)
 rw [e1,zoi (n:=8) h0 b0 (by omega) (by omega)]; exact Eq.trans rfl rfl
theorem zFw {a b c d:Int} (ha:0≤a∧a≤255) (hb:0≤b∧b≤255) (hc:0≤c∧c≤255) (hd:0≤d∧d≤255):ior .u32 (ior .u32 (ior .u32 (zbO .u32 a (24:Int)) (zbO .u32 b (16:Int))) (zbO .u32 c (8:Int))) d=((a * 256+b) * 256+c) * 256+d:=by
 have e1:zbO .u32 a (24:Int)=a * 2 ^ 24:=zmk 24 (by decide) ha.1 (by omega)
 have e2:zbO .u32 b (16:Int)=b * 2 ^ 16:=zmk 16 (by decide) hb.1 (by omega)
 have e3:zbO .u32 c (8:Int)=c * 2 ^ 8:=zmk 8 (by decide) hc.1 (by omega)
 rw [e1,e2,e3,zoi (n:=24) ha.1 (by omega) (by omega) (by omega)]
 rw [show a * 2 ^ 24+b * 2 ^ 16=(a * 256+b) * 2 ^ 16 by omega,zoi (n:=16) (by omega) (by omega) (by omega) (by omega)]
 rw [show (a * 256+b) * 2 ^ 16+c * 2 ^ 8=((a * 256+b) * 256+c) * 2 ^ 8 by omega,zoi (n:=8) (by omega) (by omega) (by omega) (by omega)]
 omega
theorem zBF {t:Nat} (h:t≤1000000):IntKind.wrap .i64 ((4:Int) * (t:Int))=((4 * t:Nat):Int):=by
 rw [yy (by omega) (by omega)]; omega
theorem zuR {a b:Nat} (h:a≤1000000000) (h2:b≤1000000000):IntKind.wrap .i64 ((a:Int)+(b:Int))=((a+b:Nat):Int):=by
 rw [yy (by omega) (by omega)]; omega
theorem zEm {β:Type} (L:Nat) {t j:Nat} (ht:t < 16) (hj:j < 4) (b2:List V) {l w:List Int} (hl:l.length=64) (hb:∀ x ∈ l,0≤x∧x≤255) (hw:w.length=64) {x:Int} (hx:w.getD t 0=x) (h0:0≤x) (h1:x < 16777216) (kh:Int→Int→Int→List V→List V→List V→Option β) (kx:Int→List V→List V→List V→Option β):yX yd L (t:Int) (t:Int) (j:Int) (row .u8 l) b2 (row .u32 w) kh kx=kh (t:Int) (t:Int) ((j+1:Nat):Int) (row .u8 l) b2 (row .u32 (w.set t (x * 256+l.getD (4 * t+j) 0))):=by
 unfold yX
 have bb:=zeM hb (4 * t+j)
 have e4:IntKind.wrap .i64 ((4:Int) * (t:Int))=((4 * t:Nat):Int):=zBF (by omega)
 have e5:IntKind.wrap .i64 (((4 * t:Nat):Int)+(j:Int))=((4 * t+j:Nat):Int):=zuR (by omega) (by omega)
 have e6:IntKind.wrap .u32 (l.getD (4 * t+j) 0)=l.getD (4 * t+j) 0:=zdn bb.1 (by omega)
 have e7:ior .u32 (zbO .u32 x (8:Int)) (l.getD (4 * t+j) 0)=x * 256+l.getD (4 * t+j) 0:=zD0 h0 h1 bb.1 bb.2
 have c0:0≤(t:Int)∧(t:Int) < ((64:Nat):Int):=by omega
 have c5:0≤((4 * t+j:Nat):Int)∧((4 * t+j:Nat):Int) < ((64:Nat):Int):=by omega
 have cl:True∧t+1≤64:=⟨trivial,by omega⟩
 rw [zO (by omega:(j:Int) < 4)]
 simp only [zk,e4,e5,zf c0,zf c5,Int.toNat_natCast,Nat.mul_one,Nat.zero_add,xK (show t < w.length by omega),xK (show 4 * t+j < l.length by omega),hx,e6,e7,xu,hw,zfB (show t < w.length by omega),zaM (show j≤1000000000 by omega)]
 rw [zf cl]
theorem zrN {β:Type} (L n:Nat) {t j:Nat} (ht:t < 16) (hj:j < 4) (b2:List V) {l w:List Int} (hl:l.length=64) (hb:∀ x ∈ l,0≤x∧x≤255) (hw:w.length=64) {x:Int} (hx:w.getD t 0=x) (h0:0≤x) (h1:x < 16777216) (kx:Int→List V→List V→List V→Option β):yN yd L kx (n+1) (t:Int) (t:Int) (j:Int) (row .u8 l) b2 (row .u32 w)=yN yd L kx n (t:Int) (t:Int) ((j+1:Nat):Int) (row .u8 l) b2 (row .u32 (w.set t (x * 256+l.getD (4 * t+j) 0))) :=
 (show yN yd L kx (n+1) (t:Int) (t:Int) (j:Int) (row .u8 l) b2 (row .u32 w)=yX yd L (t:Int) (t:Int) (j:Int) (row .u8 l) b2 (row .u32 w) (fun p4 p9 p12 b1 b2 b3=>yN yd L kx n p4 p9 p12 b1 b2 b3) kx from rfl).trans (zEm L ht hj b2 hl hb hw hx h0 h1 _ _)
theorem zEA {β:Type} (L n:Nat) {t:Nat} (ht:t < 16) (b2:List V) {l w:List Int} (hl:l.length=64) (hb:∀ x ∈ l,0≤x∧x≤255) (hw:w.length=64) (hx:w.getD t 0=0) (kx:Int→List V→List V→List V→Option β):yN yd L kx (n+5) (t:Int) (t:Int) ((0:Nat):Int) (row .u8 l) b2 (row .u32 w)=kx (t:Int) (row .u8 l) b2 (row .u32 (w.set t (zvj l t))):=by
 have htw:t < w.length:=by omega
 have a0:=zeM hb (4 * t+0)
 have a1:=zeM hb (4 * t+1)
 have a2:=zeM hb (4 * t+2)
 have a3:=zeM hb (4 * t+3)
 refine (zrN L (n+4) ht (j:=0) (by decide) b2 hl hb hw hx (by decide) (by decide) kx).trans ?_
 refine (zrN L (n+3) ht (j:=1) (by decide) b2 hl hb (by simpa using hw) (zeN htw _) (by omega) (by omega) kx).trans ?_
 rw [List.set_set]
 refine (zrN L (n+2) ht (j:=2) (by decide) b2 hl hb (by simpa using hw) (zeN htw _) (by omega) (by omega) kx).trans ?_
 rw [List.set_set]
 refine (zrN L (n+1) ht (j:=3) (by decide) b2 hl hb (by simpa using hw) (zeN htw _) (by omega) (by omega) kx).trans ?_
 rw [List.set_set]
 have e:(((0 * 256+l.getD (4 * t+0) 0) * 256+l.getD (4 * t+1) 0) * 256+l.getD (4 * t+2) 0) * 256+l.getD (4 * t+3) 0=zvj l t:=by
  unfold zvj; rw [Nat.add_zero,Int.zero_mul,Int.zero_add]
 rw [e]
 refine (show _=yX yd L (t:Int) (t:Int) ((3+1:Nat):Int) (row .u8 l) b2 (row .u32 (w.set t (zvj l t))) (fun p4 p9 p12 b1 b2 b3=>yN yd L kx n p4 p9 p12 b1 b2 b3) kx from rfl).trans ?_
 unfold yX
 rw [xL (by omega)]
def zw5:Nat→Nat→List Int→List Int→List Int
 | 0,_,_,w=>w
 | m+1,t,l,w=>zw5 m (t+1) l (w.set t (zvj l t))
theorem zro:∀ (m t:Nat) (l w:List Int),(zw5 m t l w).length=w.length
 | 0,_,_,_=>rfl
 | m+1,t,l,w=>by rw [zw5,zro m]; simp
theorem zDO {β:Type} {L:Nat} (hL:5≤L) {t:Nat} (ht:t < 16) (b2:List V) {l w:List Int} (hl:l.length=64) (hb:∀ x ∈ l,0≤x∧x≤255) (hw:w.length=64) (hx:w.getD t 0=0) (k0:List V→List V→Option β) (kh:Int→List V→List V→List V→Option β):zbL yd L (t:Int) (row .u8 l) b2 (row .u32 w) k0 kh=kh ((t+1:Nat):Int) (row .u8 l) b2 (row .u32 (w.set t (zvj l t))):=by
 obtain ⟨n,rfl⟩:=Nat.exists_eq_add_of_le hL
 unfold zbL ze8
 rw [zO (by omega:(t:Int) < 16)]
 rw [Nat.add_comm 5 n]
 refine (zEA (n+5) n ht b2 hl hb hw hx _).trans ?_
 unfold zdf
 rw [zk,zaM (by omega)]
theorem zza {β:Type} {L:Nat} (hL:5≤L) (b2:List V) {l:List Int} (hl:l.length=64) (hb:∀ x ∈ l,0≤x∧x≤255) (k0:List V→List V→Option β):∀ (n m t:Nat) (w:List Int),w.length=64→(∀ i,t≤i→w.getD i 0=0)→t+m=16→m < n→zb6 yd L k0 n (t:Int) (row .u8 l) b2 (row .u32 w)=k0 b2 (row .u32 (zw5 m t l w))
 | 0,m,t,w,_,_,_,h=>by omega
 | n+1,0,t,w,hw,hz,h1,h=>by
  unfold zb6 zbL ze8
  rw [xL (by omega)]; exact Eq.trans rfl rfl
 | n+1,m+1,t,w,hw,hz,h1,h=>by
  unfold zb6
  rw [zDO hL (by omega) b2 hl hb hw (hz t (Nat.le_refl t))]
  exact zza hL b2 hl hb k0 n m (t+1) _ (by simpa using hw) (fun i hi=>by rw [getD_set_ne (by omega)]; exact hz i (by omega)) (by omega) (by omega)
theorem zCG {β:Type} (L:Nat) {t:Nat} (ht:t < 16) (b2:List V) {l w:List Int} (hl:l.length=64) (hb:∀ x ∈ l,0≤x∧x≤255) (hw:w.length=64) (kh:Int→List V→List V→List V→Option β) (k0:List V→List V→Option β):zcy xd L (t:Int) (row .u8 l) b2 (row .u32 w) kh k0=kh ((t+1:Nat):Int) (row .u8 l) b2 (row .u32 (w.set t (zvj l t))):=by
 unfold zcy
 have a0:=zeM hb (4 * t)
 have a1:=zeM hb (4 * t+1)
 have a2:=zeM hb (4 * t+2)
 have a3:=zeM hb (4 * t+3)
 have e4:IntKind.wrap .i64 ((4:Int) * (t:Int))=((4 * t:Nat):Int):=zBF (by omega)
 have e1:IntKind.wrap .i64 (((4 * t:Nat):Int)+(1:Int))=((4 * t+1:Nat):Int):=zuR (b:=1) (by omega) (by omega)
 have e2:IntKind.wrap .i64 (((4 * t:Nat):Int)+(2:Int))=((4 * t+2:Nat):Int):=zuR (b:=2) (by omega) (by omega)
 have e3:IntKind.wrap .i64 (((4 * t:Nat):Int)+(3:Int))=((4 * t+3:Nat):Int):=zuR (b:=3) (by omega) (by omega)
 have c0:0≤(t:Int)∧(t:Int) < ((64:Nat):Int):=by omega
 have c4:0≤((4 * t:Nat):Int)∧((4 * t:Nat):Int) < ((64:Nat):Int):=by omega
 have c1:0≤((4 * t+1:Nat):Int)∧((4 * t+1:Nat):Int) < ((64:Nat):Int):=by omega
 have c2:0≤((4 * t+2:Nat):Int)∧((4 * t+2:Nat):Int) < ((64:Nat):Int):=by omega
 have c3:0≤((4 * t+3:Nat):Int)∧((4 * t+3:Nat):Int) < ((64:Nat):Int):=by omega
 have cl:True∧t+1≤64:=⟨trivial,by omega⟩
 rw [zO (by omega:(t:Int) < 16)]
 simp only [zk,e4,e1,e2,e3,zf c0,zf c4,zf c1,zf c2,zf c3,Int.toNat_natCast,Nat.mul_one,Nat.zero_add,xK (show 4 * t < l.length by omega),xK (show 4 * t+1 < l.length by omega),xK (show 4 * t+2 < l.length by omega),xK (show 4 * t+3 < l.length by omega),zdn a0.1 (show l.getD (4 * t) 0≤4294967295 by omega),zdn a1.1 (show l.getD (4 * t+1) 0≤4294967295 by omega),zdn a2.1 (show l.getD (4 * t+2) 0≤4294967295 by omega),zdn a3.1 (show l.getD (4 * t+3) 0≤4294967295 by omega),zFw a0 a1 a2 a3,xu,hw,zfB (show t < w.length by omega),zaM (show t≤1000000000 by omega)]
 rw [zf cl]
 exact Eq.trans rfl rfl
theorem zx2 {β:Type} (L:Nat) (b2:List V) {l:List Int} (hl:l.length=64) (hb:∀ x ∈ l,0≤x∧x≤255) (k0:List V→List V→Option β):∀ (n m t:Nat) (w:List Int),w.length=64→t+m=16→m < n→zbA xd L k0 n (t:Int) (row .u8 l) b2 (row .u32 w)=k0 b2 (row .u32 (zw5 m t l w))
 | 0,m,t,w,_,_,h=>by omega
 | n+1,0,t,w,hw,h1,h=>by
  unfold zbA zcy
  rw [xL (by omega)]; exact Eq.trans rfl rfl
 | n+1,m+1,t,w,hw,h1,h=>by
  unfold zbA
  rw [zCG L (by omega) b2 hl hb hw]
  exact zx2 L b2 hl hb k0 n m (t+1) _ (by simpa using hw) (by omega) (by omega)
def zmB (l:List Int):List Int:=zxt 48 16 (zw5 16 0 l (List.replicate 64 0))
theorem zgF (l:List Int):(zmB l).length=64:=by
 unfold zmB; rw [zzb,zro]; rfl
theorem zqJ (n:Nat) (k:IntKind) (x:Int):List.replicate n (V.sc (.int k x))=row k (List.replicate n x):=by simp [row]
theorem zDn (n i:Nat):(List.replicate n (0:Int)).getD i 0=0:=by
 rw [List.getD_eq_getElem?_getD]
 by_cases hi:i < n
 ·simp [hi]
 ·simp [hi]
theorem zxS {β:Type} {w:List Int} (hw:w.length=64) (z:List Int) (hz:z.length=64) (k:List V→Option β) :
  chk (0+64≤(List.length (row .u32 w))) (chk ((List.length (List.take 64 (row .u32 w)))=64∧0+64≤(List.length (row .u32 z))) (
   lt (xn (row .u32 z) 0 (List.take 64 (row .u32 w))) fun r41=>chk (0=0∧(List.length r41)=64∧64≠0) (k r41)))=k (row .u32 w):=by
 have e:List.take 64 (row .u32 w)=row .u32 w:=List.take_of_length_le (by rw [xu]; omega)
 rw [zk,e,zbF (by rw [xu,xu]; omega)]
 rw [zf (by rw [xu]; omega),zf ⟨by rw [xu]; omega,by rw [xu]; omega⟩,zf ⟨rfl,by rw [xu]; omega,by decide⟩]
theorem zAh {β:Type} {L:Nat} (hL:100≤L) {l:List Int} (hl:l.length=64) (hb:∀ x ∈ l,0≤x∧x≤255) (k:List V→Option β):yo β L (row .u8 l) k=k (row .u32 (zmB l)):=by
 unfold yo zi0 zlX
 rw [zqJ]
 refine (zza (by omega) _ hl hb _ L 16 0 _ rfl (fun i _=>?_) rfl (by omega)).trans ?_
 ·exact zDn 64 i
 unfold zdF zgj
 refine (zxX L _ _ L 48 16 _ (by rw [zro]; rfl) (by omega) rfl (by omega)).trans ?_
 unfold zfY
 exact zxS (zgF l) _ rfl k
theorem zzy {β:Type} {L:Nat} (hL:100≤L) {l:List Int} (hl:l.length=64) (hb:∀ x ∈ l,0≤x∧x≤255) (k:List V→Option β):xl β L (row .u8 l) k=k (row .u32 (zmB l)):=by
 unfold xl zgZ zkm
 rw [zqJ]
 refine (zx2 L _ hl hb _ L 16 0 _ rfl rfl (by omega)).trans ?_
 unfold zcY zfg
 refine (zwg L _ _ L 48 16 _ (by rw [zro]; rfl) (by omega) rfl (by omega)).trans ?_
 unfold ze0
 exact zxS (zgF l) _ rfl k
end
section
set_option linter.unusedVariables false
set_option linter.unusedSimpArgs false
def kc:List Int:=gk_sha_k.map fun v=>match v with | .sc (.int _ n)=>n | _=>0
theorem zCN:gk_sha_k=row .u32 kc:=rfl
theorem zCm:kc.length=64:=rfl
def t1 (e f g h kk ww:Int):Int :=
 IntKind.wrap .u32 (IntKind.wrap .u32 (IntKind.wrap .u32 (IntKind.wrap .u32 (h+zbW .u32 (zbW .u32 (znr e 6) (znr e 11)) (znr e 25))+zbW .u32 (zfT .u32 e f) (zfT .u32 (zDi .u32 e) g))+kk)+ww)
def t2 (a b c:Int):Int :=
 IntKind.wrap .u32 (zbW .u32 (zbW .u32 (znr a 2) (znr a 13)) (znr a 22)+zbW .u32 (zbW .u32 (zfT .u32 a b) (zfT .u32 a c)) (zfT .u32 b c))
def zq4 {γ:Type} (w:List Int) (κ:Int→Int→Int→Int→Int→Int→Int→Int→γ):Nat→Nat→Int→Int→Int→Int→Int→Int→Int→Int→γ
 | 0,_,a,b,c,d,e,f,g,h=>κ a b c d e f g h
 | m+1,t,a,b,c,d,e,f,g,h=>zq4 w κ m (t+1) (IntKind.wrap .u32 (t1 e f g h (kc.getD t 0) (w.getD t 0)+t2 a b c)) a b c (IntKind.wrap .u32 (d+t1 e f g h (kc.getD t 0) (w.getD t 0))) e f g
theorem zpi {γ δ:Type} (u:γ→δ) (w:List Int) (κ:Int→Int→Int→Int→Int→Int→Int→Int→γ):∀ (m t:Nat) (a b c d e f g h:Int),zq4 w (fun a b c d e f g h=>u (κ a b c d e f g h)) m t a b c d e f g h=u (zq4 w κ m t a b c d e f g h)
 | 0,_,_,_,_,_,_,_,_,_=>rfl
 | m+1,t,a,b,c,d,e,f,g,h=>zpi u w κ m (t+1) _ _ _ _ _ _ _ _
theorem zuE {γ:Type} (u:γ) (w:List Int):∀ (m t:Nat) (a b c d e f g h:Int),zq4 w (fun _ _ _ _ _ _ _ _=>u) m t a b c d e f g h=u
 | 0,_,_,_,_,_,_,_,_,_=>rfl
 | m+1,t,a,b,c,d,e,f,g,h=>zuE u w m (t+1) _ _ _ _ _ _ _ _
theorem zB2 {β:Type} (L:Nat) {t:Nat} (ht:t < 64) (a b c d e f g h:Int) (b2:List V) (z0 z1 z2 z3 z4 z5 z6 z7:Int) {w:List Int} (hw:w.length=64) (kh:zfX β) (kx:zg2 β):zcv yo yd L a b c d e f g h (t:Int) b2 z0 z1 z2 z3 z4 z5 z6 z7 (row .u32 w) kh kx=kh (IntKind.wrap .u32 (t1 e f g h (kc.getD t 0) (w.getD t 0)+t2 a b c)) a b c (IntKind.wrap .u32 (d+t1 e f g h (kc.getD t 0) (w.getD t 0))) e f g ((t+1:Nat):Int) b2 z0 z1 z2 z3 z4 z5 z6 z7 (row .u32 w):=by
 unfold zcv
 have c0:0≤(t:Int)∧(t:Int) < ((64:Nat):Int):=by omega
 have ek:∀ κ:Int→Option β,cI .u32 (List.drop t gk_sha_k) 0 κ=κ (kc.getD t 0):=by
  intro κ
  rw [zCN,zDa,xK (by rw [List.length_drop,zCm]; omega)]
  simp [List.getD_eq_getElem?_getD]
 rw [zO (by omega:(t:Int) < 64)]
 simp only [zk,zf c0,zAS,Int.toNat_natCast,Nat.mul_one,Nat.zero_add,ek,xK (show t < w.length by omega),zaM (show t≤1000000000 by omega)]
 exact Eq.trans rfl rfl
theorem zBH {β:Type} (L:Nat) {t:Nat} (ht:t < 64) (a b c d e f g h:Int) (b2:List V) (z0 z1 z2 z3 z4 z5 z6 z7:Int) {w:List Int} (hw:w.length=64) (kh:zfh β) (kx:zfq β):zce xl yj xd L a b c d e f g h (t:Int) b2 z0 z1 z2 z3 z4 z5 z6 z7 (row .u32 w) gk_sha_k kh kx=kh (IntKind.wrap .u32 (t1 e f g h (kc.getD t 0) (w.getD t 0)+t2 a b c)) a b c (IntKind.wrap .u32 (d+t1 e f g h (kc.getD t 0) (w.getD t 0))) e f g ((t+1:Nat):Int) b2 z0 z1 z2 z3 z4 z5 z6 z7 (row .u32 w) gk_sha_k:=by
 unfold zce
 have c0:0≤(t:Int)∧(t:Int) < ((64:Nat):Int):=by omega
 have ek:∀ κ:Int→Option β,cI .u32 gk_sha_k t κ=κ (kc.getD t 0):=by
  intro κ
  rw [zCN,xK (by rw [zCm]; omega)]
 rw [zO (by omega:(t:Int) < 64)]
 simp only [zk,zf c0,zDs,Int.toNat_natCast,Nat.mul_one,Nat.zero_add,ek,xK (show t < w.length by omega),zaM (show t≤1000000000 by omega)]
 exact Eq.trans rfl rfl
theorem zxV {β:Type} (L:Nat) (b2:List V) (z0 z1 z2 z3 z4 z5 z6 z7:Int) {w:List Int} (hw:w.length=64) (kx:zg2 β):∀ (n m t:Nat) (a b c d e f g h:Int),t+m=64→m < n→zbz yo yd L kx n a b c d e f g h (t:Int) b2 z0 z1 z2 z3 z4 z5 z6 z7 (row .u32 w)=zq4 w (fun a b c d e f g h=>kx a b c d e f g h b2 z0 z1 z2 z3 z4 z5 z6 z7) m t a b c d e f g h
 | 0,m,t,_,_,_,_,_,_,_,_,_,h=>by omega
 | n+1,0,t,a,b,c,d,e,f,g,h,h1,h2=>by
  unfold zbz zcv
  rw [xL (by omega)]; exact Eq.trans rfl rfl
 | n+1,m+1,t,a,b,c,d,e,f,g,h,h1,h2=>by
  unfold zbz
  rw [zB2 L (by omega) a b c d e f g h b2 z0 z1 z2 z3 z4 z5 z6 z7 hw]
  exact zxV L b2 z0 z1 z2 z3 z4 z5 z6 z7 hw kx n m (t+1) _ _ _ _ _ _ _ _ (by omega) (by omega)
theorem zwL {β:Type} (L:Nat) (b2:List V) (z0 z1 z2 z3 z4 z5 z6 z7:Int) {w:List Int} (hw:w.length=64) (kx:zfq β):∀ (n m t:Nat) (a b c d e f g h:Int),t+m=64→m < n→zbn xl yj xd L kx n a b c d e f g h (t:Int) b2 z0 z1 z2 z3 z4 z5 z6 z7 (row .u32 w) gk_sha_k=zq4 w (fun a b c d e f g h=>kx a b c d e f g h b2 z0 z1 z2 z3 z4 z5 z6 z7) m t a b c d e f g h
 | 0,m,t,_,_,_,_,_,_,_,_,_,h=>by omega
 | n+1,0,t,a,b,c,d,e,f,g,h,h1,h2=>by
  unfold zbn zce
  rw [xL (by omega)]; exact Eq.trans rfl rfl
 | n+1,m+1,t,a,b,c,d,e,f,g,h,h1,h2=>by
  unfold zbn
  rw [zBH L (by omega) a b c d e f g h b2 z0 z1 z2 z3 z4 z5 z6 z7 hw]
  exact zwL L b2 z0 z1 z2 z3 z4 z5 z6 z7 hw kx n m (t+1) _ _ _ _ _ _ _ _ (by omega) (by omega)
def ztG (hs:List Int) (a b c d e f g h:Int):List Int :=
 [IntKind.wrap .u32 (hs.getD 0 0+a),IntKind.wrap .u32 (hs.getD 1 0+b),IntKind.wrap .u32 (hs.getD 2 0+c),IntKind.wrap .u32 (hs.getD 3 0+d),IntKind.wrap .u32 (hs.getD 4 0+e),IntKind.wrap .u32 (hs.getD 5 0+f),IntKind.wrap .u32 (hs.getD 6 0+g),IntKind.wrap .u32 (hs.getD 7 0+h)]
def zxw (hs l:List Int):List Int :=
 zq4 (zmB l) (ztG hs) 64 0 (hs.getD 0 0) (hs.getD 1 0) (hs.getD 2 0) (hs.getD 3 0) (hs.getD 4 0) (hs.getD 5 0) (hs.getD 6 0) (hs.getD 7 0)
theorem zkg (hs l:List Int):(zxw hs l).length=8 :=
 ((zpi List.length (zmB l) (ztG hs) 64 0 _ _ _ _ _ _ _ _).symm).trans (zuE 8 (zmB l) 64 0 _ _ _ _ _ _ _ _)
theorem zDt {β:Type} (L:Nat) {hs:List Int} (hh:hs.length=8) (k:List V→Option β) (a b c d e f g h z0 z1 z2 z3 z4 z5 z6 z7:Int):zdg yo yd L a b c d e f g h (row .u32 hs) z0 z1 z2 z3 z4 z5 z6 z7 k=k (row .u32 (ztG hs a b c d e f g h)):=by
 unfold zdg
 simp only [zk,xK (show 0 < hs.length by omega),xK (show 1 < hs.length by omega),xK (show 2 < hs.length by omega),xK (show 3 < hs.length by omega),xK (show 4 < hs.length by omega),xK (show 5 < hs.length by omega),xK (show 6 < hs.length by omega),xK (show 7 < hs.length by omega)]
 exact (zf ⟨trivial,rfl,by decide⟩ _).trans rfl
theorem zBW {β:Type} (L:Nat) {hs:List Int} (hh:hs.length=8) (k:List V→Option β) (a b c d e f g h z0 z1 z2 z3 z4 z5 z6 z7:Int):zc1 xl yj xd L a b c d e f g h (row .u32 hs) z0 z1 z2 z3 z4 z5 z6 z7 k=k (row .u32 (ztG hs a b c d e f g h)):=by
 unfold zc1
 simp only [zk,xK (show 0 < hs.length by omega),xK (show 1 < hs.length by omega),xK (show 2 < hs.length by omega),xK (show 3 < hs.length by omega),xK (show 4 < hs.length by omega),xK (show 5 < hs.length by omega),xK (show 6 < hs.length by omega),xK (show 7 < hs.length by omega)]
 exact (zf ⟨trivial,rfl,by decide⟩ _).trans rfl
theorem zAr {β:Type} {L:Nat} (hL:100≤L) {hs l:List Int} (hh:hs.length=8) (hl:l.length=64) (hb:∀ x ∈ l,0≤x∧x≤255) (k:List V→Option β):yg β L (row .u32 hs) (row .u8 l) k=k (row .u32 (zxw hs l)):=by
 unfold yg zi4 zmg
 have e1:List.take 64 (row .u8 l)=row .u8 l:=List.take_of_length_le (by rw [xu]; omega)
 rw [zf (by rw [xu]; omega),e1]
 refine (zAh hL hl hb _).trans ?_
 rw [zf ⟨by rw [xu,zgF],by decide⟩,zk,zbF (by rw [xu,zgF]; rfl)]
 rw [xK (show 0 < hs.length by omega),xK (show 1 < hs.length by omega),xK (show 2 < hs.length by omega),xK (show 3 < hs.length by omega),xK (show 4 < hs.length by omega),xK (show 5 < hs.length by omega),xK (show 6 < hs.length by omega),xK (show 7 < hs.length by omega)]
 refine (zxV L (row .u32 hs) 0 0 0 0 0 0 0 0 (zgF l) _ L 64 0 _ _ _ _ _ _ _ _ rfl (by omega)).trans ?_
 simp only [zDt L hh]
 exact zpi (fun r=>k (row .u32 r)) (zmB l) (ztG hs) 64 0 _ _ _ _ _ _ _ _
theorem zzd {β:Type} (L:Nat) (k:List V→Option β):yj β L k=k gk_sha_k:=by
 unfold yj zju
 rw [zk]
 exact (zf ⟨rfl,rfl,by decide⟩ _).trans rfl
theorem zzD {β:Type} {L:Nat} (hL:100≤L) {hs l:List Int} (hh:hs.length=8) (hl:l.length=64) (hb:∀ x ∈ l,0≤x∧x≤255) (k:List V→Option β):ye β L (row .u32 hs) (row .u8 l) k=k (row .u32 (zxw hs l)):=by
 unfold ye zgV zkn
 have e1:List.take 64 (row .u8 l)=row .u8 l:=List.take_of_length_le (by rw [xu]; omega)
 rw [zf (by rw [xu]; omega),e1]
 refine (zzy hL hl hb _).trans ?_
 refine (zzd L _).trans ?_
 rw [zf ⟨by rw [xu,zgF],by decide⟩,zk,zbF (cs:=List.replicate 64 (V.sc (.int .u32 (0:Int)))) (new:=row .u32 (zmB l)) (by rw [xu,zgF]; rfl)]
 rw [zf ⟨rfl,by decide⟩,zk,zbF (cs:=List.replicate 64 (V.sc (.int .u32 (0:Int)))) (new:=gk_sha_k) rfl]
 rw [xK (show 0 < hs.length by omega),xK (show 1 < hs.length by omega),xK (show 2 < hs.length by omega),xK (show 3 < hs.length by omega),xK (show 4 < hs.length by omega),xK (show 5 < hs.length by omega),xK (show 6 < hs.length by omega),xK (show 7 < hs.length by omega)]
 refine (zwL L (row .u32 hs) 0 0 0 0 0 0 0 0 (zgF l) _ L 64 0 _ _ _ _ _ _ _ _ rfl (by omega)).trans ?_
 simp only [zBW L hh]
 exact zpi (fun r=>k (row .u32 r)) (zmB l) (ztG hs) 64 0 _ _ _ _ _ _ _ _
end
section
set_option linter.unusedVariables false
set_option linter.unusedSimpArgs false
def zs (n:Nat):Nat:=(64 - (n+9) % 64) % 64
def pb (n i:Nat):Int:=IntKind.wrap .u8 (zb9 .u64 (IntKind.wrap .u64 ((8:Int) * (n:Int))) ((56 - 8 * i:Nat):Int))
def pbs (n:Nat):Nat→Nat→List Int
 | 0,_=>[]
 | m+1,i=>pb n i::pbs n m (i+1)
theorem zAB (n:Nat):∀ m i:Nat,(pbs n m i).length=m
 | 0,_=>rfl
 | m+1,i=>by rw [pbs,List.length_cons,zAB n m]
theorem zrV (n:Int):0≤IntKind.wrap .u8 n∧IntKind.wrap .u8 n≤255:=by
 unfold IntKind.wrap
 simp only [IntKind.signed,Bool.false_and,Bool.false_eq_true,if_false]
 have h1:=Int.emod_nonneg n (show (2:Int) ^ IntKind.bits .u8≠0 by decide)
 have h2:=Int.emod_lt_of_pos n (show (0:Int) < 2 ^ IntKind.bits .u8 by decide)
 exact ⟨h1,Int.le_of_lt_add_one h2⟩
theorem zCD (n:Nat):∀ m i:Nat,∀ x ∈ pbs n m i,0≤x∧x≤255
 | 0,_=>fun x h=>by simp [pbs] at h
 | m+1,i=>fun x h=>by
  rw [pbs,List.mem_cons] at h
  rcases h with rfl | h
  ·exact zrV _
  ·exact zCD n m (i+1) x h
def zeZ (n:Nat):List Int:=(128::List.replicate (zs n) 0)++pbs n 8 0
theorem zo2 (n:Nat):(zeZ n).length=9+zs n:=by simp [zeZ,zAB]; omega
theorem zEa (n:Nat):∀ x ∈ zeZ n,0≤x∧x≤255:=by
 intro x hx
 rw [zeZ,List.mem_append,List.mem_cons] at hx
 rcases hx with (rfl | hx) | hx
 ·exact ⟨by decide,by decide⟩
 ·rw [List.eq_of_mem_replicate hx]; exact ⟨by decide,by decide⟩
 ·exact zCD n 8 0 x hx
theorem zvY (n:Nat):zs n < 64:=Nat.mod_lt _ (by decide)
theorem zB5 (n:Nat):(n+9+zs n) % 64=0:=by unfold zs; omega
theorem zE3 (n k:Nat) (h:k < zs n):(n+9+k) % 64≠0:=by unfold zs at h; omega
theorem zrK (x:Int):yh 1 1 [V.sc (.int .u8 x)]=zn .u8 [x]:=rfl
theorem zCX {β:Type} (L:Nat) {n i:Nat} (hi:i < 8) (b:Nat) {acc:List Int} (ha:acc.length≤1000000) (kh:Int→List (List V)→Int→Nat→Option β) (kx:List (List V)→Nat→Option β):zdR L (n:Int) (zn .u8 acc) (i:Int) b kh kx=kh (n:Int) (zn .u8 (acc++[pb n i])) ((i+1:Nat):Int) b:=by
 unfold zdR
 have e8:IntKind.wrap .i64 ((8:Int) * (i:Int))=((8 * i:Nat):Int):=by rw [yy (by omega) (by omega)]; omega
 have e56:IntKind.wrap .i64 ((56:Int) - ((8 * i:Nat):Int))=((56 - 8 * i:Nat):Int):=by rw [yy (by omega) (by omega)]; omega
 rw [zO (by omega:(i:Int) < 8)]
 simp only [zk,e8,e56,zrK,zcL,zaM (show i≤1000000000 by omega)]
 rw [zf (by omega),zf (by simp [zx,xi]; omega)]
 exact Eq.trans rfl rfl
theorem zz7 {β:Type} (L n b:Nat) (kx:List (List V)→Nat→Option β):∀ (f m i:Nat) (acc:List Int),i+m=8→m < f→acc.length≤900000+i→zbG L kx f (n:Int) (zn .u8 acc) (i:Int) b=kx (zn .u8 (acc++pbs n m i)) b
 | 0,m,i,acc,_,h,_=>by omega
 | f+1,0,i,acc,h1,h2,h3=>by
  unfold zbG zdR
  rw [xL (by omega),pbs,List.append_nil]
 | f+1,m+1,i,acc,h1,h2,h3=>by
  unfold zbG
  rw [zCX L (by omega) b (by omega)]
  refine (zz7 L n b kx f m (i+1) _ (by omega) (by omega) (by simp; omega)).trans ?_
  rw [pbs,List.append_assoc]; exact Eq.trans rfl rfl
theorem zE7 {β:Type} {L:Nat} (hL:100≤L) {n:Nat} (hn:n≤100000000) (k k1:List (List V)→Option β):zo β L (n:Int) k k1=k1 (zn .u8 (zeZ n)):=by
 unfold zo zpp ztf
 have z64:=zvY n
 have e0:IntKind.wrap .u64 ((n:Int)+(9:Int))=((n+9:Nat):Int):=by rw [zds (by omega) (by omega)]; omega
 have e1:Int.tmod ((n+9:Nat):Int) (64:Int)=(((n+9) % 64:Nat):Int):=(Int.ofNat_tmod (n+9) 64).symm
 have e2:IntKind.wrap .u64 ((64:Int) - (((n+9) % 64:Nat):Int))=((64 - (n+9) % 64:Nat):Int):=by rw [zds (by omega) (by omega)]; omega
 have e3:Int.tmod ((64 - (n+9) % 64:Nat):Int) (64:Int)=((zs n:Nat):Int):=(Int.ofNat_tmod (64 - (n+9) % 64) 64).symm
 have e4:IntKind.wrap .u64 ((1:Int)+((zs n:Nat):Int))=((1+zs n:Nat):Int):=by rw [zds (by omega) (by omega)]; omega
 have e5:IntKind.wrap .u64 ((9:Int)+((zs n:Nat):Int))=((9+zs n:Nat):Int):=by rw [zds (by omega) (by omega)]; omega
 have e6:List.flatten (List.replicate (9+zs n) [V.sc (.int .u8 (0:Int))])=row .u8 (List.replicate (9+zs n) 0):=by
  rw [List.flatten_replicate_singleton,zqJ]
 have e7:xn (row .u8 (List.replicate (9+zs n) 0)) 0 [V.sc (.int .u8 (128:Int))]=row .u8 (128::List.replicate (8+zs n) 0):=by
  rw [zfB (by simp; omega),show 9+zs n=(8+zs n)+1 by omega,List.replicate_succ,List.set_cons_zero]
 simp only [zk,e0,e1,e2,e3,e4,e5,Int.toNat_natCast,e6,e7]
 rw [zf ⟨by omega,by omega,by simp [xi]; omega,by simp [xi]; omega⟩,zf ⟨by omega,by omega⟩,zf ⟨trivial,by simp [xu]; omega⟩]
 obtain ⟨L',rfl⟩:=Nat.exists_eq_add_of_le hL
 rw [show 100+L'=(99+L')+1 by omega]
 refine (show _=zgH (99+L'+1) (n:Int) (1+zs n) (0:Int) (row .u8 (128::List.replicate (8+zs n) 0)) (fun p0 p4 p18 b15=>zbG (99+L'+1) (fun p4 b15=>zdC (99+L'+1) p4 b15 k1) (99+L') p0 p4 p18 b15) (fun p4l b15=>zh1 (99+L'+1) p4l b15 k) from rfl).trans ?_
 unfold zgH
 have e8:IntKind.wrap .i64 ((8:Int) * (0:Int))=((8 * 0:Nat):Int):=by rw [yy (by omega) (by omega)]; omega
 have e56:IntKind.wrap .i64 ((56:Int) - ((8 * 0:Nat):Int))=((56 - 8 * 0:Nat):Int):=by rw [yy (by omega) (by omega)]; omega
 have e9:IntKind.wrap .i64 ((0:Int)+(1:Int))=((1:Nat):Int):=zaM (i:=0) (by omega)
 have ec:yh 1 (1+zs n) (row .u8 (128::List.replicate (8+zs n) 0))=zn .u8 (128::List.replicate (zs n) 0):=by
  rw [zrG _ _ _ (by simp; omega),show 1+zs n=zs n+1 by omega,List.take_succ_cons,List.take_replicate,show min (zs n) (8+zs n)=zs n by omega]
 rw [zO (by decide:(0:Int) < 8)]
 simp only [zk,e8,e56,e9,zrK,ec,zcL]
 rw [zf ⟨trivial,by simp [xu]; omega,by simp [xu]⟩,zf (by omega),zf (by simp [zx,xi]; omega)]
 refine (zz7 _ n _ _ (99+L') 7 1 _ rfl (by omega) (by simp; omega)).trans ?_
 unfold zdC zeZ
 rw [pbs,List.append_assoc]; exact Eq.trans rfl rfl
theorem zwr {β:Type} (L:Nat) {n:Nat} (hn:n≤100000000) (kx:Int→List (List V)→Option β):∀ (f m k:Nat),k+m=zs n→m < f→zfy L kx f (n:Int) (zn .u8 (128::List.replicate k 0))=kx (n:Int) (zn .u8 (128::List.replicate (zs n) 0))
 | 0,m,k,_,h=>by omega
 | f+1,m,k,h1,h2=>by
  have z64:=zvY n
  unfold zfy zli
  have e0:IntKind.wrap .u64 (((zn .u8 (128::List.replicate k 0)).length:Nat):Int)=((k+1:Nat):Int):=by
   rw [zx,List.length_cons,List.length_replicate,zds (by omega) (by omega)]
  have e1:IntKind.wrap .u64 ((n:Int)+((k+1:Nat):Int))=((n+(k+1):Nat):Int):=by rw [zds (by omega) (by omega)]; omega
  have e2:IntKind.wrap .u64 (((n+(k+1):Nat):Int)+(8:Int))=((n+9+k:Nat):Int):=by rw [zds (by omega) (by omega)]; omega
  have e3:Int.tmod ((n+9+k:Nat):Int) (64:Int)=(((n+9+k) % 64:Nat):Int):=(Int.ofNat_tmod (n+9+k) 64).symm
  simp only [zk,e0,e1,e2,e3]
  rw [zdV]
  match m,h1,h2 with
  | 0,h1,h2 =>
   have:k=zs n:=by omega
   subst this
   rw [if_pos (by rw [zB5]; rfl)]
  | m+1,h1,h2 =>
   have hz:=zE3 n k (by omega)
   rw [if_neg (by omega)]
   rw [zrK,zcL]
   rw [zf (by simp [zx,xi]; omega)]
   have e4:(128::List.replicate k (0:Int))++[0]=128::List.replicate (k+1) 0:=by
    rw [List.cons_append,List.replicate_succ']
   rw [e4]
   exact zwr L hn kx f m (k+1) (by omega) (by omega)
theorem zCa {β:Type} (L:Nat) {n i:Nat} (hi:i < 8) {acc:List Int} (ha:acc.length≤1000000) (kh:Int→List (List V)→Int→Option β) (kx:List (List V)→Option β):zeq L (n:Int) (zn .u8 acc) ((7:Int) - (i:Int)) kh kx=kh (n:Int) (zn .u8 (acc++[pb n i])) ((7:Int) - ((i+1:Nat):Int)):=by
 unfold zeq
 have e8:IntKind.wrap .i64 ((8:Int) * ((7:Int) - (i:Int)))=((56 - 8 * i:Nat):Int):=by rw [yy (by omega) (by omega)]; omega
 have e1:IntKind.wrap .i64 (((7:Int) - (i:Int)) - (1:Int))=(7:Int) - ((i+1:Nat):Int):=by rw [yy (by omega) (by omega)]; omega
 rw [zO (by omega:(7:Int) - (i:Int) ≥ 0)]
 simp only [zk,e8,e1,zrK,zcL]
 rw [zf (by omega),zf (by simp [zx,xi]; omega)]
 exact Eq.trans rfl rfl
theorem zx4 {β:Type} (L n:Nat) (kx:List (List V)→Option β):∀ (f m i:Nat) (acc:List Int),i+m=8→m < f→acc.length≤900000+i→zc8 L kx f (n:Int) (zn .u8 acc) ((7:Int) - (i:Int))=kx (zn .u8 (acc++pbs n m i))
 | 0,m,i,acc,_,h,_=>by omega
 | f+1,0,i,acc,h1,h2,h3=>by
  unfold zc8 zeq
  rw [xL (by omega),pbs,List.append_nil]
 | f+1,m+1,i,acc,h1,h2,h3=>by
  unfold zc8
  rw [zCa L (by omega) (by omega)]
  refine (zx4 L n kx f m (i+1) _ (by omega) (by omega) (by simp; omega)).trans ?_
  rw [pbs,List.append_assoc]; exact Eq.trans rfl rfl
theorem zEF {β:Type} {L:Nat} (hL:100≤L) {n:Nat} (hn:n≤100000000) (k:List (List V)→Option β):zj β L (n:Int) k=k (zn .u8 (zeZ n)):=by
 unfold zj zmE zpY
 have z64:=zvY n
 refine (zwr L hn _ L (zs n) 0 (by omega) (by omega)).trans ?_
 unfold zfp zjj
 refine (zx4 L n _ L 8 0 _ rfl (by omega) (by simp; omega)).trans ?_
 unfold zhr zeZ
 exact Eq.trans rfl rfl
theorem zCJ {β:Type} {L:Nat} (hL:100≤L) {a b:List Int} (ha:a.length≤1000000000) (hb:b.length≤1000000000) (k:List (List V)→Option β):yn β L (yh 1 2 [V.sl 1 (zn .u8 a),V.sl 1 (zn .u8 b)]) k=k (zn .u8 (a++b)):=by
 unfold yn zpu zs4
 obtain ⟨L',rfl⟩:=Nat.exists_eq_add_of_le hL
 have es:yh 1 2 [V.sl 1 (zn .u8 a),V.sl 1 (zn .u8 b)]=[[V.sl 1 (zn .u8 a)],[V.sl 1 (zn .u8 b)]]:=rfl
 rw [es,show 100+L'=(97+L')+1+1+1 by omega]
 refine (show _=zcu (97+L'+1+1+1) [] [[V.sl 1 (zn .u8 a)],[V.sl 1 (zn .u8 b)]] ((2:Nat):Int) ((0:Nat):Int) (fun p3 p6 p7 p8=>zeQ (97+L'+1+1+1) _ (97+L'+1+1) p3 p6 p7 p8) (fun p3=>zdq (97+L'+1+1+1) p3 k) from rfl).trans ?_
 unfold zcu
 rw [zO (by decide),zfn (c:=[V.sl 1 (zn .u8 a)]) rfl,ztD (sz:=1) (es:=zn .u8 a) rfl,zf (by simp [zx,xi]; omega),zk,List.nil_append,zk,zaM (i:=0) (by omega)]
 refine (show _=zcu (97+L'+1+1+1) (zn .u8 a) [[V.sl 1 (zn .u8 a)],[V.sl 1 (zn .u8 b)]] ((2:Nat):Int) ((1:Nat):Int) (fun p3 p6 p7 p8=>zeQ (97+L'+1+1+1) _ (97+L'+1) p3 p6 p7 p8) (fun p3=>zdq (97+L'+1+1+1) p3 k) from rfl).trans ?_
 unfold zcu
 rw [zO (by decide),zfn (c:=[V.sl 1 (zn .u8 b)]) rfl,ztD (sz:=1) (es:=zn .u8 b) rfl,zf (by simp [zx,xi]; omega),zk,zcL,zk,zaM (i:=1) (by omega)]
 refine (show _=zcu (97+L'+1+1+1) (zn .u8 (a++b)) [[V.sl 1 (zn .u8 a)],[V.sl 1 (zn .u8 b)]] ((2:Nat):Int) ((2:Nat):Int) (fun p3 p6 p7 p8=>zeQ (97+L'+1+1+1) _ (97+L') p3 p6 p7 p8) (fun p3=>zdq (97+L'+1+1+1) p3 k) from rfl).trans ?_
 unfold zcu
 rw [xL (by decide)]
 unfold zdq
 exact Eq.trans rfl rfl
end
section
set_option linter.unusedVariables false
set_option linter.unusedSimpArgs false
def init0:List Int:=gk_sha_initial.map fun v=>match v with | .sc (.int _ n)=>n | _=>0
theorem zpe:init0.length=8:=rfl
def zw2:Nat→Nat→List Int→List Int→List Int
 | 0,_,_,h=>h
 | m+1,i,p,h=>zw2 m (i+1) p (zxw h ((p.drop (64 * i)).take 64))
theorem zvb:∀ (m i:Nat) (p h:List Int),h.length=8→(zw2 m i p h).length=8
 | 0,_,_,_,hh=>hh
 | m+1,i,p,h,hh=>by rw [zw2]; exact zvb m _ _ _ (zkg _ _)
theorem zpF (k:IntKind):∀ l:List Int,List.flatten (zn k l)=row k l
 | []=>rfl
 | x::l=>by
  have:=zpF k l
  simp only [zn,row] at this
  simp only [zn,row,List.map_cons,List.flatten_cons,this,List.singleton_append]
theorem zoh {p:List Int} {i:Nat} (h:64 * (i+1)≤p.length):((p.drop (64 * i)).take 64).length=64:=by
 rw [List.length_take,List.length_drop]; omega
theorem zCR {p:List Int} (hp:∀ x ∈ p,0≤x∧x≤255) (i:Nat):∀ x ∈ (p.drop (64 * i)).take 64,0≤x∧x≤255 :=
 fun x hx=>hp x (List.mem_of_mem_drop (List.mem_of_mem_take hx))
theorem zAH (p:List Int) (n:Nat):List.take ((zn .u8 p).length - n) (List.drop n (zn .u8 p))=zn .u8 (p.drop n):=by
 rw [zx3,List.take_of_length_le (by rw [zx,zx,List.length_drop]; omega)]
theorem zDI {β:Type} {L:Nat} (hL:100≤L) {p:List Int} (hp:∀ x ∈ p,0≤x∧x≤255) (hs:p.length≤1000000000) {N i:Nat} (hi:i < N) (hN:64 * (i+1)≤p.length) (b2:List V) {h:List Int} (hh:h.length=8) (kh:List (List V)→Int→Int→List V→List V→Option β) (kx:List V→List V→Option β):zfs zo yn yg L (zn .u8 p) (N:Int) (i:Int) b2 (row .u32 h) kh kx=kh (zn .u8 p) (N:Int) ((i+1:Nat):Int) b2 (row .u32 (zxw h ((p.drop (64 * i)).take 64))):=by
 unfold zfs
 have e9:IntKind.wrap .i64 ((64:Int) * (i:Int))=((64 * i:Nat):Int):=by rw [yy (by omega) (by omega)]; omega
 have e8:List.take 8 (row .u32 h)=row .u32 h:=List.take_of_length_le (by rw [xu]; omega)
 have ec:List.take 64 (row .u8 ((p.drop (64 * i)).take 64))=row .u8 ((p.drop (64 * i)).take 64):=List.take_of_length_le (by rw [xu,zoh hN]; omega)
 rw [zO (by omega:(i:Int) < (N:Int)),zf (by rw [xu]; omega),zk,e9,Int.toNat_natCast,zAH,zh2,zpF,e8,ec]
 rw [zf ⟨by omega,by rw [zx]; omega⟩,zf (by rw [zx,List.length_drop]; omega)]
 refine (zAr hL hh (zoh hN) (zCR hp i) _).trans ?_
 rw [zf ⟨by rw [xu,zkg],by rw [xu]; omega⟩,zk,zk,zbF (by rw [xu,xu,zkg,hh]),zaM (by omega)]
theorem zyT {β:Type} {L:Nat} (hL:100≤L) {p:List Int} (hp:∀ x ∈ p,0≤x∧x≤255) (hs:p.length≤1000000000) {N:Nat} (hN:64 * N≤p.length) (b2:List V) (kx:List V→List V→Option β):∀ (f m i:Nat) (h:List Int),h.length=8→i+m=N→m < f→zd2 zo yn yg L kx f (zn .u8 p) (N:Int) (i:Int) b2 (row .u32 h)=kx b2 (row .u32 (zw2 m i p h))
 | 0,m,i,h,_,_,hf=>by omega
 | f+1,0,i,h,hh,h1,h2=>by
  unfold zd2 zfs
  rw [xL (by omega)]; exact Eq.trans rfl rfl
 | f+1,m+1,i,h,hh,h1,h2=>by
  unfold zd2
  rw [zDI hL hp hs (by omega) (by omega) b2 hh]
  exact zyT hL hp hs hN b2 kx f m (i+1) _ (zkg _ _) (by omega) (by omega)
theorem zB8 {β:Type} {L:Nat} (hL:100≤L) {p:List Int} (hp:∀ x ∈ p,0≤x∧x≤255) (hs:p.length≤1000000000) {i:Nat} (hN:64 * (i+1)≤p.length) (b2:List V) {h:List Int} (hh:h.length=8) (kh:List (List V)→Int→List V→List V→Option β) (kx:List V→List V→Option β):zeo zj xe ye L (zn .u8 p) ((64 * i:Nat):Int) b2 (row .u32 h) kh kx=kh (zn .u8 p) ((64 * (i+1):Nat):Int) b2 (row .u32 (zxw h ((p.drop (64 * i)).take 64))):=by
 unfold zeo
 have e9:IntKind.wrap .i64 (((64 * i:Nat):Int)+(64:Int))=((64 * (i+1):Nat):Int):=by rw [yy (by omega) (by omega)]; omega
 have e8:List.take 8 (row .u32 h)=row .u32 h:=List.take_of_length_le (by rw [xu]; omega)
 have em:min (zn .u8 (p.drop (64 * i))).length 64=64:=by rw [zx,List.length_drop]; omega
 have er:xn (List.replicate 64 (V.sc (.int .u8 (0:Int)))) 0 (row .u8 ((p.drop (64 * i)).take 64))=row .u8 ((p.drop (64 * i)).take 64):=zbF (by rw [xu,zoh hN,List.length_replicate])
 have ec:List.take 64 (row .u8 ((p.drop (64 * i)).take 64))=row .u8 ((p.drop (64 * i)).take 64):=List.take_of_length_le (by rw [xu,zoh hN]; omega)
 rw [zk,e9,zO (by rw [zx]; omega),Int.toNat_natCast,zAH,em,zh2,zpF,er,e8,zk,ec]
 rw [zf ⟨by omega,by rw [zx]; omega⟩,zf (by rw [xu]; omega),zf (by rw [xu,zoh hN]; omega)]
 refine (zzD hL hh (zoh hN) (zCR hp i) _).trans ?_
 rw [zf ⟨by rw [xu,zkg],by rw [xu]; omega⟩,zk,zk,zbF (by rw [xu,xu,zkg,hh])]
theorem zxZ {β:Type} {L:Nat} (hL:100≤L) {p:List Int} (hp:∀ x ∈ p,0≤x∧x≤255) (hs:p.length≤1000000000) {N:Nat} (hN:64 * N=p.length) (b2:List V) (kx:List V→List V→Option β):∀ (f m i:Nat) (h:List Int),h.length=8→i+m=N→m < f→zc9 zj xe ye L kx f (zn .u8 p) ((64 * i:Nat):Int) b2 (row .u32 h)=kx b2 (row .u32 (zw2 m i p h))
 | 0,m,i,h,_,_,hf=>by omega
 | f+1,0,i,h,hh,h1,h2=>by
  unfold zc9 zeo
  have e9:IntKind.wrap .i64 (((64 * i:Nat):Int)+(64:Int))=((64 * (i+1):Nat):Int):=by rw [yy (by omega) (by omega)]; omega
  rw [zk,e9,xL (by rw [zx]; omega)]; exact Eq.trans rfl rfl
 | f+1,m+1,i,h,hh,h1,h2=>by
  unfold zc9
  rw [zB8 hL hp hs (by omega) b2 hh]
  exact zxZ hL hp hs hN b2 kx f m (i+1) _ (zkg _ _) (by omega) (by omega)
def ob (h:List Int) (i:Nat):Int:=IntKind.wrap .u8 (zb9 .u32 (h.getD (i / 4) 0) ((24 - i % 4 * 8:Nat):Int))
def zqo (h:List Int):List Int:=(List.range 32).map (ob h)
theorem zrH (h:List Int):(zqo h).length=32:=by simp [zqo]
theorem zC5 (h:List Int) {i:Nat} (hi:i < 32):(zqo h).getD i 0=ob h i:=by
 simp [zqo,List.getD_eq_getElem?_getD,hi]
theorem zEg (h:List Int):∀ x ∈ zqo h,0≤x∧x≤255:=by
 intro x hx
 rw [zqo,List.mem_map] at hx
 obtain ⟨i,_,rfl⟩:=hx
 exact zrV _
theorem zDN {l m:List Int} (h:l.length=m.length) (hg:∀ i,i < l.length→l.getD i 0=m.getD i 0):l=m:=by
 apply List.ext_getElem h
 intro i h1 h2
 have:=hg i h1
 rwa [List.getD_eq_getElem?_getD,List.getD_eq_getElem?_getD,List.getElem?_eq_getElem h1,List.getElem?_eq_getElem h2] at this
theorem zAA {h z:List Int} (hz:z.length=32) (hg:∀ j,j < 32→z.getD j 0=ob h j):z=zqo h :=
 zDN (by rw [hz,zrH]) fun i hi=>by rw [zC5 h (by omega)]; exact hg i (by omega)
theorem zB0 {β:Type} (L:Nat) {i:Nat} (hi:i < 32) (b2:List V) {h z:List Int} (hh:h.length=8) (hz:z.length=32) (kh:Int→List V→List V→List V→Option β) (kx:List V→List V→Option β):zew zo yn yg L (i:Int) b2 (row .u32 h) (row .u8 z) kh kx=kh ((i+1:Nat):Int) b2 (row .u32 h) (row .u8 (z.set i (ob h i))):=by
 unfold zew
 have e1:IntKind.wrap .i64 (Int.tdiv (i:Int) (4:Int))=((i / 4:Nat):Int):=by
  rw [show Int.tdiv (i:Int) (4:Int)=((i / 4:Nat):Int) from (Int.ofNat_tdiv i 4).symm,yy (by omega) (by omega)]
 have e2:Int.tmod (i:Int) (4:Int)=((i % 4:Nat):Int):=(Int.ofNat_tmod i 4).symm
 have e3:IntKind.wrap .i64 (((i % 4:Nat):Int) * (8:Int))=((i % 4 * 8:Nat):Int):=by rw [yy (by omega) (by omega)]; omega
 have e4:IntKind.wrap .i64 ((24:Int) - ((i % 4 * 8:Nat):Int))=((24 - i % 4 * 8:Nat):Int):=by rw [yy (by omega) (by omega)]; omega
 have c1:0≤((i / 4:Nat):Int)∧((i / 4:Nat):Int) < ((8:Nat):Int):=by omega
 have c2:0≤(i:Int)∧(i:Int) < ((32:Nat):Int):=by omega
 have c3:0≤((24 - i % 4 * 8:Nat):Int):=by omega
 have cl:True∧i+1≤32:=⟨trivial,by omega⟩
 rw [zO (by omega:(i:Int) < 32)]
 simp only [zk,e1,e2,e3,e4,zf c1,zf c2,zf c3,Int.toNat_natCast,Nat.mul_one,Nat.zero_add,xK (show i / 4 < h.length by omega),xu,hz,zfB (show i < z.length by omega),zaM (show i≤1000000000 by omega)]
 rw [zf cl]
 exact Eq.trans rfl rfl
theorem zyc {β:Type} (L:Nat) (b2:List V) {h:List Int} (hh:h.length=8) (kx:List V→List V→Option β):∀ (f m i:Nat) (z:List Int),z.length=32→i+m=32→m < f→(∀ j,j < i→z.getD j 0=ob h j)→zc7 zo yn yg L kx f (i:Int) b2 (row .u32 h) (row .u8 z)=kx b2 (row .u8 (zqo h))
 | 0,m,i,z,_,_,hf,_=>by omega
 | f+1,0,i,z,hz,h1,h2,hg=>by
  unfold zc7 zew
  rw [xL (by omega),zAA hz fun j hj=>hg j (by omega)]
 | f+1,m+1,i,z,hz,h1,h2,hg=>by
  unfold zc7
  rw [zB0 L (by omega) b2 hh hz]
  refine zyc L b2 hh kx f m (i+1) _ (by simpa using hz) (by omega) (by omega) fun j hj=>?_
  by_cases he:i=j
  ·subst he; exact zeN (by omega) _
  ·rw [getD_set_ne he]; exact hg j (by omega)
theorem zFi (v:Int):zb9 .u32 v ((0:Nat):Int)=v:=by
 unfold zb9
 rw [show min (Int.toNat ((0:Nat):Int)) (IntKind.bits .u32)=0 from rfl,show (2:Int) ^ 0=1 from rfl,Int.fdiv_one]
theorem zBk {β:Type} (L:Nat) {i:Nat} (hi:i < 8) (b2:List V) {h z:List Int} (hh:h.length=8) (hz:z.length=32) (kh:List V→Int→List V→List V→Option β) (kx:List V→List V→Option β):zdm zj xe ye L (row .u32 h) (i:Int) b2 (row .u8 z) kh kx=kh (row .u32 h) ((i+1:Nat):Int) b2 (row .u8 ((((z.set (4 * i) (ob h (4 * i))).set (4 * i+1) (ob h (4 * i+1))).set (4 * i+2) (ob h (4 * i+2))).set (4 * i+3) (ob h (4 * i+3)))):=by
 unfold zdm
 have e4:IntKind.wrap .i64 ((4:Int) * (i:Int))=((4 * i:Nat):Int):=zBF (by omega)
 have e1:IntKind.wrap .i64 (((4 * i:Nat):Int)+(1:Int))=((4 * i+1:Nat):Int):=zuR (b:=1) (by omega) (by omega)
 have e2:IntKind.wrap .i64 (((4 * i:Nat):Int)+(2:Int))=((4 * i+2:Nat):Int):=zuR (b:=2) (by omega) (by omega)
 have e3:IntKind.wrap .i64 (((4 * i:Nat):Int)+(3:Int))=((4 * i+3:Nat):Int):=zuR (b:=3) (by omega) (by omega)
 have c0:0≤(i:Int)∧(i:Int) < ((8:Nat):Int):=by omega
 have c4:0≤((4 * i:Nat):Int)∧((4 * i:Nat):Int) < ((32:Nat):Int):=by omega
 have c1:0≤((4 * i+1:Nat):Int)∧((4 * i+1:Nat):Int) < ((32:Nat):Int):=by omega
 have c2:0≤((4 * i+2:Nat):Int)∧((4 * i+2:Nat):Int) < ((32:Nat):Int):=by omega
 have c3:0≤((4 * i+3:Nat):Int)∧((4 * i+3:Nat):Int) < ((32:Nat):Int):=by omega
 have l0:True∧4 * i+1≤32:=⟨trivial,by omega⟩
 have l1:True∧4 * i+1+1≤32:=⟨trivial,by omega⟩
 have l2:True∧4 * i+2+1≤32:=⟨trivial,by omega⟩
 have l3:True∧4 * i+3+1≤32:=⟨trivial,by omega⟩
 have o0:IntKind.wrap .u8 (zb9 .u32 (h.getD i 0) (24:Int))=ob h (4 * i):=by
  unfold ob; rw [show 4 * i / 4=i by omega,show 24 - 4 * i % 4 * 8=24 by omega]; exact Eq.trans rfl rfl
 have o1:IntKind.wrap .u8 (zb9 .u32 (h.getD i 0) (16:Int))=ob h (4 * i+1):=by
  unfold ob; rw [show (4 * i+1) / 4=i by omega,show 24 - (4 * i+1) % 4 * 8=16 by omega]; exact Eq.trans rfl rfl
 have o2:IntKind.wrap .u8 (zb9 .u32 (h.getD i 0) (8:Int))=ob h (4 * i+2):=by
  unfold ob; rw [show (4 * i+2) / 4=i by omega,show 24 - (4 * i+2) % 4 * 8=8 by omega]; exact Eq.trans rfl rfl
 have o3:IntKind.wrap .u8 (h.getD i 0)=ob h (4 * i+3):=by
  unfold ob; rw [show (4 * i+3) / 4=i by omega,show 24 - (4 * i+3) % 4 * 8=0 by omega,zFi]
 rw [zO (by omega:(i:Int) < 8)]
 simp only [zk,e4,e1,e2,e3,zf c0,zf c4,zf c1,zf c2,zf c3,Int.toNat_natCast,Nat.mul_one,Nat.zero_add,xK (show i < h.length by omega),o0,o1,o2,o3,xu]
 rw [zfB (by omega),zfB (by rw [List.length_set]; omega),zfB (by rw [List.length_set,List.length_set]; omega),zfB (by rw [List.length_set,List.length_set,List.length_set]; omega)]
 simp only [xu,List.length_set,hz,zaM (show i≤1000000000 by omega)]
 rw [zf l0,zf l1,zf l2,zf l3]
theorem zwu {β:Type} (L:Nat) (b2:List V) {h:List Int} (hh:h.length=8) (kx:List V→List V→Option β):∀ (f m i:Nat) (z:List Int),z.length=32→i+m=8→m < f→(∀ j,j < 4 * i→z.getD j 0=ob h j)→zb7 zj xe ye L kx f (row .u32 h) (i:Int) b2 (row .u8 z)=kx b2 (row .u8 (zqo h))
 | 0,m,i,z,_,_,hf,_=>by omega
 | f+1,0,i,z,hz,h1,h2,hg=>by
  unfold zb7 zdm
  rw [xL (by omega),zAA hz fun j hj=>hg j (by omega)]
 | f+1,m+1,i,z,hz,h1,h2,hg=>by
  unfold zb7
  rw [zBk L (by omega) b2 hh hz]
  refine zwu L b2 hh kx f m (i+1) _ (by simpa using hz) (by omega) (by omega) fun j hj=>?_
  by_cases h3:4 * i+3=j
  ·subst h3; exact zeN (by simp; omega) _
  rw [getD_set_ne h3]
  by_cases h2:4 * i+2=j
  ·subst h2; exact zeN (by simp; omega) _
  rw [getD_set_ne h2]
  by_cases h1:4 * i+1=j
  ·subst h1; exact zeN (by simp; omega) _
  rw [getD_set_ne h1]
  by_cases h0:4 * i=j
  ·subst h0; exact zeN (by omega) _
  rw [getD_set_ne h0]
  exact hg j (by omega)
def ztg (l:List Int):List Int:=zqo (zw2 ((l++zeZ l.length).length / 64) 0 (l++zeZ l.length) init0)
theorem zuT (l:List Int):(ztg l).length=32:=zrH _
theorem zEc (l:List Int):∀ x ∈ ztg l,0≤x∧x≤255:=zEg _
theorem zA1 (l:List Int):64 * ((l++zeZ l.length).length / 64)=(l++zeZ l.length).length:=by
 have:=zB5 l.length
 rw [List.length_append,zo2]; omega
theorem zB6 {l:List Int} (h:∀ x ∈ l,0≤x∧x≤255):∀ x ∈ l++zeZ l.length,0≤x∧x≤255:=by
 intro x hx
 rcases List.mem_append.1 hx with hx | hx
 ·exact h x hx
 ·exact zEa _ x hx
theorem zAP {β:Type} {w:List Int} (hw:w.length=32) (z:List Int) (hz:z.length=32) (k:List V→Option β) :
  chk (0+32≤(List.length (row .u8 w))) (chk ((List.length (List.take 32 (row .u8 w)))=32∧0+32≤(List.length (row .u8 z))) (
   lt (xn (row .u8 z) 0 (List.take 32 (row .u8 w))) fun r41=>chk (0=0∧(List.length r41)=32∧32≠0) (k r41)))=k (row .u8 w):=by
 have e:List.take 32 (row .u8 w)=row .u8 w:=List.take_of_length_le (by rw [xu]; omega)
 rw [zk,e,zbF (by rw [xu,xu]; omega)]
 rw [zf (by rw [xu]; omega),zf ⟨by rw [xu]; omega,by rw [xu]; omega⟩,zf ⟨rfl,by rw [xu]; omega,by decide⟩]
theorem zEQ {β:Type} {L:Nat} {l:List Int} (hL:l.length+200≤L) (hl:l.length≤100000000) (hb:∀ x ∈ l,0≤x∧x≤255) (k:List V→Option β):za8 β L (zn .u8 l) k=k (row .u8 (ztg l)):=by
 unfold za8 zpL ztt
 have z64:=zvY l.length
 have hm:=zA1 l
 have hlen:(l++zeZ l.length).length=l.length+(9+zs l.length):=by rw [List.length_append,zo2]
 have e0:IntKind.wrap .u64 (((zn .u8 l).length:Nat):Int)=(l.length:Int):=by rw [zx,zds (by omega) (by omega)]
 rw [zk,e0]
 refine (zE7 (by omega) hl _ _).trans ?_
 refine (zCJ (by omega) (by omega) (by rw [zo2]; omega) _).trans ?_
 have e1:xn [V.sc (.int .u32 (0:Int)),V.sc (.int .u32 (0:Int)),V.sc (.int .u32 (0:Int)),V.sc (.int .u32 (0:Int)),V.sc (.int .u32 (0:Int)),V.sc (.int .u32 (0:Int)),V.sc (.int .u32 (0:Int)),V.sc (.int .u32 (0:Int))] 0 (List.take 8 gk_sha_initial)=row .u32 init0:=(zbF rfl).trans rfl
 have e2:IntKind.wrap .i64 (Int.tdiv (((zn .u8 (l++zeZ l.length)).length:Nat):Int) (64:Int))=(((l++zeZ l.length).length / 64:Nat):Int):=by
  rw [zx,show Int.tdiv (((l++zeZ l.length).length:Nat):Int) (64:Int)=(((l++zeZ l.length).length / 64:Nat):Int) from (Int.ofNat_tdiv _ 64).symm,yy (by omega) (by omega)]
 rw [zf ⟨rfl,by decide⟩,zk,e1,zk,e2]
 refine (zyT (by omega) (zB6 hb) (by omega) (by omega) _ _ L ((l++zeZ l.length).length / 64) 0 _ zpe (by omega) (by omega)).trans ?_
 unfold zfD zjo
 rw [zqJ]
 refine (zyc L _ (zvb _ _ _ _ zpe) _ L 32 0 _ List.length_replicate rfl (by omega) (fun j hj=>by omega)).trans ?_
 unfold zho
 exact zAP (zrH _) _ List.length_replicate k
theorem zBu {β:Type} (L:Nat) (k:List V→Option β):xe β L k=k (row .u32 init0):=by
 unfold xe zk3
 rw [zk]
 exact (zf ⟨rfl,rfl,by decide⟩ _).trans rfl
theorem zDZ {β:Type} {L:Nat} {l:List Int} (hL:l.length+200≤L) (hl:l.length≤100000000) (hb:∀ x ∈ l,0≤x∧x≤255) (k:List V→Option β):zak β L (zn .u8 l) k=k (row .u8 (ztg l)):=by
 unfold zak zms zqf
 have z64:=zvY l.length
 have hm:=zA1 l
 have hlen:(l++zeZ l.length).length=l.length+(9+zs l.length):=by rw [List.length_append,zo2]
 have e0:IntKind.wrap .u64 (((zn .u8 l).length:Nat):Int)=(l.length:Int):=by rw [zx,zds (by omega) (by omega)]
 rw [zf (by simp [zx,xi]; omega),zk,List.nil_append,zk,e0]
 refine (zEF (by omega) hl _).trans ?_
 rw [zf (by simp [zx,zo2,xi]; omega),zk,zcL]
 refine (zBu L _).trans ?_
 have e1:xn [V.sc (.int .u32 (0:Int)),V.sc (.int .u32 (0:Int)),V.sc (.int .u32 (0:Int)),V.sc (.int .u32 (0:Int)),V.sc (.int .u32 (0:Int)),V.sc (.int .u32 (0:Int)),V.sc (.int .u32 (0:Int)),V.sc (.int .u32 (0:Int))] 0 (row .u32 init0)=row .u32 init0:=zbF rfl
 rw [zf ⟨rfl,by decide⟩,zk,e1]
 refine (zxZ (by omega) (zB6 hb) (by omega) hm _ _ L ((l++zeZ l.length).length / 64) 0 _ zpe (by omega) (by omega)).trans ?_
 unfold zeH zhl
 have hb8:=zvb ((l++zeZ l.length).length / 64) 0 (l++zeZ l.length) init0 zpe
 rw [zf (by rw [xu,hb8]; omega),List.take_of_length_le (by rw [xu,hb8]; omega),zqJ]
 refine (zwu L _ hb8 _ L 8 0 _ List.length_replicate rfl (by omega) (fun j hj=>by omega)).trans ?_
 unfold zgo
 exact zAP (zrH _) _ List.length_replicate k
def zFZ (l:List Int):List Int:=ztg (ztg l)
theorem zDQ {w:List Int} (hw:w.length=32):xn (List.replicate 32 (V.sc (.int .u8 (0:Int)))) 0 (row .u8 w)=row .u8 w:=zbF (by rw [xu,hw,List.length_replicate])
end
section
set_option linter.unusedVariables false
set_option linter.unusedSimpArgs false
set_option maxRecDepth 100000
variable {β:Type}
def Byt (l:List Int):Prop:=∀ x ∈ l,0≤x∧x≤255
theorem Byt.app {a b:List Int} (ha:Byt a) (hb:Byt b):Byt (a++b):=fun x hx=>(List.mem_append.1 hx).elim (ha x) (hb x)
theorem Byt.sub {a b:List Int} (hb:Byt b) (h:∀ x ∈ a,x ∈ b):Byt a:=fun x hx=>hb x (h x hx)
theorem Byt.take {a:List Int} (ha:Byt a) (n:Nat):Byt (a.take n):=ha.sub fun x hx=>List.mem_of_mem_take hx
theorem Byt.drop {a:List Int} (ha:Byt a) (n:Nat):Byt (a.drop n):=ha.sub fun x hx=>List.mem_of_mem_drop hx
theorem Byt.getD {a:List Int} (ha:Byt a) (i:Nat):0≤a.getD i 0∧a.getD i 0≤255:=zeM ha i
theorem Byt.nil:Byt []:=by intro x hx; cases hx
theorem zCd {l:List Int} (h:∀ x ∈ l,(Lit.int .u8 x).wf=true):Byt l:=fun x hx=>zFo (h x hx)
theorem zuS (n:Int):0≤IntKind.wrap .u8 n∧IntKind.wrap .u8 n≤255:=by
 show 0≤n % (2 ^ 8:Nat)∧n % (2 ^ 8:Nat)≤255
 omega
theorem zti (n:Int):IntKind.wrap .u8 n=n % 256:=rfl
def le4 (j:List Int) (p:Nat):Int:=j.getD p 0+256 * j.getD (p+1) 0+65536 * j.getD (p+2) 0+16777216 * j.getD (p+3) 0
theorem zwI {j:List Int} (h:Byt j) (p:Nat):0≤le4 j p∧le4 j p≤4294967295:=by
 have h0:=h.getD p; have h1:=h.getD (p+1); have h2:=h.getD (p+2); have h3:=h.getD (p+3)
 unfold le4; omega
theorem zFO {l:List Int} {i:Nat} (h:i < l.length):l[i]=l.getD i 0:=by simp [List.getD_eq_getElem?_getD,h]
theorem ztJ {l:List Int} {i:Nat} (h:i < l.length):(zn .u8 l)[i]?=some [.sc (.int .u8 (l.getD i 0))]:=by rw [zzj _ h,zFO h]
theorem cI8 (n:Int) (k:Int→Option β):cI .u8 [V.sc (.int .u8 n)] 0 k=k n:=zqC rfl k
theorem zxI (k:IntKind) (a b:Int):ior k a b=ior k b a:=by unfold ior; rw [BitVec.or_comm]
theorem in1 {a b:Int} (ha:0≤a∧a≤255):ior .u32 0 (zbO .u32 a (0:Int))=a:=by
 have e1:zbO .u32 a (0:Int)=a * 2 ^ 0:=zmk 0 (by decide) ha.1 (by omega)
 rw [e1,zxI,zoi (n:=0) ha.1 (by omega) (by omega) (by omega)]; omega
theorem in2 {a x:Int} (n:Nat) (hn:n≤24) (ha:0≤a∧a≤255) (hx:0≤x) (hx2:x < 2 ^ n) (hs:a * 2 ^ n+x < 4294967296):ior .u32 x (zbO .u32 a (n:Int))=a * 2 ^ n+x:=by
 have e1:zbO .u32 a (n:Int)=a * 2 ^ n:=zmk n (by omega) ha.1 (by omega)
 rw [e1,zxI,zoi (n:=n) ha.1 hx hx2 hs]
theorem zAR (L:Nat) (j:List Int) {a w:Nat} (ha:a≤j.length) (hj:j.length≤100000000) (hw:w≤100) (k:Int→Option β):zg β L (zn .u8 j) (a:Int) (w:Int) k=if a+w≤j.length then k 0 else k 1:=by
 unfold zg zo5
 rw [xL (by omega),zx,xL (by omega),yy (by omega) (by omega),zk,zw6]
 by_cases h:a+w≤j.length
 ·rw [if_neg (by omega),if_pos h]
 ·rw [if_pos (by omega),if_neg h]
theorem zCf (L:Nat) (j:List Int) (hj:j.length≤100000000) {a i:Nat} (h:a+i < j.length) (hi:i < 4) (acc:Int) (kh:List (List V)→Int→Int→Int→Int→Int→Option β) (kx:Int→Int→Int→Option β) (hb:Byt j) :
  zbu zg L (zn .u8 j) (a:Int) 4 acc 4 (i:Int) kh kx=kh (zn .u8 j) a 4 (ior .u32 acc (zbO .u32 (j.getD (a+i) 0) ((8 * i:Nat):Int))) 4 ((i+1:Nat):Int):=by
 have w1:IntKind.wrap .i64 ((a:Int)+i)=((a+i:Nat):Int):=by rw [yy (by omega) (by omega)]; omega
 have w2:IntKind.wrap .i64 ((8:Int) * i)=((8 * i:Nat):Int):=by rw [yy (by omega) (by omega)]; omega
 have w3:IntKind.wrap .i64 ((i:Int)+1)=((i+1:Nat):Int):=by rw [yy (by omega) (by omega)]; omega
 have hg:=hb.getD (a+i)
 unfold zbu
 rw [zO (by omega),w1,zk,zfn (ztJ h),cI8,zdn hg.1 (by omega),zk,w2,zk,zf (by omega),zk,zk,w3,zk]
theorem zpI (L n:Nat) (j:List Int) (hj:j.length≤100000000) {a i:Nat} (h:a+i < j.length) (hi:i < 4) (acc:Int) (kx:Int→Int→Int→Option β) (hb:Byt j) :
  zU zg L kx (n+1) (zn .u8 j) (a:Int) 4 acc 4 (i:Int)=zU zg L kx n (zn .u8 j) a 4 (ior .u32 acc (zbO .u32 (j.getD (a+i) 0) ((8 * i:Nat):Int))) 4 ((i+1:Nat):Int):=by
 rw [zU]
 exact zCf L j hj h hi acc _ _ hb
theorem zCY (L n:Nat) (j:List Int) (a:Int) (acc:Int) (kx:Int→Int→Int→Option β) :
  zU zg L kx (n+1) (zn .u8 j) a 4 acc 4 4=kx a 4 acc:=by
 rw [zU]
 unfold zbu
 rw [xL (by omega)]
theorem zCE {L:Nat} (hL:20≤L) {j:List Int} (hb:Byt j) (hj:j.length≤100000000) {a:Nat} (ha:a≤j.length) (k:Int→Int→Int→Option β):y7 β L (zn .u8 j) (a:Int) k=if a+4≤j.length then k (le4 j a) ((a+4:Nat):Int) 0 else k 0 0 1:=by
 obtain ⟨m,rfl⟩:∃ m,L=m+5:=⟨L - 5,by omega⟩
 unfold y7 zp8 yG zfc zhv
 have rm:=zAR (m+5) j (a:=a) (w:=4) ha hj (by omega) (β:=β)
 rw [show ((4:Nat):Int)=4 from rfl] at rm
 rw [rm]
 by_cases h:a+4≤j.length
 ·have h0:=hb.getD a; have h1:=hb.getD (a+1); have h2:=hb.getD (a+2); have h3:=hb.getD (a+3)
  rw [if_pos h,if_pos h,zdV,if_pos rfl]
  have q0:ior .u32 0 (zbO .u32 (j.getD (a+0) 0) ((8 * 0:Nat):Int))=j.getD a 0:=in1 (b:=0) h0
  have q1:ior .u32 (j.getD a 0) (zbO .u32 (j.getD (a+1) 0) ((8 * 1:Nat):Int))=j.getD (a+1) 0 * 2 ^ 8+j.getD a 0:=in2 8 (by omega) h1 h0.1 (by omega) (by omega)
  have q2:ior .u32 (j.getD (a+1) 0 * 2 ^ 8+j.getD a 0) (zbO .u32 (j.getD (a+2) 0) ((8 * 2:Nat):Int))=j.getD (a+2) 0 * 2 ^ 16+(j.getD (a+1) 0 * 2 ^ 8+j.getD a 0):=in2 16 (by omega) h2 (by omega) (by omega) (by omega)
  have q3:ior .u32 (j.getD (a+2) 0 * 2 ^ 16+(j.getD (a+1) 0 * 2 ^ 8+j.getD a 0)) (zbO .u32 (j.getD (a+3) 0) ((8 * 3:Nat):Int))=j.getD (a+3) 0 * 2 ^ 24+(j.getD (a+2) 0 * 2 ^ 16+(j.getD (a+1) 0 * 2 ^ 8+j.getD a 0)):=in2 24 (by omega) h3 (by omega) (by omega) (by omega)
  refine (zpI (m+5) (m+4) j hj (a:=a) (i:=0) (by omega) (by omega) 0 _ hb).trans ?_
  rw [q0]
  refine (zpI (m+5) (m+3) j hj (a:=a) (i:=1) (by omega) (by omega) _ _ hb).trans ?_
  rw [q1]
  refine (zpI (m+5) (m+2) j hj (a:=a) (i:=2) (by omega) (by omega) _ _ hb).trans ?_
  rw [q2]
  refine (zpI (m+5) (m+1) j hj (a:=a) (i:=3) (by omega) (by omega) _ _ hb).trans ?_
  rw [q3]
  refine (zCY (m+5) m j _ _ _).trans ?_
  unfold zdL
  rw [yy (by omega) (by omega),zk]
  congr 1
  unfold le4; omega
 ·rw [if_neg h,if_neg h,zdV,if_neg (by decide)]
theorem zAJ (L n:Nat) (j:List Int) (a:Int) (kx:Int→Int→Int→Option β) {acc i:Int}:zaU zg L kx (n+2) (zn .u8 j) a 1 acc 1 i=zbE zg L (zn .u8 j) a 1 acc 1 i (fun p0 p1 p2 p10 p19 p20=>zaU zg L kx (n+1) p0 p1 p2 p10 p19 p20) kx:=by rw [zaU]
theorem zFt {L:Nat} (hL:20≤L) {j:List Int} (hb:Byt j) (hj:j.length≤100000000) {a:Nat} (ha:a≤j.length) (k:Int→Int→Int→Option β):zaF β L (zn .u8 j) (a:Int) k=if a+1≤j.length then k (j.getD a 0) ((a+1:Nat):Int) 0 else k 0 0 1:=by
 obtain ⟨m,rfl⟩:∃ m,L=m+5:=⟨L - 5,by omega⟩
 unfold zaF zrf zJ zfu zig
 have rm:=zAR (m+5) j (a:=a) (w:=1) ha hj (by omega) (β:=β)
 rw [show ((1:Nat):Int)=1 from rfl] at rm
 rw [rm]
 by_cases h:a+1≤j.length
 ·have h0:=hb.getD a
  rw [if_pos h,if_pos h,zdV,if_pos rfl]
  refine (zAJ (m+5) (m+3) j a _).trans ?_
  unfold zbE
  have w1:IntKind.wrap .i64 ((a:Int)+0)=(a:Int):=by rw [yy (by omega) (by omega)]; omega
  have w2:IntKind.wrap .i64 ((8:Int) * 0)=0:=by decide
  have w3:IntKind.wrap .i64 ((0:Int)+1)=1:=by decide
  have e1:zbO .u8 (j.getD a 0) 0=j.getD a 0:=by
   show IntKind.wrap .u8 (j.getD a 0 * 2 ^ (min (Int.toNat 0) 8))=_
   rw [zti]
   show (j.getD a 0 * 1) % 256=_
   omega
  have e2:ior .u8 0 (j.getD a 0)=j.getD a 0:=by
   obtain ⟨x,hx⟩:=Int.eq_ofNat_of_zero_le h0.1
   rw [hx] at h0 ⊢
   show IntKind.wrap .u8 (((BitVec.ofInt 8 0 ||| BitVec.ofInt 8 (x:Int)).toNat:Nat):Int)=x
   have q:(BitVec.ofInt 8 (x:Int)).toNat=x:=by
    rw [BitVec.toNat_ofInt]
    show (((x:Nat):Int) % ((2 ^ 8:Nat):Int)).toNat=_
    rw [← Int.natCast_emod,Int.toNat_natCast,Nat.mod_eq_of_lt (by omega)]
   have z:(BitVec.ofInt 8 0).toNat=0:=by decide
   rw [BitVec.toNat_or,q,z,Nat.zero_or,zti]; omega
  rw [zO (by decide),w1,zk,zfn (ztJ (by omega)),cI8,w2,zk,zf (by decide),e1,zk,e2,zk,w3,zk]
  refine (zAJ (m+5) (m+2) j a _).trans ?_
  unfold zbE zeg
  rw [xL (by decide)]
  show lt (IntKind.wrap .i64 ((a:Int)+1)) (fun x8=>k (j.getD a 0) x8 0)=_
  rw [yy (by omega) (by omega),zk]
  exact Eq.trans rfl rfl
 ·rw [if_neg h,if_neg h,zdV,if_neg (by decide)]
end
section
set_option linter.unusedVariables false
set_option linter.unusedSimpArgs false
set_option maxRecDepth 100000
variable {β:Type}
theorem zEN {x y:Int} (h0:0≤x) (h1:x < 16777216) (b0:0≤y) (b1:y≤255):ior .u64 (zbO .u64 x (8:Int)) y=x * 256+y:=by
 obtain ⟨a,rfl⟩:=Int.eq_ofNat_of_zero_le h0
 obtain ⟨b,rfl⟩:=Int.eq_ofNat_of_zero_le b0
 have e1:zbO .u64 (a:Int) 8=((a * 2 ^ 8:Nat):Int):=by
  show IntKind.wrap .u64 ((a:Int) * 2 ^ (min (Int.toNat 8) 64))=_
  have:((a:Int) * 2 ^ (min (Int.toNat 8) 64))=((a * 2 ^ 8:Nat):Int):=by
   show ((a:Int) * 256)=_
   omega
  rw [this,zds (by omega) (by omega)]
 rw [e1]
 show IntKind.wrap .u64 (((BitVec.ofInt 64 ((a * 2 ^ 8:Nat):Int) ||| BitVec.ofInt 64 (b:Int)).toNat:Nat):Int)=_
 have q1:(BitVec.ofInt 64 ((a * 2 ^ 8:Nat):Int)).toNat=a * 2 ^ 8:=by
  rw [BitVec.toNat_ofInt]
  show (((a * 2 ^ 8:Nat):Int) % ((2 ^ 64:Nat):Int)).toNat=_
  rw [← Int.natCast_emod,Int.toNat_natCast,Nat.mod_eq_of_lt (by omega)]
 have q2:(BitVec.ofInt 64 (b:Int)).toNat=b:=by
  rw [BitVec.toNat_ofInt]
  show ((b:Int) % ((2 ^ 64:Nat):Int)).toNat=_
  rw [← Int.natCast_emod,Int.toNat_natCast,Nat.mod_eq_of_lt (by omega)]
 have hb:b < 2 ^ 8:=by omega
 rw [BitVec.toNat_or,q1,q2,← Nat.shiftLeft_eq,← Nat.shiftLeft_add_eq_or_of_lt hb,Nat.shiftLeft_eq,zds (by omega) (by omega)]
 omega
theorem zrn (L n:Nat) (j:List Int) (hj:j.length≤100000000) {a i:Nat} (h:a+i < j.length) (hi:i < 4) (acc:Int) (h0:0≤acc) (h1:acc < 16777216) (kx:Int→Int→Int→Option β) (hb:Byt j) :
  zat L kx (n+1) (zn .u8 j) (a:Int) 4 acc (i:Int)=zat L kx n (zn .u8 j) a 4 (acc * 256+j.getD (a+i) 0) ((i:Int) - 1):=by
 have w1:IntKind.wrap .i64 ((a:Int)+i)=((a+i:Nat):Int):=by rw [yy (by omega) (by omega)]; omega
 have w3:IntKind.wrap .i64 ((i:Int) - 1)=(i:Int) - 1:=yy (by omega) (by omega)
 have hg:=hb.getD (a+i)
 rw [zat]
 unfold zdZ
 rw [zO (by omega),zk,w1,zk,zfn (ztJ h),cI8,zds hg.1 (by omega),zk,zEN h0 h1 hg.1 hg.2,zk,w3,zk]
theorem zEv (L n:Nat) (j:List Int) (a:Int) (acc:Int) (kx:Int→Int→Int→Option β) :
  zat L kx (n+1) (zn .u8 j) a 4 acc (-1)=kx a 4 acc:=by
 rw [zat]
 unfold zdZ
 rw [xL (by omega)]
theorem zAT {L:Nat} (hL:20≤L) {j:List Int} (hb:Byt j) (hj:j.length≤100000000) {a:Nat} (ha:a≤j.length) (k:Int→Int→Int→Option β):z8 β L (zn .u8 j) (a:Int) k=if a+4≤j.length then k (le4 j a) ((a+4:Nat):Int) 0 else k 0 0 1:=by
 obtain ⟨m,rfl⟩:∃ m,L=m+5:=⟨L - 5,by omega⟩
 unfold z8 zpR zS ziP zme
 rw [xL (by omega),zx,xL (by omega),yy (by omega) (by omega),zk]
 by_cases h:a+4≤j.length
 ·have h0:=hb.getD a; have h1:=hb.getD (a+1); have h2:=hb.getD (a+2); have h3:=hb.getD (a+3)
  have w3:IntKind.wrap .i64 ((4:Int) - 1)=((3:Nat):Int):=by decide
  rw [if_pos h,xL (by omega),w3,zk]
  refine (zrn (m+5) (m+4) j hj (a:=a) (i:=3) (by omega) (by omega) 0 (by omega) (by omega) _ hb).trans ?_
  refine (zrn (m+5) (m+3) j hj (a:=a) (i:=2) (by omega) (by omega) _ (by omega) (by omega) _ hb).trans ?_
  refine (zrn (m+5) (m+2) j hj (a:=a) (i:=1) (by omega) (by omega) _ (by omega) (by omega) _ hb).trans ?_
  refine (zrn (m+5) (m+1) j hj (a:=a) (i:=0) (by omega) (by omega) _ (by omega) (by omega) _ hb).trans ?_
  refine (zEv (m+5) m j _ _ _).trans ?_
  unfold zfj
  have hz:j.getD (a+0) 0=j.getD a 0:=rfl
  rw [yy (by omega) (by omega),zk]
  show lt (IntKind.wrap .u32 _) (fun x3=>k x3 _ _)=_
  rw [zdn (by omega) (by omega),zk]
  congr 1
  unfold le4; omega
 ·rw [if_neg h,zO (by omega)]
  show lt (IntKind.wrap .u32 0) (fun x3=>k x3 _ _)=_
  rw [zdn (by decide) (by decide),zk]
def zmc (ls:List (List Int)):List (List V):=ls.map fun l=>[V.sl 1 (zn .u8 l)]
theorem ztF {ls:List (List Int)} {i:Nat} (h:i < ls.length):(zmc ls)[i]?=some [V.sl 1 (zn .u8 ls[i])]:=by simp [zmc,h]
theorem zru (ls:List (List Int)):(zmc ls).length=ls.length:=by simp [zmc]
theorem zBy (l:List (List V)) (k:List (List V)→Option β):cL 1 [V.sl 1 l] 0 k=k l:=ztD rfl k
def zlo (ls:List (List Int)):Nat:=(ls.map List.length).foldr (·+·) 0
theorem zCe (l:List Int) (ls:List (List Int)):zlo (l::ls)=l.length+zlo ls:=rfl
theorem zta {ls:List (List Int)} {i:Nat} (h:i < ls.length):zlo (ls.drop i)=ls[i].length+zlo (ls.drop (i+1)):=by rw [List.drop_eq_getElem_cons h,zCe]
theorem zy8 (L:Nat) (ls:List (List Int)) (hl:ls.length≤100) (p0:List (List V)) (kx:List (List V)→Int→Option β):∀ (n i s:Nat),i≤ls.length→ls.length - i < n→s+zlo (ls.drop i)≤100000000 →
  zaA yc L kx n p0 (s:Int) (zmc ls) (ls.length:Int) (i:Int)=kx p0 ((s+zlo (ls.drop i):Nat):Int)
 | 0,i,s,h1,h2,h3=>by omega
 | n+1,i,s,h1,h2,h3=>by
  rw [zaA]
  unfold zcG
  by_cases h:i < ls.length
  ·have e:=zta h
   have w1:IntKind.wrap .i64 ((s:Int)+((ls[i].length:Nat):Int))=((s+ls[i].length:Nat):Int):=by rw [yy (by omega) (by omega)]; omega
   rw [zO (by omega),zfn (ztF h),zBy,zx,w1,zk,xL (by omega),zaM (by omega),zk]
   refine (zy8 L ls hl p0 kx n (i+1) (s+ls[i].length) (by omega) (by omega) (by omega)).trans ?_
   rw [e]; congr 1; omega
  ·rw [xL (by omega),List.drop_of_length_le (by omega)]
   congr 1
theorem zzq (L:Nat) (ls:List (List Int)) (hl:ls.length≤100) (kx:List (List V)→Option β):∀ (n i:Nat) (acc:List Int),i≤ls.length→ls.length - i < n→acc.length+zlo (ls.drop i)≤100000000 →
  zai yc L kx n (zn .u8 acc) (zmc ls) (ls.length:Int) (i:Int)=kx (zn .u8 (acc++(ls.drop i).flatten))
 | 0,i,s,h1,h2,h3=>by omega
 | n+1,i,acc,h1,h2,h3=>by
  rw [zai]
  unfold zcb
  by_cases h:i < ls.length
  ·have e:=zta h
   rw [zO (by omega),zfn (ztF h),zBy,zx,zx,zf (by unfold xi; omega),zcL,zk,zaM (by omega),zk]
   refine (zzq L ls hl kx n (i+1) (acc++ls[i]) (by omega) (by omega) (by rw [List.length_append]; omega)).trans ?_
   rw [List.drop_eq_getElem_cons h,List.flatten_cons,List.append_assoc]
  ·rw [xL (by omega),List.drop_of_length_le (by omega),List.flatten_nil,List.append_nil]
theorem zx6 {L:Nat} (hL:200≤L) (ls:List (List Int)) (hl:ls.length≤100) (hs:zlo ls≤100000000) (k:List (List V)→Option β):yl β L (zmc ls) k=k (zn .u8 ls.flatten):=by
 unfold yl zcn zeb
 rw [zru]
 refine (zy8 L ls hl _ _ L 0 0 (by omega) (by omega) (by rw [List.drop_zero]; omega)).trans ?_
 unfold zaO zcc yc
 rw [List.drop_zero,zf (by omega),zru]
 refine (zzq L ls hl _ L 0 [] (by omega) (by omega) (by rw [List.drop_zero]; simp; omega)).trans ?_
 rw [List.drop_zero,List.nil_append]
 rfl
theorem zqy {a b:Nat} (h:a+b≤1000000000000):(a+b) * 1≤xi∧a+b≤xi:=by
 unfold xi; omega
theorem zAZ {L:Nat} {b s:List Int} (h:b.length+s.length≤1000000000000) (k:List (List V)→Option β):yk β L (zn .u8 b) (zn .u8 s) k=k (zn .u8 (b++s)):=by
 simp only [yk,zlY,zk,zx,List.replicate_zero,List.length_nil,List.nil_append]
 rw [yy (by omega) (by omega),zf (by unfold xi; omega),zf (by unfold xi; omega),zf (zqy h),zcL]
theorem zyg (L:Nat) (ls:List (List Int)) (hl:ls.length≤100) (kx:List (List V)→Option β):∀ (n i:Nat) (acc:List Int),i≤ls.length→ls.length - i < n→acc.length+zlo (ls.drop i)≤100000000 →
  zer yk L kx n (zn .u8 acc) (zmc ls) (ls.length:Int) (i:Int)=kx (zn .u8 (acc++(ls.drop i).flatten))
 | 0,i,s,h1,h2,h3=>by omega
 | n+1,i,acc,h1,h2,h3=>by
  rw [zer]
  unfold zjy
  by_cases h:i < ls.length
  ·have e:=zta h
   rw [zO (by omega),zfn (ztF h),zBy,zAZ (by omega),zaM (by omega),zk]
   refine (zyg L ls hl kx n (i+1) (acc++ls[i]) (by omega) (by omega) (by rw [List.length_append]; omega)).trans ?_
   rw [List.drop_eq_getElem_cons h,List.flatten_cons,List.append_assoc]
  ·rw [xL (by omega),List.drop_of_length_le (by omega),List.flatten_nil,List.append_nil]
theorem ztH {L:Nat} (hL:200≤L) (ls:List (List Int)) (hl:ls.length≤100) (hs:zlo ls≤100000000) (k:List (List V)→Option β):yb β L (zmc ls) k=k (zn .u8 ls.flatten):=by
 unfold yb zlD zow
 rw [zru]
 refine (zyg L ls hl _ L 0 [] (by omega) (by omega) (by rw [List.drop_zero]; simp; omega)).trans ?_
 rw [List.drop_zero,List.nil_append]
 rfl
theorem zyS (a b:List Int):yh 1 2 [(V.sl 1 (zn .u8 a)),(V.sl 1 (zn .u8 b))]=zmc [a,b]:=rfl
theorem zA4 (a b c:List Int):yh 1 3 [(V.sl 1 (zn .u8 a)),(V.sl 1 (zn .u8 b)),(V.sl 1 (zn .u8 c))]=zmc [a,b,c]:=rfl
theorem zyN (a b:List Int):[a,b].flatten=a++b:=by simp
theorem zDW (a b c:List Int):[a,b,c].flatten=a++b++c:=by simp
theorem zBv (a b:List Int):zlo [a,b]=a.length+b.length:=by simp [zlo]
theorem zEP (a b c:List Int):zlo [a,b,c]=a.length+b.length+c.length:=by simp [zlo]; omega
theorem zBQ (l:List Int):∀ e ∈ zn .u8 l,e.length=1:=by
 intro e he
 obtain ⟨n,_,rfl⟩:=List.mem_map.1 he; rfl
theorem zFa (a:Option β) (b:List V→List (List V)→Option β):lc [] a b=a:=Eq.trans rfl rfl
theorem zEn (x:List V) (l:List (List V)) (a:Option β) (b:List V→List (List V)→Option β):lc (x::l) a b=b x l:=Eq.trans rfl rfl
theorem zFd (L:Nat) (l:List Int) (hl:l.length≤100000000) (k:List (List V)→Option β):yq β L (zn .u8 l) k=k (zn .u8 l):=by
 unfold yq zeD
 cases h:zn .u8 l with
 | nil=>rw [zFa]
 | cons x m =>
  have hlen:(x::m).length≤100000000:=by rw [← h,zx]; exact hl
  rw [zEn,zf (by simp only [xi]; omega),zf (.inl (by simp)),zuK (by rw [← h]; exact zBQ l)]
theorem zrY:∀ (l:List Int),zeS (zn .u8 l)=some (l.map fun n=>UInt8.ofNat n.toNat)
 | []=>rfl
 | n::l=>by
  have:=zrY l
  simp only [zn] at this
  simp only [zn,List.map_cons,zeS,this,Option.map_some]
theorem zpK (l:List Int) (k:ByteArray→Option β):zvw (zn .u8 l) k=k ⟨(l.map fun n=>UInt8.ofNat n.toNat).toArray⟩:=by
 simp only [zvw,zrY]
theorem zx8:∀ {a b:List Int},Byt a→Byt b→((a.map fun n=>UInt8.ofNat n.toNat)=(b.map fun n=>UInt8.ofNat n.toNat)↔a=b)
 | [],[],_,_=>by simp
 | [],y::b,_,_=>by simp
 | x::a,[],_,_=>by simp
 | x::a,y::b,ha,hb=>by
  have hx:=ha x (by simp); have hy:=hb y (by simp)
  have ih:=zx8 (a:=a) (b:=b) (fun z hz=>ha z (by simp [hz])) (fun z hz=>hb z (by simp [hz]))
  simp only [List.map_cons,List.cons.injEq,ih]
  constructor
  ·rintro ⟨h1,h2⟩
   refine ⟨?_,h2⟩
   have:=congrArg UInt8.toNat h1
   simp only [UInt8.toNat_ofNat'] at this
   rw [Nat.mod_eq_of_lt (by omega),Nat.mod_eq_of_lt (by omega)] at this
   omega
  ·rintro ⟨h1,h2⟩
   exact ⟨by rw [h1],h2⟩
theorem zFn (L:Nat) {a b:List Int} (ha:Byt a) (hb:Byt b) (k:Bool→Option β):zb β L (zn .u8 a) (zn .u8 b) k=k (decide (a=b)):=by
 unfold zb zkQ
 rw [zpK,zpK]
 congr 1
 rw [ByteArray.toList_eq,ByteArray.toList_eq,Bool.eq_iff_iff,beq_iff_eq,decide_eq_true_eq]
 exact zx8 ha hb
theorem zCM (L:Nat) (a:List Int) (k:Bool→Option β):zb β L (zn .u8 a) (zn .u8 a) k=k true:=by
 unfold zb zkQ
 rw [zpK,zpK,BEq.rfl]
def zzk (n:Int) (w:Nat):List Int:=(List.range w).map fun (i:Nat)=>IntKind.wrap .u8 (zb9 .u64 n (8 * (i:Int)))
theorem zvs (n:Int) (w:Nat):(zzk n w).length=w:=by simp [zzk]
def zkf (n:Int):List Int:=zzk (IntKind.wrap .u64 n) 4
theorem zhV (n:Int):(zkf n).length=4:=zvs _ _
theorem zAI (n:Int):Byt (zkf n):=by
 intro x hx
 obtain ⟨i,_,rfl⟩:=List.mem_map.1 hx
 exact zuS _
theorem zu7 (k:IntKind):([]:List (List V))=zn k []:=rfl
theorem zE6 {L:Nat} {b s:List Int} (h:b.length+s.length≤1000000000000) (k:List (List V)→Option β):zP β L (zn .u8 b) (zn .u8 s) k=k (zn .u8 (b++s)):=by
 simp only [zP,zl0,zk,zx,List.replicate_zero,List.length_nil,List.nil_append]
 rw [yy (by omega) (by omega),zf (by unfold xi; omega),zf (by unfold xi; omega),zf (zqy h),zcL]
theorem zFQ (L:Nat) (n:Int) (k:List (List V)→Option β):xQ β (L+20) n 4 k=k (zn .u8 (zzk n 4)):=by kernel_rfl
theorem zDS {L:Nat} (hL:20≤L) {b:List Int} (h:b.length≤900000000000) (n:Int) (k:List (List V)→Option β):zH β L (zn .u8 b) n k=k (zn .u8 (b++zkf n)):=by
 obtain ⟨m,rfl⟩:∃ m,L=m+20:=⟨L - 20,by omega⟩
 simp only [zH,zjt,zk]
 rw [zFQ,zE6 (by rw [zvs]; omega)]; rfl
theorem zFA (L:Nat) (n:Int) (k:List (List V)→Option β):zR β (L+20) n 4 k=k (zn .u8 (zzk n 4)):=by kernel_rfl
theorem zCj {L:Nat} (hL:20≤L) {b:List Int} (h:b.length≤900000000000) (n:Int) (k:List (List V)→Option β):xG β L (zn .u8 b) n k=k (zn .u8 (b++zkf n)):=by
 obtain ⟨m,rfl⟩:∃ m,L=m+20:=⟨L - 20,by omega⟩
 simp only [xG,zje,zk]
 rw [zFA,zAZ (by rw [zvs]; omega)]; rfl
end
section
set_option linter.unusedVariables false
set_option linter.unusedSimpArgs false
set_option maxRecDepth 100000
variable {β:Type}
structure Rec where
 kd:Int
 ht:Int
 d:List Int
def Rec.v (r:Rec):List V:=[V.sc (.int .i64 r.kd),V.sc (.int .i64 r.ht),V.sl 1 (zn .u8 r.d)]
def Rec.okB (r:Rec):Bool:=decide (r.kd ≥ 1) && (decide (r.kd≤5) && (decide (r.ht ≥ 0) && (decide (r.ht≤16777216) && decide (((r.d.length:Nat):Int)≤4096))))
theorem zrb (r:Rec) (k:Int→Option β):cI .i64 r.v 0 k=k r.kd:=zqC rfl k
theorem zrP (r:Rec) (k:Int→Option β):cI .i64 r.v 1 k=k r.ht:=zqC rfl k
theorem zFs (r:Rec) (k:List (List V)→Option β):cL 1 r.v 2 k=k (zn .u8 r.d):=ztD rfl k
theorem zn4 (r:Rec) (k:List (List V)→Option β):cLd 1 r.v 2 k=k (zn .u8 r.d):=zDE rfl k
theorem zvP (a b:Int) (d:List Int):[(V.sc (.int .i64 a)),(V.sc (.int .i64 b)),(V.sl 1 (zn .u8 d))]=(Rec.mk a b d).v:=rfl
theorem zsu (r:Rec):List.map V.dem (List.take 3 r.v)=r.v:=Eq.trans rfl rfl
theorem zmq (r:Rec):List.take 3 r.v=r.v:=Eq.trans rfl rfl
theorem zoz (r:Rec):xn [(V.sc (.int .i64 (0:Int))),(V.sc (.int .i64 (0:Int))),(V.gs 1 ([]:List (List V)))] 0 r.v=r.v:=zbF rfl
theorem zw4 (r:Rec):xn [(V.sc (.int .i64 (0:Int))),(V.sc (.int .i64 (0:Int))),(V.sl 1 ([]:List (List V)))] 0 r.v=r.v:=zbF rfl
theorem zgu (r:Rec) (k:Option β):chk (0+3≤List.length r.v) k=k:=zf (by show 0+3≤3; omega) k
theorem zhg (r:Rec) (k:Option β):chk ((List.length r.v)=3∧0+3≤3) k=k:=zf ⟨rfl,by decide⟩ k
theorem zwV (r:Rec) (k:Option β):chk (0=0∧(List.length r.v)=3∧3≠0) k=k:=zf ⟨rfl,rfl,by decide⟩ k
theorem zE8 (r:Rec) (k:Option β):chk (List.length r.v=3) k=k:=zf rfl k
theorem zz0 (L:Nat) (r:Rec) (k:Bool→Option β):yz β L r.v k=k r.okB:=by
 unfold yz zlt Rec.okB
 rw [zrb,zrb,zrP,zrP,zn4,zx]
 cases decide (r.kd ≥ 1) <;> cases decide (r.kd≤5) <;> cases decide (r.ht ≥ 0) <;> cases decide (r.ht≤16777216) <;> rfl
theorem zxR (L:Nat) (r:Rec) (k:Bool→Option β):yC β L r.v k=k r.okB:=by
 unfold yC znj Rec.okB
 rw [zrb,zrb,zrP,zrP,zn4,zx]
 cases decide (r.kd ≥ 1) <;> cases decide (r.kd≤5) <;> cases decide (r.ht ≥ 0) <;> cases decide (r.ht≤16777216) <;> rfl
def crc (last fr:List Int):List Int:=(ztg (last++fr)).take 4
theorem zkp (last fr:List Int):(crc last fr).length=4:=by rw [crc,List.length_take,zuT]; decide
theorem zvA (last fr:List Int):Byt (crc last fr):=Byt.take (a:=ztg (last++fr)) (zEc _) 4
theorem zte {w:List Int} (hw:w.length=4):xn [(V.sc (.int .u8 (0:Int))),(V.sc (.int .u8 (0:Int))),(V.sc (.int .u8 (0:Int))),(V.sc (.int .u8 (0:Int)))] 0 (row .u8 w)=row .u8 w:=zbF (by rw [xu,hw]; rfl)
theorem zxe {w:List Int} (hw:4≤w.length):yh 1 4 (row .u8 w)=zn .u8 (w.take 4):=zrG .u8 4 w hw
theorem zkH {w:List Int} (hw:w.length=4) (k:Option β):chk ((List.length (row .u8 w))=4∧0+4≤4) k=k:=zf ⟨by rw [xu,hw],by decide⟩ k
theorem zl1 {w:List Int} (hw:w.length=4) (k:Option β):chk (0+4≤(List.length (row .u8 w))) k=k:=zf (by rw [xu,hw]; omega) k
theorem zwZ {w:List Int} (hw:w.length=4) (k:Option β):chk (0=0∧(List.length (row .u8 w))=4∧4≠0) k=k:=zf ⟨rfl,by rw [xu,hw],by decide⟩ k
theorem zog {w:List Int} (hw:w.length=4):List.take 4 (row .u8 w)=row .u8 w:=List.take_of_length_le (by rw [xu,hw]; omega)
theorem zz4 {L:Nat} (hL:20000≤L) {last fr:List Int} (h4:last.length=4) (hb:Byt last) (hf:Byt fr) (hl:fr.length≤10000) (k:List V→Option β):xz β L (row .u8 last) (zn .u8 fr) k=k (row .u8 (crc last fr)):=by
 unfold xz zly
 rw [zf (by rw [xu,h4]; decide),zf (by rw [xu,h4]; decide),zxe (by omega),List.take_of_length_le (show last.length≤4 by omega),zyS,zx6 (by omega) _ (by simp) (by rw [zBv]; omega),zyN]
 rw [zEQ (by rw [List.length_append]; omega) (by rw [List.length_append]; omega) (hb.app hf)]
 have hs:=zuT (last++fr)
 rw [zf ⟨by rw [xu,hs],by decide⟩,zDQ hs,zk,zf (by rw [xu,hs]; decide),zf (by rw [xu,hs]; decide),zDF]
 have hc:=zkp last fr
 unfold crc at hc ⊢
 rw [zkH hc,zte hc,zk,zwZ hc]
theorem zy7 {L:Nat} (hL:20000≤L) {last fr:List Int} (h4:last.length=4) (hb:Byt last) (hf:Byt fr) (hl:fr.length≤10000) (k:List (List V)→Option β):zC β L (zn .u8 last) (zn .u8 fr) k=k (zn .u8 (crc last fr)):=by
 unfold zC zng
 rw [zyS,ztH (by omega) _ (by simp) (by rw [zBv]; omega),zyN,zDZ (by rw [List.length_append]; omega) (by rw [List.length_append]; omega) (hb.app hf)]
 have hs:=zuT (last++fr)
 rw [zf ⟨by rw [xu,hs],by decide⟩,zDQ hs,zk,zf (by rw [xu,hs]; decide),zxe (by omega),zx,zf (by rw [List.length_take,hs]; decide),zk]
 rfl
def slc (j:List Int) (a b:Nat):List Int:=(j.drop a).take (b - a)
theorem zqO {j:List Int} {a b:Nat} (h1:a≤b) (h2:b≤j.length):(slc j a b).length=b - a:=by rw [slc,List.length_take,List.length_drop]; omega
theorem zzs {j:List Int} (h:Byt j) (a b:Nat):Byt (slc j a b):=(h.drop a).take _
theorem zmo (j:List Int) (a b:Nat):List.take (b - a) (List.drop a (zn .u8 j))=zn .u8 (slc j a b):=by rw [zx3,zh2,slc]
def xT (j:List Int) (a:Nat):Nat:=(le4 j a).toNat
def zjW (j:List Int) (a:Nat):Rec:=⟨j.getD (a+4) 0,le4 j (a+5),slc j (a+9) (a+9+xT j a)⟩
def Frm (j:List Int) (a:Nat) (last:List Int):Prop:=le4 j a≤4096∧a+13+xT j a≤j.length∧(zjW j a).okB=true∧slc j (a+9+xT j a) (a+13+xT j a)=crc last (slc j a (a+9+xT j a))
open Classical in
noncomputable def nextO (j:List Int) (a:Nat) (last:List Int):Option (Rec × Nat × List Int) :=
 if Frm j a last then some (zjW j a,a+13+xT j a,crc last (slc j a (a+9+xT j a))) else none
def zRec:Rec:=⟨0,0,[]⟩
def z4:List Int:=[0,0,0,0]
theorem zpo (k:List V→Int→List V→Bool→Option β) :
  lt [(V.sc (.int .i64 (0:Int))),(V.sc (.int .i64 (0:Int))),(V.sl 1 ([]:List (List V)))] (fun r3=>lt [(V.sc (.int .u8 (0:Int))),(V.sc (.int .u8 (0:Int))),(V.sc (.int .u8 (0:Int))),(V.sc (.int .u8 (0:Int)))] fun r4=>chk (0=0∧(List.length r3)=3∧3≠0) (chk (0=0∧(List.length r4)=4∧4≠0) (k r3 (0:Int) r4 false)))=k zRec.v 0 (row .u8 z4) false:=by
 rw [zk,zk,zf ⟨rfl,rfl,by decide⟩,zf ⟨rfl,rfl,by decide⟩]; exact Eq.trans rfl rfl
noncomputable def nextK (j:List Int) (a:Nat) (last:List Int) (k:List V→Int→List V→Bool→Option β):Option β:=match nextO j a last with
 | some (r,e,f)=>k r.v (e:Int) (row .u8 f) true
 | none=>k zRec.v 0 (row .u8 z4) false
theorem zh3 {j:List Int} {a:Nat} {last:List Int} (h:¬ Frm j a last) (k:List V→Int→List V→Bool→Option β):nextK j a last k=k zRec.v 0 (row .u8 z4) false:=by
 unfold nextK nextO; rw [if_neg h]
theorem zBU {j:List Int} {a:Nat} {last:List Int} (h:Frm j a last) (k:List V→Int→List V→Bool→Option β):nextK j a last k=k (zjW j a).v ((a+13+xT j a:Nat):Int) (row .u8 (crc last (slc j a (a+9+xT j a)))) true:=by
 unfold nextK nextO; rw [if_pos h]
theorem zD9 {L:Nat} (hL:20000≤L) {j last:List Int} (hb:Byt j) (hj:j.length≤1000000) (h4:last.length=4) (hlb:Byt last) {a:Nat} (ha:a≤j.length) (k:List V→Int→List V→Bool→Option β):yp β L (zn .u8 j) (a:Int) (row .u8 last) k=nextK j a last k:=by
 unfold yp zlZ
 rw [zCE (by omega) hb (by omega) ha]
 have l0:=zwI hb a
 have l5:=zwI hb (a+5)
 rcases Classical.em (¬ (a+4≤j.length)) with c1 | c1'
 ·rw [if_neg c1,zdV,if_neg (by decide),zpo,zh3 (fun h=>by have:=h.2.1; omega)]
 have c1:a+4≤j.length:=Classical.not_not.1 c1'
 rw [if_pos c1,zdV,if_pos rfl]
 rcases Classical.em (¬ (le4 j a≤4096)) with c2 | c2'
 ·rw [zO (by omega),zpo,zh3 (fun h=>c2 h.1)]
 have c2:le4 j a≤4096:=Classical.not_not.1 c2'
 have hN:le4 j a=((xT j a:Nat):Int):=by unfold xT; omega
 have hN2:xT j a≤4096:=by omega
 rw [xL (by omega),zFt (by omega) hb (by omega) (by omega)]
 rcases Classical.em (¬ (a+4+1≤j.length)) with c3 | c3'
 ·rw [if_neg c3,zdV,if_neg (by decide),zpo,zh3 (fun h=>by have:=h.2.1; omega)]
 have c3:a+4+1≤j.length:=Classical.not_not.1 c3'
 rw [if_pos c3,zdV,if_pos rfl,zCE (by omega) hb (by omega) (by omega)]
 rcases Classical.em (¬ (a+4+1+4≤j.length)) with c4 | c4'
 ·rw [if_neg c4,zdV,if_neg (by decide),zpo,zh3 (fun h=>by have:=h.2.1; omega)]
 have c4:a+4+1+4≤j.length:=Classical.not_not.1 c4'
 rw [if_pos c4,zdV,if_pos rfl]
 rcases Classical.em (¬ (le4 j (a+5)≤16777216)) with c5 | c5'
 ·rw [zO (by show le4 j (a+5) > 16777216; omega),zpo,zh3 (fun h=>by
   have:=h.2.2.1
   unfold Rec.okB zjW at this
   simp only [Bool.and_eq_true,decide_eq_true_eq] at this
   exact c5 this.2.2.2.1)]
 have c5:le4 j (a+5)≤16777216:=Classical.not_not.1 c5'
 have w1:IntKind.wrap .i64 (le4 j a)=((xT j a:Nat):Int):=by rw [yy (by omega) (by omega)]; exact hN
 have w2:IntKind.wrap .i64 (((a+4+1+4:Nat):Int)+((xT j a:Nat):Int))=((a+9+xT j a:Nat):Int):=by rw [yy (by omega) (by omega)]; omega
 have w3:IntKind.wrap .i64 (((a+9+xT j a:Nat):Int)+4)=((a+13+xT j a:Nat):Int):=by rw [yy (by omega) (by omega)]; omega
 rw [xL (by show ¬ le4 j (a+5) > 16777216; omega),w1,zk,w2,zk,w3,zk,zx]
 rcases Classical.em (¬ (a+13+xT j a≤j.length)) with c6 | c6'
 ·rw [zO (by omega),zpo,zh3 (fun h=>c6 h.2.1)]
 have c6:a+13+xT j a≤j.length:=Classical.not_not.1 c6'
 have hk:=hb.getD (a+4)
 rw [xL (by omega),yy (by omega) (by omega),zk,yy (show -9223372036854775808≤le4 j (a+4+1) by show _≤le4 j (a+5); omega) (by show le4 j (a+5)≤_; omega),zk,zf ⟨by omega,by omega⟩,Int.toNat_natCast,zf ⟨by omega,by omega⟩,Int.toNat_natCast,show a+4+1+4=a+9 by omega,zmo,zFd L _ (by rw [zqO (by omega) (by omega)]; omega),zvP,zk,zk,zf ⟨by omega,by omega⟩,Int.toNat_natCast,zf ⟨by omega,by omega⟩,zmo]
 have hF:(slc j (a+9+xT j a) (a+13+xT j a)).length=4:=by rw [zqO (by omega) (by omega)]; omega
 have eF:List.take 4 (List.flatten (List.take 4 (zn .u8 (slc j (a+9+xT j a) (a+13+xT j a)))))=row .u8 (slc j (a+9+xT j a) (a+13+xT j a)):=by
  rw [zh2,List.take_of_length_le (show (slc j (a+9+xT j a) (a+13+xT j a)).length≤4 by omega),zpF,zog hF]
 rw [zf (by rw [zx]; omega),eF,zkH hF,zte hF,zk,zgu,zsu,zz0]
 have eR:(Rec.mk (j.getD (a+4) 0) (le4 j (a+4+1)) (slc j (a+9) (a+9+xT j a)))=zjW j a:=rfl
 rw [eR]
 cases c7:(zjW j a).okB with
 | false=>rw [Bool.not_false,ziy,zpo,zh3 (fun h=>by rw [h.2.2.1] at c7; cases c7)]
 | true =>
  rw [Bool.not_true,zeO,zl1 hF,zl1 h4,zf ⟨by omega,by omega⟩,zf ⟨by omega,by omega⟩,zog h4,Int.toNat_natCast,zmo,zz4 hL h4 hlb (zzs hb _ _) (by rw [zqO (by omega) (by omega)]; omega),zog hF,zEu .u8 hF (zkp _ _)]
  by_cases c8:slc j (a+9+xT j a) (a+13+xT j a)=crc last (slc j a (a+9+xT j a))
  ·rw [decide_eq_true c8,Bool.not_true,zeO,zgu,zk,zl1 hF,zmq,zhg,zoz,zk,zkH hF,zte hF,zk,zwV,zwZ hF,zBU ⟨c2,c6,c7,c8⟩,c8]
  ·rw [decide_eq_false c8,Bool.not_false,ziy,zpo,zh3 (fun h=>c8 h.2.2.2)]
end
section
set_option linter.unusedVariables false
set_option linter.unusedSimpArgs false
set_option maxRecDepth 100000
variable {β:Type}
theorem zwR (k:List V→List (List V)→Int→Bool→Option β) :
  lt [(V.sc (.int .i64 (0:Int))),(V.sc (.int .i64 (0:Int))),(V.sl 1 ([]:List (List V)))] (fun r3=>chk (0=0∧(List.length r3)=3∧3≠0) (k r3 ([]:List (List V)) (0:Int) false))=k zRec.v [] 0 false:=by
 rw [zk,zf ⟨rfl,rfl,by decide⟩]; exact Eq.trans rfl rfl
noncomputable def frameK (j:List Int) (a:Nat) (last:List Int) (k:List V→List (List V)→Int→Bool→Option β):Option β:=match nextO j a last with
 | some (r,e,f)=>k r.v (zn .u8 f) (e:Int) true
 | none=>k zRec.v [] 0 false
theorem zmX {j:List Int} {a:Nat} {last:List Int} (h:¬ Frm j a last) (k:List V→List (List V)→Int→Bool→Option β):frameK j a last k=k zRec.v [] 0 false:=by
 unfold frameK nextO; rw [if_neg h]
theorem zBI {j:List Int} {a:Nat} {last:List Int} (h:Frm j a last) (k:List V→List (List V)→Int→Bool→Option β):frameK j a last k=k (zjW j a).v (zn .u8 (crc last (slc j a (a+9+xT j a)))) ((a+13+xT j a:Nat):Int) true:=by
 unfold frameK nextO; rw [if_pos h]
theorem zC9 {L:Nat} (hL:20000≤L) {j last:List Int} (hb:Byt j) (hj:j.length≤1000000) (h4:last.length=4) (hlb:Byt last) {a:Nat} (ha:a≤j.length) (k:List V→List (List V)→Int→Bool→Option β):yr β L (zn .u8 j) (a:Int) (zn .u8 last) k=frameK j a last k:=by
 unfold yr zns
 rw [zAT (by omega) hb (by omega) ha]
 have l0:=zwI hb a
 have l5:=zwI hb (a+5)
 rcases Classical.em (¬ (a+4≤j.length)) with c1 | c1'
 ·rw [if_neg c1,zdV,if_neg (by decide),zwR,zmX (fun h=>by have:=h.2.1; omega)]
 have c1:a+4≤j.length:=Classical.not_not.1 c1'
 rw [if_pos c1,zdV,if_pos rfl]
 rcases Classical.em (¬ (le4 j a≤4096)) with c2 | c2'
 ·rw [zO (by omega),zwR,zmX (fun h=>c2 h.1)]
 have c2:le4 j a≤4096:=Classical.not_not.1 c2'
 have hN:le4 j a=((xT j a:Nat):Int):=by unfold xT; omega
 have hN2:xT j a≤4096:=by omega
 have w1:IntKind.wrap .i64 (le4 j a)=((xT j a:Nat):Int):=by rw [yy (by omega) (by omega)]; exact hN
 rw [xL (by omega),zx,yy (show -9223372036854775808≤((j.length:Nat):Int) - (a:Int) by omega) (by omega),zk,w1,zk,yy (show -9223372036854775808≤(13:Int)+((xT j a:Nat):Int) by omega) (by omega),zk]
 rcases Classical.em (¬ (a+13+xT j a≤j.length)) with c6 | c6'
 ·rw [zO (by omega),zwR,zmX (fun h=>c6 h.2.1)]
 have c6:a+13+xT j a≤j.length:=Classical.not_not.1 c6'
 have hk:=hb.getD (a+4)
 have w5:IntKind.wrap .i64 (((a+4:Nat):Int)+1)=((a+5:Nat):Int):=by rw [yy (by omega) (by omega)]; omega
 have w2:IntKind.wrap .i64 (((a+5+4:Nat):Int)+((xT j a:Nat):Int))=((a+9+xT j a:Nat):Int):=by rw [yy (by omega) (by omega)]; omega
 have w3:IntKind.wrap .i64 (((a+9+xT j a:Nat):Int)+4)=((a+13+xT j a:Nat):Int):=by rw [yy (by omega) (by omega)]; omega
 rw [xL (by omega),zfn (ztJ (by omega)),cI8,yy (show -9223372036854775808≤j.getD (a+4) 0 by omega) (by omega),zk,w5,zk,zAT (by omega) hb (by omega) (by omega),if_pos (by omega),yy (show -9223372036854775808≤le4 j (a+5) by omega) (by omega),zk,zk,w2,zk,zf ⟨by omega,by omega⟩,Int.toNat_natCast,zf ⟨by omega,by omega⟩,Int.toNat_natCast,show a+5+4=a+9 by omega,zmo]
 have hD:(slc j (a+9) (a+9+xT j a)).length=xT j a:=by rw [zqO (by omega) (by omega)]; omega
 rw [zf (by rw [zx,hD]; unfold xi; simp; omega),List.nil_append,zk,zk]
 rw [show (((a+9:Nat):Int)+((xT j a:Nat):Int))=(((a+5+4:Nat):Int)+((xT j a:Nat):Int)) by omega,w2,zk,zf ⟨by omega,by omega⟩,Int.toNat_natCast,zf ⟨by omega,by omega⟩,Int.toNat_natCast,zmo,zy7 hL h4 hlb (zzs hb _ _) (by rw [zqO (by omega) (by omega)]; omega),zvP,zxR]
 have eR:(Rec.mk (j.getD (a+4) 0) (le4 j (a+5)) (slc j (a+9) (a+9+xT j a)))=zjW j a:=rfl
 rw [eR]
 cases c7:(zjW j a).okB with
 | false=>rw [Bool.not_false,ziy,zwR,zmX (fun h=>by rw [h.2.2.1] at c7; cases c7)]
 | true =>
  rw [Bool.not_true,zeO,w3,zk,zf ⟨by omega,by omega⟩,Int.toNat_natCast,zf ⟨by omega,by omega⟩,zmo,zFn L (zvA _ _) (zzs hb _ _)]
  by_cases c8:slc j (a+9+xT j a) (a+13+xT j a)=crc last (slc j a (a+9+xT j a))
  ·rw [decide_eq_true c8.symm,Bool.not_true,zeO,zk,zk,zwV,zBI ⟨c2,c6,c7,c8⟩]
  ·rw [decide_eq_false (fun h=>c8 h.symm),Bool.not_false,ziy,zwR,zmX (fun h=>c8 h.2.2.2)]
noncomputable def scanO:Nat→List Int→Nat→List Int→List Rec→List Rec × Nat × List Int
 | 0,_,a,last,acc=>(acc,a,last)
 | n+1,j,a,last,acc=>match nextO j a last with
  | some (r,e,f)=>scanO n j e f (acc++[r])
  | none=>(acc,a,last)
theorem zrI {j:List Int} {a:Nat} {last:List Int} {r:Rec} {e:Nat} {f:List Int} (h:nextO j a last=some (r,e,f)):a+13≤e∧e≤j.length∧f.length=4∧Byt f∧Frm j a last∧r=zjW j a∧e=a+13+xT j a∧f=crc last (slc j a (a+9+xT j a)):=by
 unfold nextO at h
 split at h
 ·rename_i hF
  cases h
  have:=hF.2.1
  exact ⟨by omega,this,zkp _ _,zvA _ _,hF,rfl,rfl,rfl⟩
 ·cases h
def zez (l:List Rec):List (List V):=l.map Rec.v
theorem zuV (l:List Rec) (r:Rec):zez l++[r.v]=zez (l++[r]):=by simp [zez]
theorem zva (l:List Rec):(zez l).length=l.length:=by simp [zez]
theorem zxa (r:Rec):yh 3 1 r.v=[r.v]:=by rw [yh,yh,zmq]
theorem zxT {L:Nat} (hL:20000≤L) {j:List Int} (hb:Byt j) (hj:j.length≤1000000) (kr:List (List V)→Int→List V→Option β) (b0 b1 b2 b3:Int):∀ (n a:Nat) (last:List Int) (acc:List Rec),a≤j.length→j.length - a < n→last.length=4→Byt last→acc.length≤a →
  zdl yp L kr n (zn .u8 j) (zez acc) (a:Int) b0 b1 b2 b3 (row .u8 last)=kr (zez (scanO n j a last acc).1) (((scanO n j a last acc).2.1:Nat):Int) (xn [(V.sc (.int .u8 b0)),(V.sc (.int .u8 b1)),(V.sc (.int .u8 b2)),(V.sc (.int .u8 b3))] 0 (row .u8 (scanO n j a last acc).2.2))
 | 0,a,last,acc,h1,h2,h3,h4,h5=>by omega
 | n+1,a,last,acc,h1,h2,h3,h4,h5=>by
  rw [zdl]
  unfold zhx
  rw [zl1 h3,zog h3,zD9 hL hb hj h3 h4 h1]
  unfold nextK
  rw [scanO]
  cases e:nextO j a last with
  | none =>
   show chk ((List.length zRec.v)=3∧0+3≤3) _=_
   have hz:z4.length=4:=rfl
   rw [zhg,zoz,zk,zkH hz,zte hz,zk,Bool.not_false,ziy,zl1 h3,zkH h3,zk]
  | some x =>
   obtain ⟨r,en,f⟩:=x
   obtain ⟨q1,q2,q3,q4,q5,q6,q7,q8⟩:=zrI e
   show chk ((List.length r.v)=3∧0+3≤3) _=_
   rw [zhg,zoz,zk,zkH q3,zte q3,zk,Bool.not_true,zeO,zgu,zmq,zhg,zw4,zxa,zf (by rw [zva]; unfold xi; simp; omega),zuV,zk,zl1 q3,zog q3,zf ⟨by rw [xu,q3],by rw [xu,h3]; omega⟩,zbF (by rw [xu,xu,q3,h3]),zk]
   exact zxT hL hb hj kr b0 b1 b2 b3 n en f (acc++[r]) q2 (by omega) q3 q4 (by simp; omega)
theorem zzm (j:List Int) (hb:Byt j):∀ (n a:Nat) (last:List Int) (acc:List Rec),a≤j.length→last.length=4→Byt last→(scanO n j a last acc).2.1≤j.length∧(scanO n j a last acc).2.2.length=4∧Byt (scanO n j a last acc).2.2
 | 0,a,last,acc,h1,h2,h3=>⟨h1,h2,h3⟩
 | n+1,a,last,acc,h1,h2,h3=>by
  rw [scanO]
  cases e:nextO j a last with
  | none=>exact ⟨h1,h2,h3⟩
  | some x =>
   obtain ⟨r,en,f⟩:=x
   obtain ⟨q1,q2,q3,q4,_⟩:=zrI e
   exact zzm j hb n en f (acc++[r]) q2 q3 q4
theorem zzE:z4.length=4:=rfl
theorem zBd:Byt z4:=by intro x hx; simp [z4] at hx; omega
noncomputable def scn (L:Nat) (j:List Int):List Rec × Nat × List Int:=scanO L j 0 z4 []
theorem zsA (L:Nat) {j:List Int} (hb:Byt j):(scn L j).2.1≤j.length∧(scn L j).2.2.length=4∧Byt (scn L j).2.2:=zzm j hb L 0 z4 [] (by omega) zzE zBd
theorem zAQ {L:Nat} (hL:20000≤L) {j:List Int} (hb:Byt j) (hj:j.length≤10000) (k:List (List V)→Int→List V→Option β):xw β L (zn .u8 j) k=k (zez (scn L j).1) (((scn L j).2.1:Nat):Int) (row .u8 (scn L j).2.2):=by
 have h:=zsA L hb
 unfold xw ziS zl6
 refine (zxT hL hb (by omega) _ 0 0 0 0 L 0 z4 [] (by omega) (by omega) zzE zBd (by simp)).trans ?_
 show zdx yp L _ _ (xn _ 0 (row .u8 (scn L j).2.2)) k=_
 unfold zdx
 rw [zte h.2.1,zwZ h.2.1]
 rfl
theorem zxU {L:Nat} (hL:20000≤L) {j:List Int} (hb:Byt j) (hj:j.length≤1000000) (kr:List (List V)→Int→List (List V)→Option β):∀ (n a:Nat) (last:List Int) (acc:List Rec),a≤j.length→j.length - a < n→last.length=4→Byt last→acc.length≤a →
  zet yr L kr n (zn .u8 j) (zez acc) (zn .u8 last) (a:Int)=kr (zez (scanO n j a last acc).1) (((scanO n j a last acc).2.1:Nat):Int) (zn .u8 (scanO n j a last acc).2.2)
 | 0,a,last,acc,h1,h2,h3,h4,h5=>by omega
 | n+1,a,last,acc,h1,h2,h3,h4,h5=>by
  rw [zet]
  unfold zjw
  rw [zC9 hL hb hj h3 h4 h1]
  unfold frameK
  rw [scanO]
  cases e:nextO j a last with
  | none =>
   show chk ((List.length zRec.v)=3∧0+3≤3) _=_
   rw [zhg,zoz,zk,Bool.not_false,ziy]
  | some x =>
   obtain ⟨r,en,f⟩:=x
   obtain ⟨q1,q2,q3,q4,q5,q6,q7,q8⟩:=zrI e
   show chk ((List.length r.v)=3∧0+3≤3) _=_
   rw [zhg,zoz,zk,Bool.not_true,zeO,zgu,zmq,zhg,zw4,zxa,zf (by rw [zva]; unfold xi; simp; omega),zuV,zk]
   exact zxU hL hb hj kr n en f (acc++[r]) q2 (by omega) q3 q4 (by simp; omega)
theorem zDv {L:Nat} (hL:20000≤L) {j:List Int} (hb:Byt j) (hj:j.length≤10000) (k:List (List V)→Int→List (List V)→Option β):xY β L (zn .u8 j) k=k (zez (scn L j).1) (((scn L j).2.1:Nat):Int) (zn .u8 (scn L j).2.2):=by
 unfold xY zkY zot
 have e:yh 1 4 [(V.sc (.int .u8 (0:Int))),(V.sc (.int .u8 (0:Int))),(V.sc (.int .u8 (0:Int))),(V.sc (.int .u8 (0:Int)))]=zn .u8 z4:=rfl
 rw [e]
 refine (zxU hL hb (by omega) _ L 0 z4 [] (by omega) (by omega) zzE zBd (by simp)).trans ?_
 rfl
theorem zzA {L:Nat} (hL:20000≤L) {j:List Int} (hb:Byt j) (hj:j.length≤10000) (k:List (List V)→Int→Option β):ze β L (zn .u8 j) k=k (zez (scn L j).1) (((scn L j).2.1:Nat):Int):=by
 have h:=zsA L hb
 unfold ze zmp
 rw [zAQ hL hb hj,zkH h.2.1,zk]
def zW (r:Rec):List Int:=zkf ((r.d.length:Nat):Int)++[IntKind.wrap .u8 r.kd]++zkf r.ht++r.d
theorem ze3 (r:Rec):(zW r).length=9+r.d.length:=by simp [zW,zhV]; omega
theorem ztN {r:Rec} (h:Byt r.d):Byt (zW r):=by
 unfold zW
 refine Byt.app (Byt.app (Byt.app (zAI _) ?_) (zAI _)) h
 intro x hx
 rw [List.mem_singleton] at hx; subst hx; exact zuS _
noncomputable def appK (L:Nat) (j:List Int) (r:Rec) (k:List (List V)→Int→Option β):Option β :=
 if r.okB=true then (if (scn L j).2.1+13+r.d.length≤1048576 then k (zn .u8 (j.take (scn L j).2.1++zW r++crc (scn L j).2.2 (zW r))) 0 else k [] 4) else k [] 6
theorem zCZ (n:Int):yh 1 1 [V.sc (.int .u8 n)]=zn .u8 [n]:=rfl
theorem zqt {r:Rec} (h:r.okB=true):r.d.length≤4096∧1≤r.kd∧r.kd≤5∧0≤r.ht∧r.ht≤16777216:=by
 unfold Rec.okB at h
 simp only [Bool.and_eq_true,decide_eq_true_eq] at h
 omega
theorem zxC {L:Nat} (hL:20000≤L) {j:List Int} (hb:Byt j) (hj:j.length≤10000) {r:Rec} (hr:Byt r.d) (k:List (List V)→Int→Option β):ya β L (zn .u8 j) r.v k=appK L j r k:=by
 have h:=zsA L hb
 unfold ya zke appK
 rw [zgu,zsu,zz0]
 cases c1:r.okB with
 | false=>rw [Bool.not_false,ziy,if_neg (by decide)]
 | true =>
  have hl:=zqt c1
  have w1:IntKind.wrap .i64 ((((scn L j).2.1:Nat):Int)+9)=(((scn L j).2.1+9:Nat):Int):=by rw [yy (by omega) (by omega)]; omega
  have w2:IntKind.wrap .i64 ((((scn L j).2.1+9:Nat):Int)+((r.d.length:Nat):Int))=(((scn L j).2.1+9+r.d.length:Nat):Int):=by rw [yy (by omega) (by omega)]; omega
  have w3:IntKind.wrap .i64 ((((scn L j).2.1+9+r.d.length:Nat):Int)+4)=(((scn L j).2.1+13+r.d.length:Nat):Int):=by rw [yy (by omega) (by omega)]; omega
  rw [Bool.not_true,zeO,if_pos rfl,zAQ hL hb hj,zkH h.2.1,zte h.2.1,zk,w1,zk,zn4,zx,w2,zk,w3,zk]
  by_cases c2:(scn L j).2.1+13+r.d.length≤1048576
  ·rw [xL (by omega),if_pos c2,zn4,zx,zdn (by omega) (by omega),zk,zu7 .u8,zDS (by omega) (by simp),List.nil_append,zrb,zk,zCZ,zx,zx,zf (zqy (by simp [zhV])),zcL,zk,zrP,zdn (by omega) (by omega),zk,zDS (by omega) (by simp [zhV]),zn4,zx,zx,zf (zqy (by simp [zhV]; omega)),zcL,zk,zl1 h.2.1,zog h.2.1]
   have eE:zkf ((r.d.length:Nat):Int)++[IntKind.wrap .u8 r.kd]++zkf r.ht++r.d=zW r:=rfl
   have hc:=zkp (scn L j).2.2 (zW r)
   have hT:(j.take (scn L j).2.1).length=(scn L j).2.1:=by rw [List.length_take]; omega
   rw [eE,zz4 hL h.2.1 h.2.2 (ztN hr) (by rw [ze3]; omega),zkH hc,zte hc,zk,zf (by rw [xu,hc]; decide),zf ⟨by omega,by rw [zx]; omega⟩,zf (by rw [xu,hc]; decide),Int.toNat_natCast,Nat.sub_zero,List.drop_zero,zh2,zxe (by omega),List.take_of_length_le (show (crc (scn L j).2.2 (zW r)).length≤4 by omega),zA4,zx6 (by omega) _ (by simp) (by rw [zEP,ze3,hc,hT]; omega),zDW]
  ·rw [zO (by omega),if_neg c2]
theorem zwD {L:Nat} (hL:20000≤L) {j:List Int} (hb:Byt j) (hj:j.length≤10000) {r:Rec} (hr:Byt r.d) (k:List (List V)→Int→Option β):xc β L (zn .u8 j) r.v k=appK L j r k:=by
 have h:=zsA L hb
 unfold xc zlW appK
 rw [zgu,zsu,zxR]
 cases c1:r.okB with
 | false=>rw [Bool.not_false,ziy,if_neg (by decide)]
 | true =>
  have hl:=zqt c1
  have w1:IntKind.wrap .i64 ((((scn L j).2.1:Nat):Int)+13)=(((scn L j).2.1+13:Nat):Int):=by rw [yy (by omega) (by omega)]; omega
  have w2:IntKind.wrap .i64 ((((scn L j).2.1+13:Nat):Int)+((r.d.length:Nat):Int))=(((scn L j).2.1+13+r.d.length:Nat):Int):=by rw [yy (by omega) (by omega)]; omega
  rw [Bool.not_true,zeO,if_pos rfl,zDv hL hb hj,w1,zk,zn4,zx,w2,zk]
  by_cases c2:(scn L j).2.1+13+r.d.length≤1048576
  ·rw [xL (by omega),if_pos c2,zn4,zx,zdn (by omega) (by omega),zk,zu7 .u8,zCj (by omega) (by simp),List.nil_append,zrb,zk,zCZ,zx,zx,zf (zqy (by simp [zhV])),zcL,zk,zrP,zdn (by omega) (by omega),zk,zCj (by omega) (by simp [zhV]),zn4,zyS,ztH (by omega) _ (by simp) (by rw [zBv]; simp [zhV]; omega),zyN]
   have eE:zkf ((r.d.length:Nat):Int)++[IntKind.wrap .u8 r.kd]++zkf r.ht++r.d=zW r:=rfl
   have hc:=zkp (scn L j).2.2 (zW r)
   have hT:(j.take (scn L j).2.1).length=(scn L j).2.1:=by rw [List.length_take]; omega
   rw [eE,zf ⟨by omega,by rw [zx]; omega⟩,zy7 hL h.2.1 h.2.2 (ztN hr) (by rw [ze3]; omega),Int.toNat_natCast,Nat.sub_zero,List.drop_zero,zh2,zA4,ztH (by omega) _ (by simp) (by rw [zEP,ze3,hc,hT]; omega),zDW]
  ·rw [zO (by omega),if_neg c2]
end
section
set_option linter.unusedVariables false
set_option linter.unusedSimpArgs false
set_option maxRecDepth 100000
variable {β:Type}
theorem zwJ (n:Int) (h0:0≤n) (h1:n≤4294967295) (i:Nat) (hi:i < 4):IntKind.wrap .u8 (zb9 .u64 n (8 * (i:Int)))=n / (256 ^ i:Nat) % 256:=by
 rw [zti]
 unfold zb9
 have e:min (8 * (i:Int)).toNat (IntKind.bits .u64)=8 * i:=by
  show min (8 * (i:Int)).toNat 64=8 * i
  omega
 rw [e]
 have e2:(2:Int) ^ (8 * i)=((256 ^ i:Nat):Int):=by
  rw [Int.pow_mul,Int.natCast_pow]; rfl
 rw [e2,Int.fdiv_eq_ediv_of_nonneg _ (Int.natCast_nonneg _)]
theorem zAu {n:Int} (h0:0≤n) (h1:n≤4294967295):zkf n=[n % 256,n / 256 % 256,n / 65536 % 256,n / 16777216 % 256]:=by
 have q0:=zwJ n h0 h1 0 (by omega)
 have q1:=zwJ n h0 h1 1 (by omega)
 have q2:=zwJ n h0 h1 2 (by omega)
 have q3:=zwJ n h0 h1 3 (by omega)
 have e:zkf n=[IntKind.wrap .u8 (zb9 .u64 n (8 * ((0:Nat):Int))),IntKind.wrap .u8 (zb9 .u64 n (8 * ((1:Nat):Int))),IntKind.wrap .u8 (zb9 .u64 n (8 * ((2:Nat):Int))),IntKind.wrap .u8 (zb9 .u64 n (8 * ((3:Nat):Int)))]:=by
  unfold zkf; rw [zds h0 (by omega)]; rfl
 rw [e,q0,q1,q2,q3]
 simp
def hd9 (r:Rec):List Int:=zkf ((r.d.length:Nat):Int)++[IntKind.wrap .u8 r.kd]++zkf r.ht
theorem zA0 (r:Rec):zW r=hd9 r++r.d:=rfl
theorem zD5 (r:Rec):(hd9 r).length=9:=by simp [hd9,zhV]
theorem zEV {r:Rec} (h:r.okB=true):hd9 r=[((r.d.length:Nat):Int) % 256,((r.d.length:Nat):Int) / 256 % 256,((r.d.length:Nat):Int) / 65536 % 256,((r.d.length:Nat):Int) / 16777216 % 256,r.kd,r.ht % 256,r.ht / 256 % 256,r.ht / 65536 % 256,r.ht / 16777216 % 256]:=by
 have hl:=zqt h
 unfold hd9
 rw [zAu (by omega) (by omega),zAu (by omega) (by omega),zEt (by omega) (by omega)]
 rfl
theorem zoX (pre X:List Int) (i:Nat):(pre++X).getD (pre.length+i) 0=X.getD i 0:=by
 simp [List.getD_eq_getElem?_getD,List.getElem?_append_right]
theorem zAG (pre X:List Int) (i:Nat):le4 (pre++X) (pre.length+i)=le4 X i:=by
 unfold le4
 rw [Nat.add_assoc,Nat.add_assoc,Nat.add_assoc,zoX,zoX,zoX,zoX]
theorem zxn (pre X:List Int) (a b:Nat):slc (pre++X) (pre.length+a) (pre.length+b)=slc X a b:=by
 unfold slc
 rw [List.drop_append,show pre.length+b - (pre.length+a)=b - a by omega]
 have e1:List.drop (pre.length+a) pre=[]:=List.drop_of_length_le (by omega)
 rw [e1,List.nil_append,Nat.add_sub_cancel_left]
theorem zDx {r:Rec} (h:r.okB=true) (T:List Int):le4 (zW r++T) 0=((r.d.length:Nat):Int)∧(zW r++T).getD 4 0=r.kd∧le4 (zW r++T) 5=r.ht∧slc (zW r++T) 9 (9+r.d.length)=r.d∧slc (zW r++T) 0 (9+r.d.length)=zW r:=by
 have hl:=zqt h
 have e:zW r++T=[((r.d.length:Nat):Int) % 256,((r.d.length:Nat):Int) / 256 % 256,((r.d.length:Nat):Int) / 65536 % 256,((r.d.length:Nat):Int) / 16777216 % 256,r.kd,r.ht % 256,r.ht / 256 % 256,r.ht / 65536 % 256,r.ht / 16777216 % 256]++(r.d++T):=by
  rw [zA0,zEV h,List.append_assoc]
 refine ⟨?_,?_,?_,?_,?_⟩
 ·rw [e]; unfold le4; simp only [List.cons_append,List.getD_cons_zero,List.getD_cons_succ]; omega
 ·rw [e]; rfl
 ·rw [e]
  unfold le4
  show r.ht % 256+256 * (r.ht / 256 % 256)+65536 * (r.ht / 65536 % 256)+16777216 * (r.ht / 16777216 % 256)=r.ht
  omega
 ·unfold slc
  have e9:List.drop 9 (zW r++T)=r.d++T:=by
   rw [zA0,List.append_assoc]
   have:=List.drop_left' (l₁:=hd9 r) (l₂:=r.d++T) (zD5 r)
   exact this
  rw [e9,Nat.add_sub_cancel_left,List.take_append_of_le_length (Nat.le_refl _),List.take_length]
 ·unfold slc
  rw [List.drop_zero,Nat.sub_zero,List.take_append_of_le_length (by rw [ze3]; omega),List.take_of_length_le (by rw [ze3]; omega)]
theorem zDe {pre rest last:List Int} {r:Rec} (h:r.okB=true):nextO (pre++(zW r++(crc last (zW r)++rest))) pre.length last=some (r,pre.length+13+r.d.length,crc last (zW r)):=by
 obtain ⟨v0,v1,v2,v3,v4⟩:=zDx h (crc last (zW r)++rest)
 have hl:=zqt h
 have hc:=zkp last (zW r)
 have p0:=zAG pre (zW r++(crc last (zW r)++rest)) 0
 have p5:=zAG pre (zW r++(crc last (zW r)++rest)) 5
 have p4:=zoX pre (zW r++(crc last (zW r)++rest)) 4
 rw [Nat.add_zero] at p0
 have ef:xT (pre++(zW r++(crc last (zW r)++rest))) pre.length=r.d.length:=by
  unfold xT; rw [p0,v0,Int.toNat_natCast]
 have er:zjW (pre++(zW r++(crc last (zW r)++rest))) pre.length=r:=by
  unfold zjW
  rw [ef,p4,v1,p5,v2,show pre.length+9+r.d.length=pre.length+(9+r.d.length) by omega,zxn,v3]
 have s1:slc (pre++(zW r++(crc last (zW r)++rest))) pre.length (pre.length+9+r.d.length)=zW r:=by
  have:=zxn pre (zW r++(crc last (zW r)++rest)) 0 (9+r.d.length)
  rw [Nat.add_zero] at this
  rw [show pre.length+9+r.d.length=pre.length+(9+r.d.length) by omega,this,v4]
 have s2:slc (pre++(zW r++(crc last (zW r)++rest))) (pre.length+9+r.d.length) (pre.length+13+r.d.length)=crc last (zW r):=by
  rw [show pre.length+9+r.d.length=pre.length+(9+r.d.length) by omega,show pre.length+13+r.d.length=pre.length+(13+r.d.length) by omega,zxn]
  unfold slc
  rw [← ze3 r,List.drop_left,ze3,show 13+r.d.length - (9+r.d.length)=4 by omega,← hc,List.take_left]
 unfold nextO
 rw [if_pos ⟨by rw [p0,v0]; omega,by rw [ef]; simp only [List.length_append,ze3,hc]; omega,by rw [er]; exact h,by rw [ef,s1,s2]⟩,ef,er,s1]
theorem zrh {j last:List Int} {a:Nat} (h:j.length < a+13):nextO j a last=none:=by
 unfold nextO
 rw [if_neg (fun q=>by have:=q.2.1; omega)]
theorem zrm {j last:List Int} {a n:Nat} (acc:List Rec) (h:nextO j a last=none):scanO n j a last acc=(acc,a,last):=by
 cases n with
 | zero=>rfl
 | succ n=>rw [scanO,h]
theorem zBp {j last f:List Int} {a n e:Nat} {r:Rec} (acc:List Rec) (h:nextO j a last=some (r,e,f)):scanO (n+1) j a last acc=scanO n j e f (acc++[r]):=by rw [scanO,h]
def rS:Rec:=⟨4,0,[]⟩
theorem zDV:rS.okB=true:=by decide
theorem zEX {L:Nat} (hL:20000≤L) (k:Bool→Option β):zc β L k=k true:=by
 obtain ⟨m,rfl⟩:∃ m,L=m+1:=⟨L - 1,by omega⟩
 unfold zc zoU
 have e0:scn (m+1) []=([],0,z4):=zrm _ (zrh (by simp))
 have hb0:Byt rS.d:=Byt.nil
 have er:[(V.sc (.int .i64 (4:Int))),(V.sc (.int .i64 (0:Int))),(V.sl 1 ([]:List (List V)))]=rS.v:=rfl
 have eA:∀ k':List (List V)→Int→Option β,appK (m+1) [] rS k'=k' (zn .u8 (zW rS++crc z4 (zW rS))) 0:=by
  intro k'
  unfold appK
  rw [if_pos zDV,e0]
  exact (if_pos (by decide)).trans rfl
 rw [er,zu7 .u8,zxC hL Byt.nil (by simp) hb0,eA]
 have hlen:(zW rS++crc z4 (zW rS)).length=13:=by rw [List.length_append,ze3,zkp]; rfl
 have hby:Byt (zW rS++crc z4 (zW rS)):=(ztN hb0).app (zvA _ _)
 have e1:scn (m+1) (zW rS++crc z4 (zW rS))=([rS],13,crc z4 (zW rS)):=by
  have:=zDe (pre:=[]) (rest:=[]) (last:=z4) zDV
  rw [List.nil_append,List.append_nil] at this
  unfold scn
  rw [show ([]:List Int).length=0 from rfl] at this
  rw [zBp [] this]
  exact zrm _ (zrh (by rw [hlen]; decide))
 have e2:scn (m+1) ((zW rS++crc z4 (zW rS)).take 12)=([],0,z4):=zrm _ (zrh (by rw [List.length_take,hlen]; decide))
 rw [zzA hL hby (by omega),e1,zx,hlen]
 have ei:zE9 (12:Int) ((13:Nat):Int)=((12:Nat):Int):=by decide
 rw [ei,zk,zf (by decide),Int.toNat_natCast,Nat.sub_zero,List.drop_zero,zh2,zzA hL (hby.take 12) (by rw [List.length_take]; omega),e2]
 rfl
theorem zBX (L:Nat) (v n:Int) (hn:1≤n) (hn2:n≤1000000000000):∃ r,0≤r∧r < n∧∀ (β:Type) (k:Int→Option β),zd β L v n k=k r:=by
 by_cases h:Int.tmod v n < 0
 ·have h1:=Int.lt_tmod_of_pos v (show 0 < n by omega)
  refine ⟨Int.tmod v n+n,by omega,by omega,fun β k=>?_⟩
  simp only [zd,zn7,zk]
  rw [zf (by omega),zO h,yy (by omega) (by omega)]
 ·have h1:=Int.tmod_lt_of_pos v (show 0 < n by omega)
  refine ⟨Int.tmod v n,by omega,h1,fun β k=>?_⟩
  simp only [zd,zn7,zk]
  rw [zf (by omega),xL h]
structure Dk where
 l:List Int
 a:Int
 h0:0≤a
 h1:a≤l.length
 hl:l.length≤9223372036854775807
def Dk.es (d:Dk):List (List V):=zn .i64 d.l
theorem zqI (L:Nat) (d:Dk) (n:Int) (hn:1≤n) (hn2:n≤1000000000000):∃ (r:Int) (d':Dk),0≤r∧r < n∧∀ (β:Type) (k:Int→List (List V)→Int→Option β),za β L n d.es d.a k=k r d'.es d'.a:=by
 obtain ⟨l,a,h0,h1,hl⟩:=d
 simp only [Dk.es]
 by_cases h:a < l.length
 ·obtain ⟨i,rfl⟩:∃ i:Nat,a=i:=⟨a.toNat,by omega⟩
  have hi:i < l.length:=by omega
  obtain ⟨r,q1,q2,q3⟩:=zBX L l[i] n hn hn2
  refine ⟨r,⟨l,i+1,by omega,by omega,hl⟩,q1,q2,fun β k=>?_⟩
  simp only [za,zgY,zL,zg0,zk,zx]
  have w1:IntKind.wrap .i64 ((i:Int)+1)=(i:Int)+1:=yy (by omega) (by omega)
  have w2:IntKind.wrap .i64 ((i:Int)+1 - 1)=(i:Int):=by rw [yy (by omega) (by omega)]; omega
  rw [zzB,if_pos (by omega),w1,w2,zfn (zzj _ hi),zqC (by rfl),q3]
 ·refine ⟨0,⟨l,a,h0,h1,hl⟩,by omega,by omega,fun β k=>?_⟩
  simp only [za,zgY,zL,zg0,zk,zx]
  rw [zzB,if_neg (by omega)]
theorem zDg (L:Nat) (d:Dk):∃ (r:Int) (d':Dk),1≤r∧r≤5∧∀ (β:Type) (k:Int→List (List V)→Int→Option β),zl β L 1 5 d.es d.a k=k r d'.es d'.a:=by
 obtain ⟨x,d',h0,h1,q⟩:=zqI L d 5 (by decide) (by decide)
 refine ⟨1+x,d',by omega,by omega,fun β k=>?_⟩
 unfold zl zjl
 have w1:IntKind.wrap .i64 ((5:Int) - 1)=4:=by decide
 have w2:IntKind.wrap .i64 ((4:Int)+1)=5:=by decide
 rw [w1,zk,w2,zk,q,yy (by omega) (by omega),zk]
theorem zzX (L:Nat):∀ (n m:Nat) (d:Dk) (l:List Int),m < n→l.length+m≤20→Byt l→∃ (l':List Int) (d':Dk),l'.length≤l.length+m∧Byt l'∧∀ (β:Type) (kx:zlu β) (b30 b31:Int) (b32:List (List V)) (b40 b41:Int),
  zcw zl za L kx n (m:Int) d.es d.a b30 b31 b32 b40 b41 (zn .u8 l)=kx d'.es d'.a b30 b31 b32 b40 b41 (zn .u8 l')
 | 0,m,d,l,h,_,_=>by omega
 | n+1,0,d,l,h,hm,hb=>by
  refine ⟨l,d,by omega,hb,fun β kx b30 b31 b32 b40 b41=>?_⟩
  rw [zcw]
  unfold zfG
  rw [xL (by omega)]
 | n+1,m+1,d,l,h,hm,hb=>by
  obtain ⟨x,d1,_,_,q⟩:=zqI L d 256 (by decide) (by decide)
  obtain ⟨l',d',e1,e2,e3⟩:=zzX L n m d1 (l++[IntKind.wrap .u8 x]) (by omega) (by simp; omega) (hb.app (by intro y hy; rw [List.mem_singleton] at hy; subst hy; exact zuS _))
  refine ⟨l',d',by simp at e1; omega,e2,fun β kx b30 b31 b32 b40 b41=>?_⟩
  rw [zcw]
  unfold zfG
  rw [zO (by omega),q,zk,zCZ,zx,zx,zf (zqy (by simp; omega)),zcL,zk,show IntKind.wrap .i64 (((m+1:Nat):Int) - 1)=(m:Int) by rw [yy (by omega) (by omega)]; omega,zk]
  exact e3 β kx b30 b31 b32 b40 b41
structure Rec.Small (r:Rec):Prop where
 ok:r.okB=true
 len:r.d.length≤11
 by8:Byt r.d
theorem ztm {L:Nat} (hL:100≤L) (d:Dk):∃ (r:Rec) (d':Dk),r.Small∧∀ (β:Type) (k:List V→List (List V)→Int→Option β),xa β L d.es d.a k=k r.v d'.es d'.a:=by
 obtain ⟨x1,d1,h1,h2,y1⟩:=zDg L d
 obtain ⟨x2,d2,h3,h4,y2⟩:=zqI L d1 9 (by decide) (by decide)
 obtain ⟨x3,d3,h5,h6,y3⟩:=zqI L d2 12 (by decide) (by decide)
 obtain ⟨m,rfl⟩:∃ m:Nat,x3=m:=⟨x3.toNat,by omega⟩
 obtain ⟨l,d4,e1,e2,e3⟩:=zzX L L m d3 [] (by omega) (by simp; omega) Byt.nil
 simp only [List.length_nil,Nat.zero_add] at e1
 refine ⟨⟨x1,x2,l⟩,d4,⟨by unfold Rec.okB; simp only [Bool.and_eq_true,decide_eq_true_eq]; omega,by show l.length≤11; omega,e2⟩,fun β k=>?_⟩
 unfold xa zjU znn
 rw [y1,y2,y3]
 refine (e3 β _ _ _ _ _ _).trans ?_
 unfold zg3
 rw [zvP,zk,zwV]
end
section
set_option linter.unusedVariables false
set_option linter.unusedSimpArgs false
set_option maxRecDepth 100000
variable {β:Type}
theorem zAw (L:Nat) {j:List Int} (hb:Byt j) {r:Rec} (hr:Byt r.d):∃ (l:List Int) (e:Int),Byt l∧l.length≤j.length+13+r.d.length∧∀ (β:Type) (k:List (List V)→Int→Option β),appK L j r k=k (zn .u8 l) e:=by
 have h:=zsA L hb
 by_cases c1:r.okB=true
 ·by_cases c2:(scn L j).2.1+13+r.d.length≤1048576
  ·refine ⟨_,0,?_,?_,fun β k=>by unfold appK; rw [if_pos c1,if_pos c2]⟩
   ·exact ((hb.take _).app (ztN hr)).app (zvA _ _)
   ·simp only [List.length_append,List.length_take,ze3,zkp]; omega
  ·exact ⟨[],4,Byt.nil,by simp,fun β k=>by unfold appK; rw [if_pos c1,if_neg c2]; rfl⟩
 ·exact ⟨[],6,Byt.nil,by simp,fun β k=>by unfold appK; rw [if_neg c1]; rfl⟩
theorem zyZ (L:Nat) (es:List (List V)) (k:List (List V)→Int→Option β):xb β L es k=k es 0:=by
 unfold xb zrA; exact Eq.trans rfl rfl
theorem zFz (x:Int):yh 1 1 [V.sc (.int .i64 x)]=zn .i64 [x]:=rfl
theorem zwv {L:Nat} (hL:20000≤L):∀ (n m:Nat) (d:Dk) (j:List Int) (rs:List Rec) (en:List Int),m < n→j.length+24 * m≤1000→Byt j→rs.length+m≤100→en.length+m≤100→∃ (j':List Int) (rs':List Rec) (en':List Int) (d':Dk),j'.length≤j.length+24 * m∧Byt j'∧∀ (β:Type) (kx:zll β),
  zbB xb za xa xc L kx n (zn .u8 j) (zez rs) (zn .i64 en) (m:Int) d.es d.a=kx (zn .u8 j') (zez rs') (zn .i64 en') d'.es d'.a
 | 0,m,d,j,rs,en,h,_,_,_,_=>by omega
 | n+1,0,d,j,rs,en,h,hm,hb,_,_=>by
  refine ⟨j,rs,en,d,by omega,hb,fun β kx=>?_⟩
  rw [zbB]
  unfold zdX
  rw [xL (by omega)]
 | n+1,m+1,d,j,rs,en,h,hm,hb,hr,he=>by
  obtain ⟨r,d1,hs,q1⟩:=ztm (L:=L) (by omega) d
  obtain ⟨l,e,g1,g2,g3⟩:=zAw L hb hs.by8
  have hlen:=hs.len
  obtain ⟨j',rs',en',d',e1,e2,e3⟩:=zwv hL n m d1 l (rs++[r]) (en++[((l.length:Nat):Int)]) (by omega) (by omega) g1 (by simp; omega) (by simp; omega)
  refine ⟨j',rs',en',d',by omega,e2,fun β kx=>?_⟩
  rw [zbB]
  unfold zdX
  rw [zO (by omega),q1,zhg,zoz,zk,zgu,zsu,zwD hL hb (by omega) hs.by8,g3,zgu,zmq,zhg,zw4,zxa,zf (by rw [zva]; unfold xi; simp; omega),zuV,zk,show (zn .u8 l).length=l.length from zx _ _,zFz,zf (by rw [zx,zx]; unfold xi; simp; omega),zcL,zk,show IntKind.wrap .i64 (((m+1:Nat):Int) - 1)=(m:Int) by rw [yy (by omega) (by omega)]; omega,zk]
  exact e3 β kx
theorem zDj {L:Nat} (hL:20000≤L) (d:Dk) (hd:d.a=0):∃ (j:List Int) (rs:List Rec) (en:List Int),j.length≤200∧Byt j∧∀ (β:Type) (k:List (List V)→List (List V)→List (List V)→Option β),xf β L d.es k=k (zn .u8 j) (zez rs) (zn .i64 en):=by
 obtain ⟨x,d1,h0,h1,q1⟩:=zqI L d 7 (by decide) (by decide)
 obtain ⟨m,rfl⟩:∃ m:Nat,x=m:=⟨x.toNat,by omega⟩
 obtain ⟨j,rs,en,d2,e1,e2,e3⟩:=zwv hL L m d1 [] [] [] (by omega) (by simp; omega) Byt.nil (by simp; omega) (by simp; omega)
 refine ⟨j,rs,en,by simp at e1; omega,e2,fun β k=>?_⟩
 unfold xf zj3 znk
 have q:=q1 β
 rw [hd] at q
 rw [zyZ,q]
 refine (e3 β _).trans ?_
 rfl
theorem ain {L:Nat} (hL:20000≤L) {y:List Int} (hy:Byt y) (hyl:y.length≤10000) (rs:List Rec) (hr:∀ r ∈ rs,Byt r.d) (hl:rs.length≤100) (kr:Bool→List (List V)→Int→Option β) (kx:zeY β) (p0 p52:List (List V)) (p53 p54:Int) (b6:List V) (b0 b1:Int) (b2 c0:List (List V)) (c1:Int) (d0:List (List V)) (d1:Int):∀ (n i:Nat),i≤rs.length→rs.length - i < n →
  yS zc xf xb xa zd yb ya xc zb L kr kx n p0 (zn .u8 y) p52 p53 p54 (zez rs) (rs.length:Int) (i:Int) b6 b0 b1 b2 c0 c1 d0 d1=kx p0 p52 p53 p54 b6 b0 b1 b2 c0 c1 d0 d1
 | 0,i,h1,h2=>by omega
 | n+1,i,h1,h2=>by
  rw [yS]
  unfold zbe
  by_cases h:i < rs.length
  ·have hg:(zez rs)[i]?=some rs[i].v:=by simp [zez,h]
   have hri:=hr rs[i] (List.getElem_mem h)
   obtain ⟨l,e,_,_,g3⟩:=zAw L hy hri
   rw [zO (by omega),zfn hg,zmq,zhg,zoz,zk,zgu,zsu,zxC hL hy hyl hri,g3,zgu,zwD hL hy hyl hri,g3,zdV,if_pos rfl,zCM,Bool.not_true,zeO,zaM (by omega),zk]
   exact ain hL hy hyl rs hr hl kr kx p0 p52 p53 p54 b6 b0 b1 b2 c0 c1 d0 d1 n (i+1) (by omega) (by omega)
  ·rw [xL (by omega)]
def z9:List V:=[(V.sc (.int .i64 (0:Int))),(V.sc (.int .i64 (0:Int))),(V.sl 1 ([]:List (List V))),(V.sc (.int .i64 (0:Int))),(V.sc (.int .i64 (0:Int))),(V.sl 1 ([]:List (List V))),(V.sc (.int .i64 (0:Int))),(V.sc (.int .i64 (0:Int))),(V.sl 1 ([]:List (List V)))]
theorem zDk (a b c:Rec):yh 3 3 (xn (xn (xn [(V.sc (.int .i64 (0:Int))),(V.sc (.int .i64 (0:Int))),(V.sl 1 ([]:List (List V))),(V.sc (.int .i64 (0:Int))),(V.sc (.int .i64 (0:Int))),(V.sl 1 ([]:List (List V))),(V.sc (.int .i64 (0:Int))),(V.sc (.int .i64 (0:Int))),(V.sl 1 ([]:List (List V)))] 0 a.v) 3 b.v) 6 c.v)=zez [a,b,c]:=Eq.trans rfl rfl
theorem zEK {L:Nat} (hL:20000≤L) (d:Dk) (hd:d.a=0) (ls:List (List Int)) (hls:∀ y ∈ ls,Byt y∧y.length≤10000) (hl:ls.length≤100) {r x:Rec} (hr:Byt r.d) (hx:Byt x.d) (kr:Bool→List (List V)→Int→Option β) (kx:List (List V)→Int→Option β) (c0:List (List V)) (c1:Int):∀ (n i:Nat),i≤ls.length→ls.length - i < n →
  zaz zc xf xb xa zd yb ya xc zb L kx kr n d.es (zmc ls) (ls.length:Int) (i:Int) r.v x.kd x.ht (zn .u8 x.d) c0 c1=kx c0 c1
 | 0,i,h1,h2=>by omega
 | n+1,i,h1,h2=>by
  rw [zaz]
  unfold zbb zcE
  by_cases h:i < ls.length
  ·obtain ⟨hy,hyl⟩:=hls ls[i] (List.getElem_mem h)
   obtain ⟨r3,d2,hs,q1⟩:=ztm (L:=L) (by omega) d
   have q:=q1 β
   rw [hd] at q
   rw [zO (by omega),zfn (ztF h),zBy,zgu,zyZ,q,zmq,zf ⟨rfl,by decide⟩,zf ⟨rfl,Nat.le_add_left 6 3⟩,zf ⟨rfl,Nat.le_refl 9⟩,zvP,zDk]
   refine (ain hL hy hyl [r,x,r3] (by
    intro z hz
    simp only [List.mem_cons,List.not_mem_nil,or_false] at hz
    rcases hz with rfl | rfl | rfl
    ·exact hr
    ·exact hx
    ·exact hs.by8) (by simp) _ _ d.es (zmc ls) _ _ r.v x.kd x.ht (zn .u8 x.d) c0 c1 d2.es d2.a L 0 (by simp) (by simp; omega)).trans ?_
   unfold za7
   rw [zaM (by omega),zk]
   exact zEK hL d hd ls hls hl hr hx kr kx c0 c1 n (i+1) (by omega) (by omega)
  ·rw [xL (by omega)]
theorem zFb {a:List V} (h:HasRow (List.replicate 2 (.int .i64)++[.sl ([.int .u8])]) a):∃ r:Rec,a=r.v∧Byt r.d:=by
 obtain ⟨hl,hc⟩:=h
 match a,hl with
 | [x,y,z],_ =>
  obtain ⟨n,rfl,_⟩:=(hc 0 x (.int .i64) rfl rfl).int_inv
  obtain ⟨m,rfl,_⟩:=(hc 1 y (.int .i64) rfl rfl).int_inv
  obtain ⟨es,rfl,_,he⟩:=(hc 2 z (.sl [.int .u8]) rfl rfl).sl_inv
  obtain ⟨l,rfl,hw⟩:=ztA he
  exact ⟨⟨n,m,l⟩,rfl,zCd hw⟩
theorem zFN (n:Nat):List.replicate n [(V.sc (.int .u8 (0:Int)))]=zn .u8 (List.replicate n 0):=by simp [zn]
theorem zEZ {l:List Int} (hl:l.length≤maxLen):∃ d:Dk,d.es=zn .i64 l∧d.a=0:=⟨⟨l,0,by omega,by omega,by unfold maxLen at hl; omega⟩,rfl,rfl⟩
theorem zq7 (a0 a1:List (List V)) (a2:List V) (a3:Int) (hl0:a0.length≤maxLen) (wf0:∀ e ∈ a0,HasRow [.int .i64] e) (hl1:a1.length≤maxLen) (wf1:∀ e ∈ a1,HasRow [.int .u8] e) (wf2:HasRow (List.replicate 2 (.int .i64)++[.sl ([.int .u8])]) a2) (wf3:(Lit.int .i64 a3).wf=true) :
  ∃ L,∀ k:Bool→Option Bool,zaj Bool L a0 a1 a2 a3 k=k true:=by
 obtain ⟨l,rfl,_⟩:=ztA wf0
 obtain ⟨raw,rfl,hw⟩:=ztA wf1
 obtain ⟨r,rfl,hr⟩:=zFb wf2
 rw [zx] at hl0
 obtain ⟨d,ed,hd⟩:=zEZ hl0
 obtain ⟨L,hL⟩:∃ L:Nat,20000≤L:=⟨20000,Nat.le_refl _⟩
 refine ⟨L,fun k=>?_⟩
 unfold zaj zdu zfV
 rw [zEX hL,Bool.not_true,zeO,zx]
 rcases Classical.em (¬ (raw.length≤200)) with g1 | g1'
 ·rw [zO (by omega)]
 have g1:raw.length≤200:=Classical.not_not.1 g1'
 rw [xL (by omega),zn4,zx]
 rcases Classical.em (¬ (r.d.length≤100)) with g2 | g2'
 ·rw [zO (by omega)]
 have g2:r.d.length≤100:=Classical.not_not.1 g2'
 obtain ⟨j,rs,en,j1,j2,j3⟩:=zDj hL d hd
 obtain ⟨x,d2,hs,q1⟩:=ztm (L:=L) (by omega) d
 obtain ⟨y,y0,y1,q2⟩:=zBX L a3 3 (by decide) (by decide)
 have qj:=j3 Bool
 have qx:=q1 Bool
 rw [hd] at qx
 have hbr:=zCd hw
 have w1:IntKind.wrap .i64 ((4095:Int)+y)=4095+y:=yy (by omega) (by omega)
 rw [xL (by omega),← ed,qj,zyZ,qx,zE8,zrb,zrP,zFs,q2,w1,zk,zf ⟨by omega,by omega,by unfold xi; omega,by unfold xi; omega⟩,zyS,ztH (by omega) _ (by simp) (by rw [zBv]; omega),zyN,zA4,zru,zFN]
 refine (zEK hL d hd [j,j++raw,raw] (by
  intro z hz
  simp only [List.mem_cons,List.not_mem_nil,or_false] at hz
  rcases hz with rfl | rfl | rfl
  ·exact ⟨j2,by omega⟩
  ·exact ⟨j2.app hbr,by rw [List.length_append]; omega⟩
  ·exact ⟨hbr,by omega⟩) (by simp) (r:=r) (x:=⟨x.kd,x.ht,List.replicate (4095+y).toNat 0⟩) hr (by
   intro z hz
   have:=List.eq_of_mem_replicate hz
   omega) _ _ d2.es d2.a L 0 (by simp) (by simp; omega)).trans ?_
 rfl
end
end Go.Proofs.YteopmmegeagklaaDoor
