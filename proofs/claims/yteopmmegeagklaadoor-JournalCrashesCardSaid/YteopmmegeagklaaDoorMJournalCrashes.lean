/- JournalCrashes: for every input the call returns true, and each argument reads afterwards as it read before. Condition: the package variables lightclient/sha.k and lightclient/sha.initial begin as the program text lays them (the card ties them to the pruned copy of the text); nothing else is asked. -/
import Derived.Laws.Strings
import Derived.LaidMore
import Derived.OpenShut
import Derived.MakeChecks
import Derived.LaidLaws
import Derived.Test.YteopmmegeagklaaDoorCards
import Derived.Test.YteopmmegeagklaaDoorTie
import Derived.SevenTiedAt
import Derived.Stop.Joined
import Derived.Test.YteopmmegeagklaaDoorMJournalCrashes10
namespace Go.Proofs.YteopmmegeagklaaDoor
section
set_option linter.unusedVariables false
set_option linter.unusedSimpArgs false
theorem znu (n:Int):0≤IntKind.wrap .u64 n:=by
 unfold IntKind.wrap
 simp only [IntKind.signed,Bool.false_and,Bool.false_eq_true,if_false]
 exact Int.emod_nonneg _ (by decide)
def zmJ (p n:Int):Int :=
 ior .u32 (zdo .u32 p (ze5 .u64 (IntKind.wrap .u64 (IntKind.wrap .i64 (0 - n))) 31)) (zc3 .u32 p (IntKind.wrap .u64 (32 - (ze5 .u64 (IntKind.wrap .u64 (IntKind.wrap .i64 (0 - n))) 31))))
theorem zCp {β:Type} (L:Nat) (p n:Int) (k:Int→Option β):zr β L p n k=k (ior .u32 (zdo .u32 p (ze5 .u64 (IntKind.wrap .u64 n) 31)) (zc3 .u32 p (IntKind.wrap .u64 (32 - (ze5 .u64 (IntKind.wrap .u64 n) 31))))):=by
 unfold zr zeo
 simp only [xr]
 rw [zj (show 0≤ze5 .u64 (IntKind.wrap .u64 n) 31 from znu _),zj (znu _)]
theorem zyv {β:Type} (L:Nat) (p n:Int) (k:Int→Option β):ze β L p n k=k (zmJ p n):=by
 unfold ze zo4
 simp only [xr]
 rw [zCp]; exact Eq.trans rfl rfl
theorem zbg {β:Type} {k:IntKind} {l:List Int} {j:Nat} (h:j < l.length) (κ:Int→Option β):cI k (row k l) j κ=κ (l.getD j 0) :=
 zj7 (by simp [row,h]) κ
theorem zm3 {k:IntKind} {w:List Int} {j:Nat} (h:j < w.length) (x:Int):xn (row k w) j [V.sc (.int k x)]=row k (w.set j x):=by
 rw [zz8 (by rw [zC]; exact h)]
 simp [row]
theorem zzl {t c:Nat} (h:c≤t) (h2:t≤1000000):IntKind.wrap .i64 ((t:Int) - (c:Int))=((t - c:Nat):Int):=by
 rw [xF (by omega) (by omega)]; omega
def s2 (w:List Int) (t:Nat):Int :=
 IntKind.wrap .u32 (IntKind.wrap .u32 (IntKind.wrap .u32 (w.getD (t - 16) 0+zb1 .u32 (zb1 .u32 (zmJ (w.getD (t - 15) 0) 7) (zmJ (w.getD (t - 15) 0) 18)) (zc3 .u32 (w.getD (t - 15) 0) 3))+w.getD (t - 7) 0)+zb1 .u32 (zb1 .u32 (zmJ (w.getD (t - 2) 0) 17) (zmJ (w.getD (t - 2) 0) 19)) (zc3 .u32 (w.getD (t - 2) 0) 10))
def zw3:Nat→Nat→List Int→List Int
 | 0,_,w=>w
 | m+1,t,w=>zw3 m (t+1) (w.set t (s2 w t))
theorem zw8:∀ (m t:Nat) (w:List Int),(zw3 m t w).length=w.length
 | 0,_,_=>rfl
 | m+1,t,w=>by rw [zw3,zw8 m]; simp
theorem zAK {β:Type} (L:Nat) {t:Nat} (h1:16≤t) (h2:t < 64) (b2:List V) {w:List Int} (hw:w.length=64) (kh:Int→List V→List V→Option β) (kx:List V→List V→Option β):zcJ ze L (t:Int) b2 (row .u32 w) kh kx=kh ((t+1:Nat):Int) b2 (row .u32 (w.set t (s2 w t))):=by
 unfold zcJ
 have e15:IntKind.wrap .i64 ((t:Int) - (15:Int))=((t - 15:Nat):Int):=zzl (c:=15) (by omega) (by omega)
 have e2:IntKind.wrap .i64 ((t:Int) - (2:Int))=((t - 2:Nat):Int):=zzl (c:=2) (by omega) (by omega)
 have e16:IntKind.wrap .i64 ((t:Int) - (16:Int))=((t - 16:Nat):Int):=zzl (c:=16) (by omega) (by omega)
 have e7:IntKind.wrap .i64 ((t:Int) - (7:Int))=((t - 7:Nat):Int):=zzl (c:=7) (by omega) (by omega)
 have c15:0≤((t - 15:Nat):Int)∧((t - 15:Nat):Int) < ((64:Nat):Int):=by omega
 have c2:0≤((t - 2:Nat):Int)∧((t - 2:Nat):Int) < ((64:Nat):Int):=by omega
 have c16:0≤((t - 16:Nat):Int)∧((t - 16:Nat):Int) < ((64:Nat):Int):=by omega
 have c7:0≤((t - 7:Nat):Int)∧((t - 7:Nat):Int) < ((64:Nat):Int):=by omega
 have c0:0≤(t:Int)∧(t:Int) < ((64:Nat):Int):=by omega
 have cl:True∧t+1≤64:=⟨trivial,by omega⟩
 rw [xQ (by omega:(t:Int) < 64)]
 simp only [xr,e15,e2,e16,e7,zj c15,zj c2,zj c16,zj c7,zj c0,Int.toNat_natCast,Nat.mul_one,Nat.zero_add,zyv,zbg (show t - 15 < w.length by omega),zbg (show t - 2 < w.length by omega),zbg (show t - 16 < w.length by omega),zbg (show t - 7 < w.length by omega),zC,hw,zm3 (show t < w.length by omega),zao (show t≤1000000000 by omega)]
 rw [zj cl]
 exact Eq.trans rfl rfl
theorem zvn {β:Type} (L:Nat) (b2:List V) (kx:List V→List V→Option β):∀ (n m t:Nat) (w:List Int),w.length=64→16≤t→t+m=64→m < n→zbN ze L kx n (t:Int) b2 (row .u32 w)=kx b2 (row .u32 (zw3 m t w))
 | 0,m,t,w,_,_,_,h=>by omega
 | n+1,0,t,w,hw,h1,h2,h=>by
  unfold zbN zcJ
  rw [yP (by omega)]; exact Eq.trans rfl rfl
 | n+1,m+1,t,w,hw,h1,h2,h=>by
  unfold zbN
  rw [zAK L h1 (by omega) b2 hw]
  exact zvn L b2 kx n m (t+1) _ (by simpa using hw) (by omega) (by omega) (by omega)
theorem zsh {n:Int} (h1:0≤n) (h2:n < 4294967296):IntKind.wrap .u32 n=n:=zmf h1 (by omega)
theorem zu5 {a b:Int} {n:Nat} (ha:0≤a) (hb:0≤b) (hb2:b < 2 ^ n) (hs:a * 2 ^ n+b < 4294967296):ior .u32 (a * 2 ^ n) b=a * 2 ^ n+b:=by
 obtain ⟨x,rfl⟩:=Int.eq_ofNat_of_zero_le ha
 obtain ⟨y,rfl⟩:=Int.eq_ofNat_of_zero_le hb
 have hy:y < 2 ^ n:=by exact_mod_cast hb2
 have e:((x:Int) * 2 ^ n)=((x * 2 ^ n:Nat):Int):=by rw [Int.natCast_mul,Int.natCast_pow]; rfl
 rw [e] at hs ⊢
 have hxy:x * 2 ^ n+y < 4294967296:=by omega
 unfold ior
 have q1:(BitVec.ofInt (IntKind.bits .u32) ((x * 2 ^ n:Nat):Int)).toNat=x * 2 ^ n:=by
  rw [BitVec.toNat_ofInt]
  show (((x * 2 ^ n:Nat):Int) % ((2 ^ 32:Nat):Int)).toNat=_
  rw [← Int.natCast_emod,Int.toNat_natCast,Nat.mod_eq_of_lt (by omega)]
 have q2:(BitVec.ofInt (IntKind.bits .u32) (y:Int)).toNat=y:=by
  rw [BitVec.toNat_ofInt]
  show ((y:Int) % ((2 ^ 32:Nat):Int)).toNat=_
  rw [← Int.natCast_emod,Int.toNat_natCast,Nat.mod_eq_of_lt (by omega)]
 rw [BitVec.toNat_or,q1,q2,← Nat.shiftLeft_eq,← Nat.shiftLeft_add_eq_or_of_lt hy,Nat.shiftLeft_eq]
 rw [zsh (by omega) (by omega),Int.natCast_add]
theorem zsF {a:Int} (n:Nat) (hn:n≤32) (ha:0≤a) (hs:a * 2 ^ n < 4294967296):zdo .u32 a (n:Int)=a * 2 ^ n:=by
 unfold zdo
 have:min (Int.toNat (n:Int)) (IntKind.bits .u32)=n:=by
  rw [Int.toNat_natCast]; exact Nat.min_eq_left hn
 rw [this]
 have h0:0≤a * 2 ^ n:=Int.mul_nonneg ha (Int.le_of_lt (Int.pow_pos (by decide)))
 exact zsh h0 hs
theorem ziM {l:List Int} (h:∀ x ∈ l,0≤x∧x≤255) (i:Nat):0≤l.getD i 0∧l.getD i 0≤255:=by
 rw [List.getD_eq_getElem?_getD]
 by_cases hi:i < l.length
 ·rw [List.getElem?_eq_getElem hi]; exact h _ (List.getElem_mem hi)
 ·rw [List.getElem?_eq_none (by omega)]; simp
theorem zku {w:List Int} {t:Nat} (h:t < w.length) (x:Int):(w.set t x).getD t 0=x:=by
 simp [List.getD_eq_getElem?_getD,h]
theorem getD_set_ne {w:List Int} {t i:Nat} (h:t≠i) (x:Int):(w.set t x).getD i 0=w.getD i 0:=by
 simp [List.getD_eq_getElem?_getD,List.getElem?_set_ne h]
def zu9 (l:List Int) (t:Nat):Int :=
 ((l.getD (4 * t) 0 * 256+l.getD (4 * t+1) 0) * 256+l.getD (4 * t+2) 0) * 256+l.getD (4 * t+3) 0
theorem zCw {x y:Int} (h0:0≤x) (h1:x < 16777216) (b0:0≤y) (b1:y≤255):ior .u32 (zdo .u32 x (8:Int)) y=x * 256+y:=by
 have e1:zdo .u32 x (8:Int)=x * 2 ^ 8:=zsF 8 (by decide) h0 (by omega)
 rw [e1,zu5 (n:=8) h0 b0 (by omega) (by omega)]; exact Eq.trans rfl rfl
theorem zEc {t:Nat} (h:t≤1000000):IntKind.wrap .i64 ((4:Int) * (t:Int))=((4 * t:Nat):Int):=by
 rw [xF (by omega) (by omega)]; omega
theorem zEj {a b:Nat} (h:a≤1000000000) (h2:b≤1000000000):IntKind.wrap .i64 ((a:Int)+(b:Int))=((a+b:Nat):Int):=by
 rw [xF (by omega) (by omega)]; omega
theorem zDb {β:Type} (L:Nat) {t j:Nat} (ht:t < 16) (hj:j < 4) (b2:List V) {l w:List Int} (hl:l.length=64) (hb:∀ x ∈ l,0≤x∧x≤255) (hw:w.length=64) {x:Int} (hx:w.getD t 0=x) (h0:0≤x) (h1:x < 16777216) (kh:Int→Int→Int→List V→List V→List V→Option β) (kx:Int→List V→List V→List V→Option β):zX ze L (t:Int) (t:Int) (j:Int) (row .u8 l) b2 (row .u32 w) kh kx=kh (t:Int) (t:Int) ((j+1:Nat):Int) (row .u8 l) b2 (row .u32 (w.set t (x * 256+l.getD (4 * t+j) 0))):=by
 unfold zX
 have bb:=ziM hb (4 * t+j)
 have e4:IntKind.wrap .i64 ((4:Int) * (t:Int))=((4 * t:Nat):Int):=zEc (by omega)
 have e5:IntKind.wrap .i64 (((4 * t:Nat):Int)+(j:Int))=((4 * t+j:Nat):Int):=zEj (by omega) (by omega)
 have e6:IntKind.wrap .u32 (l.getD (4 * t+j) 0)=l.getD (4 * t+j) 0:=zmf bb.1 (by omega)
 have e7:ior .u32 (zdo .u32 x (8:Int)) (l.getD (4 * t+j) 0)=x * 256+l.getD (4 * t+j) 0:=zCw h0 h1 bb.1 bb.2
 have c0:0≤(t:Int)∧(t:Int) < ((64:Nat):Int):=by omega
 have c5:0≤((4 * t+j:Nat):Int)∧((4 * t+j:Nat):Int) < ((64:Nat):Int):=by omega
 have cl:True∧t+1≤64:=⟨trivial,by omega⟩
 rw [xQ (by omega:(j:Int) < 4)]
 simp only [xr,e4,e5,zj c0,zj c5,Int.toNat_natCast,Nat.mul_one,Nat.zero_add,zbg (show t < w.length by omega),zbg (show 4 * t+j < l.length by omega),hx,e6,e7,zC,hw,zm3 (show t < w.length by omega),zao (show j≤1000000000 by omega)]
 rw [zj cl]
theorem zpc {β:Type} (L n:Nat) {t j:Nat} (ht:t < 16) (hj:j < 4) (b2:List V) {l w:List Int} (hl:l.length=64) (hb:∀ x ∈ l,0≤x∧x≤255) (hw:w.length=64) {x:Int} (hx:w.getD t 0=x) (h0:0≤x) (h1:x < 16777216) (kx:Int→List V→List V→List V→Option β):yM ze L kx (n+1) (t:Int) (t:Int) (j:Int) (row .u8 l) b2 (row .u32 w)=yM ze L kx n (t:Int) (t:Int) ((j+1:Nat):Int) (row .u8 l) b2 (row .u32 (w.set t (x * 256+l.getD (4 * t+j) 0))) :=
 (show yM ze L kx (n+1) (t:Int) (t:Int) (j:Int) (row .u8 l) b2 (row .u32 w)=zX ze L (t:Int) (t:Int) (j:Int) (row .u8 l) b2 (row .u32 w) (fun p4 p9 p12 b1 b2 b3=>yM ze L kx n p4 p9 p12 b1 b2 b3) kx from rfl).trans (zDb L ht hj b2 hl hb hw hx h0 h1 _ _)
theorem zCM {β:Type} (L n:Nat) {t:Nat} (ht:t < 16) (b2:List V) {l w:List Int} (hl:l.length=64) (hb:∀ x ∈ l,0≤x∧x≤255) (hw:w.length=64) (hx:w.getD t 0=0) (kx:Int→List V→List V→List V→Option β):yM ze L kx (n+5) (t:Int) (t:Int) ((0:Nat):Int) (row .u8 l) b2 (row .u32 w)=kx (t:Int) (row .u8 l) b2 (row .u32 (w.set t (zu9 l t))):=by
 have htw:t < w.length:=by omega
 have a0:=ziM hb (4 * t+0)
 have a1:=ziM hb (4 * t+1)
 have a2:=ziM hb (4 * t+2)
 have a3:=ziM hb (4 * t+3)
 refine (zpc L (n+4) ht (j:=0) (by decide) b2 hl hb hw hx (by decide) (by decide) kx).trans ?_
 refine (zpc L (n+3) ht (j:=1) (by decide) b2 hl hb (by simpa using hw) (zku htw _) (by omega) (by omega) kx).trans ?_
 rw [List.set_set]
 refine (zpc L (n+2) ht (j:=2) (by decide) b2 hl hb (by simpa using hw) (zku htw _) (by omega) (by omega) kx).trans ?_
 rw [List.set_set]
 refine (zpc L (n+1) ht (j:=3) (by decide) b2 hl hb (by simpa using hw) (zku htw _) (by omega) (by omega) kx).trans ?_
 rw [List.set_set]
 have e:(((0 * 256+l.getD (4 * t+0) 0) * 256+l.getD (4 * t+1) 0) * 256+l.getD (4 * t+2) 0) * 256+l.getD (4 * t+3) 0=zu9 l t:=by
  unfold zu9; rw [Nat.add_zero,Int.zero_mul,Int.zero_add]
 rw [e]
 refine (show _=zX ze L (t:Int) (t:Int) ((3+1:Nat):Int) (row .u8 l) b2 (row .u32 (w.set t (zu9 l t))) (fun p4 p9 p12 b1 b2 b3=>yM ze L kx n p4 p9 p12 b1 b2 b3) kx from rfl).trans ?_
 unfold zX
 rw [yP (by omega)]
def zwW:Nat→Nat→List Int→List Int→List Int
 | 0,_,_,w=>w
 | m+1,t,l,w=>zwW m (t+1) l (w.set t (zu9 l t))
theorem zs4:∀ (m t:Nat) (l w:List Int),(zwW m t l w).length=w.length
 | 0,_,_,_=>rfl
 | m+1,t,l,w=>by rw [zwW,zs4 m]; simp
theorem zA6 {β:Type} {L:Nat} (hL:5≤L) {t:Nat} (ht:t < 16) (b2:List V) {l w:List Int} (hl:l.length=64) (hb:∀ x ∈ l,0≤x∧x≤255) (hw:w.length=64) (hx:w.getD t 0=0) (k0:List V→List V→Option β) (kh:Int→List V→List V→List V→Option β):zbP ze L (t:Int) (row .u8 l) b2 (row .u32 w) k0 kh=kh ((t+1:Nat):Int) (row .u8 l) b2 (row .u32 (w.set t (zu9 l t))):=by
 obtain ⟨n,rfl⟩:=Nat.exists_eq_add_of_le hL
 unfold zbP zer
 rw [xQ (by omega:(t:Int) < 16)]
 rw [Nat.add_comm 5 n]
 refine (zCM (n+5) n ht b2 hl hb hw hx _).trans ?_
 unfold zcV
 rw [xr,zao (by omega)]
theorem zwG {β:Type} {L:Nat} (hL:5≤L) (b2:List V) {l:List Int} (hl:l.length=64) (hb:∀ x ∈ l,0≤x∧x≤255) (k0:List V→List V→Option β):∀ (n m t:Nat) (w:List Int),w.length=64→(∀ i,t≤i→w.getD i 0=0)→t+m=16→m < n→zb8 ze L k0 n (t:Int) (row .u8 l) b2 (row .u32 w)=k0 b2 (row .u32 (zwW m t l w))
 | 0,m,t,w,_,_,_,h=>by omega
 | n+1,0,t,w,hw,hz,h1,h=>by
  unfold zb8 zbP zer
  rw [yP (by omega)]; exact Eq.trans rfl rfl
 | n+1,m+1,t,w,hw,hz,h1,h=>by
  unfold zb8
  rw [zA6 hL (by omega) b2 hl hb hw (hz t (Nat.le_refl t))]
  exact zwG hL b2 hl hb k0 n m (t+1) _ (by simpa using hw) (fun i hi=>by rw [getD_set_ne (by omega)]; exact hz i (by omega)) (by omega) (by omega)
def zpu (l:List Int):List Int:=zw3 48 16 (zwW 16 0 l (List.replicate 64 0))
theorem znx (l:List Int):(zpu l).length=64:=by
 unfold zpu; rw [zw8,zs4]; rfl
theorem zuB (n:Nat) (k:IntKind) (x:Int):List.replicate n (V.sc (.int k x))=row k (List.replicate n x):=by simp [row]
theorem zBL (n i:Nat):(List.replicate n (0:Int)).getD i 0=0:=by
 rw [List.getD_eq_getElem?_getD]
 by_cases hi:i < n
 ·simp [hi]
 ·simp [hi]
theorem zAa {β:Type} {w:List Int} (hw:w.length=64) (z:List Int) (hz:z.length=64) (k:List V→Option β) :
  chk (0+64≤(List.length (row .u32 w))) (chk ((List.length (List.take 64 (row .u32 w)))=64∧0+64≤(List.length (row .u32 z))) (
   lt (xn (row .u32 z) 0 (List.take 64 (row .u32 w))) fun r41=>chk (0=0∧(List.length r41)=64∧64≠0) (k r41)))=k (row .u32 w):=by
 have e:List.take 64 (row .u32 w)=row .u32 w:=List.take_of_length_le (by rw [zC]; omega)
 rw [xr,e,zd7 (by rw [zC,zC]; omega)]
 rw [zj (by rw [zC]; omega),zj ⟨by rw [zC]; omega,by rw [zC]; omega⟩,zj ⟨rfl,by rw [zC]; omega,by decide⟩]
theorem zx7 {β:Type} {L:Nat} (hL:100≤L) {l:List Int} (hl:l.length=64) (hb:∀ x ∈ l,0≤x∧x≤255) (k:List V→Option β):zn β L (row .u8 l) k=k (row .u32 (zpu l)):=by
 unfold zn zht zkg
 rw [zuB]
 refine (zwG (by omega) _ hl hb _ L 16 0 _ rfl (fun i _=>?_) rfl (by omega)).trans ?_
 ·exact zBL 64 i
 unfold zdj zfA
 refine (zvn L _ _ L 48 16 _ (by rw [zs4]; rfl) (by omega) rfl (by omega)).trans ?_
 unfold ze8
 exact zAa (znx l) _ rfl k
end
section
set_option linter.unusedVariables false
set_option linter.unusedSimpArgs false
def kc:List Int:=gk_sha_k.map fun v=>match v with | .sc (.int _ n)=>n | _=>0
theorem zDB:gk_sha_k=row .u32 kc:=rfl
theorem zDq:kc.length=64:=rfl
def t1 (e f g h kk ww:Int):Int :=
 IntKind.wrap .u32 (IntKind.wrap .u32 (IntKind.wrap .u32 (IntKind.wrap .u32 (h+zb1 .u32 (zb1 .u32 (zmJ e 6) (zmJ e 11)) (zmJ e 25))+zb1 .u32 (ze5 .u32 e f) (ze5 .u32 (zBG .u32 e) g))+kk)+ww)
def t2 (a b c:Int):Int :=
 IntKind.wrap .u32 (zb1 .u32 (zb1 .u32 (zmJ a 2) (zmJ a 13)) (zmJ a 22)+zb1 .u32 (zb1 .u32 (ze5 .u32 a b) (ze5 .u32 a c)) (ze5 .u32 b c))
def zro {γ:Type} (w:List Int) (κ:Int→Int→Int→Int→Int→Int→Int→Int→γ):Nat→Nat→Int→Int→Int→Int→Int→Int→Int→Int→γ
 | 0,_,a,b,c,d,e,f,g,h=>κ a b c d e f g h
 | m+1,t,a,b,c,d,e,f,g,h=>zro w κ m (t+1) (IntKind.wrap .u32 (t1 e f g h (kc.getD t 0) (w.getD t 0)+t2 a b c)) a b c (IntKind.wrap .u32 (d+t1 e f g h (kc.getD t 0) (w.getD t 0))) e f g
theorem zqs {γ δ:Type} (u:γ→δ) (w:List Int) (κ:Int→Int→Int→Int→Int→Int→Int→Int→γ):∀ (m t:Nat) (a b c d e f g h:Int),zro w (fun a b c d e f g h=>u (κ a b c d e f g h)) m t a b c d e f g h=u (zro w κ m t a b c d e f g h)
 | 0,_,_,_,_,_,_,_,_,_=>rfl
 | m+1,t,a,b,c,d,e,f,g,h=>zqs u w κ m (t+1) _ _ _ _ _ _ _ _
theorem zse {γ:Type} (u:γ) (w:List Int):∀ (m t:Nat) (a b c d e f g h:Int),zro w (fun _ _ _ _ _ _ _ _=>u) m t a b c d e f g h=u
 | 0,_,_,_,_,_,_,_,_,_=>rfl
 | m+1,t,a,b,c,d,e,f,g,h=>zse u w m (t+1) _ _ _ _ _ _ _ _
theorem zAr {β:Type} (L:Nat) {t:Nat} (ht:t < 64) (a b c d e f g h:Int) (b2:List V) (z0 z1 z2 z3 z4 z5 z6 z7:Int) {w:List Int} (hw:w.length=64) (kh:ze3 β) (kx:zf3 β):zcs zn ze L a b c d e f g h (t:Int) b2 z0 z1 z2 z3 z4 z5 z6 z7 (row .u32 w) kh kx=kh (IntKind.wrap .u32 (t1 e f g h (kc.getD t 0) (w.getD t 0)+t2 a b c)) a b c (IntKind.wrap .u32 (d+t1 e f g h (kc.getD t 0) (w.getD t 0))) e f g ((t+1:Nat):Int) b2 z0 z1 z2 z3 z4 z5 z6 z7 (row .u32 w):=by
 unfold zcs
 have c0:0≤(t:Int)∧(t:Int) < ((64:Nat):Int):=by omega
 have ek:∀ κ:Int→Option β,cI .u32 (List.drop t gk_sha_k) 0 κ=κ (kc.getD t 0):=by
  intro κ
  rw [zDB,zBt,zbg (by rw [List.length_drop,zDq]; omega)]
  simp [List.getD_eq_getElem?_getD]
 rw [xQ (by omega:(t:Int) < 64)]
 simp only [xr,zj c0,zyv,Int.toNat_natCast,Nat.mul_one,Nat.zero_add,ek,zbg (show t < w.length by omega),zao (show t≤1000000000 by omega)]
 exact Eq.trans rfl rfl
theorem zvA {β:Type} (L:Nat) (b2:List V) (z0 z1 z2 z3 z4 z5 z6 z7:Int) {w:List Int} (hw:w.length=64) (kx:zf3 β):∀ (n m t:Nat) (a b c d e f g h:Int),t+m=64→m < n→zbC zn ze L kx n a b c d e f g h (t:Int) b2 z0 z1 z2 z3 z4 z5 z6 z7 (row .u32 w)=zro w (fun a b c d e f g h=>kx a b c d e f g h b2 z0 z1 z2 z3 z4 z5 z6 z7) m t a b c d e f g h
 | 0,m,t,_,_,_,_,_,_,_,_,_,h=>by omega
 | n+1,0,t,a,b,c,d,e,f,g,h,h1,h2=>by
  unfold zbC zcs
  rw [yP (by omega)]; exact Eq.trans rfl rfl
 | n+1,m+1,t,a,b,c,d,e,f,g,h,h1,h2=>by
  unfold zbC
  rw [zAr L (by omega) a b c d e f g h b2 z0 z1 z2 z3 z4 z5 z6 z7 hw]
  exact zvA L b2 z0 z1 z2 z3 z4 z5 z6 z7 hw kx n m (t+1) _ _ _ _ _ _ _ _ (by omega) (by omega)
def zwv (hs:List Int) (a b c d e f g h:Int):List Int :=
 [IntKind.wrap .u32 (hs.getD 0 0+a),IntKind.wrap .u32 (hs.getD 1 0+b),IntKind.wrap .u32 (hs.getD 2 0+c),IntKind.wrap .u32 (hs.getD 3 0+d),IntKind.wrap .u32 (hs.getD 4 0+e),IntKind.wrap .u32 (hs.getD 5 0+f),IntKind.wrap .u32 (hs.getD 6 0+g),IntKind.wrap .u32 (hs.getD 7 0+h)]
def zzy (hs l:List Int):List Int :=
 zro (zpu l) (zwv hs) 64 0 (hs.getD 0 0) (hs.getD 1 0) (hs.getD 2 0) (hs.getD 3 0) (hs.getD 4 0) (hs.getD 5 0) (hs.getD 6 0) (hs.getD 7 0)
theorem zoU (hs l:List Int):(zzy hs l).length=8 :=
 ((zqs List.length (zpu l) (zwv hs) 64 0 _ _ _ _ _ _ _ _).symm).trans (zse 8 (zpu l) 64 0 _ _ _ _ _ _ _ _)
theorem zBU {β:Type} (L:Nat) {hs:List Int} (hh:hs.length=8) (k:List V→Option β) (a b c d e f g h z0 z1 z2 z3 z4 z5 z6 z7:Int):zcX zn ze L a b c d e f g h (row .u32 hs) z0 z1 z2 z3 z4 z5 z6 z7 k=k (row .u32 (zwv hs a b c d e f g h)):=by
 unfold zcX
 simp only [xr,zbg (show 0 < hs.length by omega),zbg (show 1 < hs.length by omega),zbg (show 2 < hs.length by omega),zbg (show 3 < hs.length by omega),zbg (show 4 < hs.length by omega),zbg (show 5 < hs.length by omega),zbg (show 6 < hs.length by omega),zbg (show 7 < hs.length by omega)]
 exact (zj ⟨trivial,rfl,by decide⟩ _).trans rfl
theorem zyr {β:Type} {L:Nat} (hL:100≤L) {hs l:List Int} (hh:hs.length=8) (hl:l.length=64) (hb:∀ x ∈ l,0≤x∧x≤255) (k:List V→Option β):zg β L (row .u32 hs) (row .u8 l) k=k (row .u32 (zzy hs l)):=by
 unfold zg zhh zkh
 have e1:List.take 64 (row .u8 l)=row .u8 l:=List.take_of_length_le (by rw [zC]; omega)
 rw [zj (by rw [zC]; omega),e1]
 refine (zx7 hL hl hb _).trans ?_
 rw [zj ⟨by rw [zC,znx],by decide⟩,xr,zd7 (by rw [zC,znx]; rfl)]
 rw [zbg (show 0 < hs.length by omega),zbg (show 1 < hs.length by omega),zbg (show 2 < hs.length by omega),zbg (show 3 < hs.length by omega),zbg (show 4 < hs.length by omega),zbg (show 5 < hs.length by omega),zbg (show 6 < hs.length by omega),zbg (show 7 < hs.length by omega)]
 refine (zvA L (row .u32 hs) 0 0 0 0 0 0 0 0 (znx l) _ L 64 0 _ _ _ _ _ _ _ _ rfl (by omega)).trans ?_
 simp only [zBU L hh]
 exact zqs (fun r=>k (row .u32 r)) (zpu l) (zwv hs) 64 0 _ _ _ _ _ _ _ _
end
section
set_option linter.unusedVariables false
set_option linter.unusedSimpArgs false
def zs (n:Nat):Nat:=(64 - (n+9) % 64) % 64
def pb (n i:Nat):Int:=IntKind.wrap .u8 (zc3 .u64 (IntKind.wrap .u64 ((8:Int) * (n:Int))) ((56 - 8 * i:Nat):Int))
def pbs (n:Nat):Nat→Nat→List Int
 | 0,_=>[]
 | m+1,i=>pb n i::pbs n m (i+1)
theorem zy2 (n:Nat):∀ m i:Nat,(pbs n m i).length=m
 | 0,_=>rfl
 | m+1,i=>by rw [pbs,List.length_cons,zy2 n m]
theorem zpL (n:Int):0≤IntKind.wrap .u8 n∧IntKind.wrap .u8 n≤255:=by
 unfold IntKind.wrap
 simp only [IntKind.signed,Bool.false_and,Bool.false_eq_true,if_false]
 have h1:=Int.emod_nonneg n (show (2:Int) ^ IntKind.bits .u8≠0 by decide)
 have h2:=Int.emod_lt_of_pos n (show (0:Int) < 2 ^ IntKind.bits .u8 by decide)
 exact ⟨h1,Int.le_of_lt_add_one h2⟩
theorem zAT (n:Nat):∀ m i:Nat,∀ x ∈ pbs n m i,0≤x∧x≤255
 | 0,_=>fun x h=>by simp [pbs] at h
 | m+1,i=>fun x h=>by
  rw [pbs,List.mem_cons] at h
  rcases h with rfl | h
  ·exact zpL _
  ·exact zAT n m (i+1) x h
def zg4 (n:Nat):List Int:=(128::List.replicate (zs n) 0)++pbs n 8 0
theorem zsH (n:Nat):(zg4 n).length=9+zs n:=by simp [zg4,zy2]; omega
theorem zC0 (n:Nat):∀ x ∈ zg4 n,0≤x∧x≤255:=by
 intro x hx
 rw [zg4,List.mem_append,List.mem_cons] at hx
 rcases hx with (rfl | hx) | hx
 ·exact ⟨by decide,by decide⟩
 ·rw [List.eq_of_mem_replicate hx]; exact ⟨by decide,by decide⟩
 ·exact zAT n 8 0 x hx
theorem zCd (n:Nat):zs n < 64:=Nat.mod_lt _ (by decide)
theorem zDV (n:Nat):(n+9+zs n) % 64=0:=by unfold zs; omega
theorem zxP (x:Int):xh 1 1 [V.sc (.int .u8 x)]=zo .u8 [x]:=rfl
theorem zBF {β:Type} (L:Nat) {n i:Nat} (hi:i < 8) (b:Nat) {acc:List Int} (ha:acc.length≤1000000) (kh:Int→List (List V)→Int→Nat→Option β) (kx:List (List V)→Nat→Option β):zdr L (n:Int) (zo .u8 acc) (i:Int) b kh kx=kh (n:Int) (zo .u8 (acc++[pb n i])) ((i+1:Nat):Int) b:=by
 unfold zdr
 have e8:IntKind.wrap .i64 ((8:Int) * (i:Int))=((8 * i:Nat):Int):=by rw [xF (by omega) (by omega)]; omega
 have e56:IntKind.wrap .i64 ((56:Int) - ((8 * i:Nat):Int))=((56 - 8 * i:Nat):Int):=by rw [xF (by omega) (by omega)]; omega
 rw [xQ (by omega:(i:Int) < 8)]
 simp only [xr,e8,e56,zxP,ze0,zao (show i≤1000000000 by omega)]
 rw [zj (by omega),zj (by simp [yw,yj]; omega)]
 exact Eq.trans rfl rfl
theorem zwy {β:Type} (L n b:Nat) (kx:List (List V)→Nat→Option β):∀ (f m i:Nat) (acc:List Int),i+m=8→m < f→acc.length≤900000+i→zbJ L kx f (n:Int) (zo .u8 acc) (i:Int) b=kx (zo .u8 (acc++pbs n m i)) b
 | 0,m,i,acc,_,h,_=>by omega
 | f+1,0,i,acc,h1,h2,h3=>by
  unfold zbJ zdr
  rw [yP (by omega),pbs,List.append_nil]
 | f+1,m+1,i,acc,h1,h2,h3=>by
  unfold zbJ
  rw [zBF L (by omega) b (by omega)]
  refine (zwy L n b kx f m (i+1) _ (by omega) (by omega) (by simp; omega)).trans ?_
  rw [pbs,List.append_assoc]; exact Eq.trans rfl rfl
theorem zDC {β:Type} {L:Nat} (hL:100≤L) {n:Nat} (hn:n≤100000000) (k k1:List (List V)→Option β):xm β L (n:Int) k k1=k1 (zo .u8 (zg4 n)):=by
 unfold xm znf zqN
 have z64:=zCd n
 have e0:IntKind.wrap .u64 ((n:Int)+(9:Int))=((n+9:Nat):Int):=by rw [zkk (by omega) (by omega)]; omega
 have e1:Int.tmod ((n+9:Nat):Int) (64:Int)=(((n+9) % 64:Nat):Int):=(Int.ofNat_tmod (n+9) 64).symm
 have e2:IntKind.wrap .u64 ((64:Int) - (((n+9) % 64:Nat):Int))=((64 - (n+9) % 64:Nat):Int):=by rw [zkk (by omega) (by omega)]; omega
 have e3:Int.tmod ((64 - (n+9) % 64:Nat):Int) (64:Int)=((zs n:Nat):Int):=(Int.ofNat_tmod (64 - (n+9) % 64) 64).symm
 have e4:IntKind.wrap .u64 ((1:Int)+((zs n:Nat):Int))=((1+zs n:Nat):Int):=by rw [zkk (by omega) (by omega)]; omega
 have e5:IntKind.wrap .u64 ((9:Int)+((zs n:Nat):Int))=((9+zs n:Nat):Int):=by rw [zkk (by omega) (by omega)]; omega
 have e6:List.flatten (List.replicate (9+zs n) [V.sc (.int .u8 (0:Int))])=row .u8 (List.replicate (9+zs n) 0):=by
  rw [List.flatten_replicate_singleton,zuB]
 have e7:xn (row .u8 (List.replicate (9+zs n) 0)) 0 [V.sc (.int .u8 (128:Int))]=row .u8 (128::List.replicate (8+zs n) 0):=by
  rw [zm3 (by simp; omega),show 9+zs n=(8+zs n)+1 by omega,List.replicate_succ,List.set_cons_zero]
 simp only [xr,e0,e1,e2,e3,e4,e5,Int.toNat_natCast,e6,e7]
 rw [zj ⟨by omega,by omega,by simp [yj]; omega,by simp [yj]; omega⟩,zj ⟨by omega,by omega⟩,zj ⟨trivial,by simp [zC]; omega⟩]
 obtain ⟨L',rfl⟩:=Nat.exists_eq_add_of_le hL
 rw [show 100+L'=(99+L')+1 by omega]
 refine (show _=zfM (99+L'+1) (n:Int) (1+zs n) (0:Int) (row .u8 (128::List.replicate (8+zs n) 0)) (fun p0 p4 p18 b15=>zbJ (99+L'+1) (fun p4 b15=>zdf (99+L'+1) p4 b15 k1) (99+L') p0 p4 p18 b15) (fun p4l b15=>zha (99+L'+1) p4l b15 k) from rfl).trans ?_
 unfold zfM
 have e8:IntKind.wrap .i64 ((8:Int) * (0:Int))=((8 * 0:Nat):Int):=by rw [xF (by omega) (by omega)]; omega
 have e56:IntKind.wrap .i64 ((56:Int) - ((8 * 0:Nat):Int))=((56 - 8 * 0:Nat):Int):=by rw [xF (by omega) (by omega)]; omega
 have e9:IntKind.wrap .i64 ((0:Int)+(1:Int))=((1:Nat):Int):=zao (i:=0) (by omega)
 have ec:xh 1 (1+zs n) (row .u8 (128::List.replicate (8+zs n) 0))=zo .u8 (128::List.replicate (zs n) 0):=by
  rw [zoT _ _ _ (by simp; omega),show 1+zs n=zs n+1 by omega,List.take_succ_cons,List.take_replicate,show min (zs n) (8+zs n)=zs n by omega]
 rw [xQ (by decide:(0:Int) < 8)]
 simp only [xr,e8,e56,e9,zxP,ec,ze0]
 rw [zj ⟨trivial,by simp [zC]; omega,by simp [zC]⟩,zj (by omega),zj (by simp [yw,yj]; omega)]
 refine (zwy _ n _ _ (99+L') 7 1 _ rfl (by omega) (by simp; omega)).trans ?_
 unfold zdf zg4
 rw [pbs,List.append_assoc]; exact Eq.trans rfl rfl
theorem zz0 {β:Type} {L:Nat} (hL:100≤L) {a b:List Int} (ha:a.length≤1000000000) (hb:b.length≤1000000000) (k:List (List V)→Option β):ym β L (xh 1 2 [V.sl 1 (zo .u8 a),V.sl 1 (zo .u8 b)]) k=k (zo .u8 (a++b)):=by
 unfold ym znv zrk
 obtain ⟨L',rfl⟩:=Nat.exists_eq_add_of_le hL
 have es:xh 1 2 [V.sl 1 (zo .u8 a),V.sl 1 (zo .u8 b)]=[[V.sl 1 (zo .u8 a)],[V.sl 1 (zo .u8 b)]]:=rfl
 rw [es,show 100+L'=(97+L')+1+1+1 by omega]
 refine (show _=zct (97+L'+1+1+1) [] [[V.sl 1 (zo .u8 a)],[V.sl 1 (zo .u8 b)]] ((2:Nat):Int) ((0:Nat):Int) (fun p3 p6 p7 p8=>zea (97+L'+1+1+1) _ (97+L'+1+1) p3 p6 p7 p8) (fun p3=>zc5 (97+L'+1+1+1) p3 k) from rfl).trans ?_
 unfold zct
 rw [xQ (by decide),zbD (c:=[V.sl 1 (zo .u8 a)]) rfl,zrt (sz:=1) (es:=zo .u8 a) rfl,zj (by simp [yw,yj]; omega),xr,List.nil_append,xr,zao (i:=0) (by omega)]
 refine (show _=zct (97+L'+1+1+1) (zo .u8 a) [[V.sl 1 (zo .u8 a)],[V.sl 1 (zo .u8 b)]] ((2:Nat):Int) ((1:Nat):Int) (fun p3 p6 p7 p8=>zea (97+L'+1+1+1) _ (97+L'+1) p3 p6 p7 p8) (fun p3=>zc5 (97+L'+1+1+1) p3 k) from rfl).trans ?_
 unfold zct
 rw [xQ (by decide),zbD (c:=[V.sl 1 (zo .u8 b)]) rfl,zrt (sz:=1) (es:=zo .u8 b) rfl,zj (by simp [yw,yj]; omega),xr,ze0,xr,zao (i:=1) (by omega)]
 refine (show _=zct (97+L'+1+1+1) (zo .u8 (a++b)) [[V.sl 1 (zo .u8 a)],[V.sl 1 (zo .u8 b)]] ((2:Nat):Int) ((2:Nat):Int) (fun p3 p6 p7 p8=>zea (97+L'+1+1+1) _ (97+L') p3 p6 p7 p8) (fun p3=>zc5 (97+L'+1+1+1) p3 k) from rfl).trans ?_
 unfold zct
 rw [yP (by decide)]
 unfold zc5
 exact Eq.trans rfl rfl
end
section
set_option linter.unusedVariables false
set_option linter.unusedSimpArgs false
def init0:List Int:=gk_sha_initial.map fun v=>match v with | .sc (.int _ n)=>n | _=>0
theorem zvc:init0.length=8:=rfl
def zxg:Nat→Nat→List Int→List Int→List Int
 | 0,_,_,h=>h
 | m+1,i,p,h=>zxg m (i+1) p (zzy h ((p.drop (64 * i)).take 64))
theorem zxx:∀ (m i:Nat) (p h:List Int),h.length=8→(zxg m i p h).length=8
 | 0,_,_,_,hh=>hh
 | m+1,i,p,h,hh=>by rw [zxg]; exact zxx m _ _ _ (zoU _ _)
theorem zqi (k:IntKind):∀ l:List Int,List.flatten (zo k l)=row k l
 | []=>rfl
 | x::l=>by
  have:=zqi k l
  simp only [zo,row] at this
  simp only [zo,row,List.map_cons,List.flatten_cons,this,List.singleton_append]
theorem zyC {p:List Int} {i:Nat} (h:64 * (i+1)≤p.length):((p.drop (64 * i)).take 64).length=64:=by
 rw [List.length_take,List.length_drop]; omega
theorem zDn {p:List Int} (hp:∀ x ∈ p,0≤x∧x≤255) (i:Nat):∀ x ∈ (p.drop (64 * i)).take 64,0≤x∧x≤255 :=
 fun x hx=>hp x (List.mem_of_mem_drop (List.mem_of_mem_take hx))
theorem zCy (p:List Int) (n:Nat):List.take ((zo .u8 p).length - n) (List.drop n (zo .u8 p))=zo .u8 (p.drop n):=by
 rw [zvB,List.take_of_length_le (by rw [yw,yw,List.length_drop]; omega)]
theorem zBv {β:Type} {L:Nat} (hL:100≤L) {p:List Int} (hp:∀ x ∈ p,0≤x∧x≤255) (hs:p.length≤1000000000) {N i:Nat} (hi:i < N) (hN:64 * (i+1)≤p.length) (b2:List V) {h:List Int} (hh:h.length=8) (kh:List (List V)→Int→Int→List V→List V→Option β) (kx:List V→List V→Option β):zeR xm ym zg L (zo .u8 p) (N:Int) (i:Int) b2 (row .u32 h) kh kx=kh (zo .u8 p) (N:Int) ((i+1:Nat):Int) b2 (row .u32 (zzy h ((p.drop (64 * i)).take 64))):=by
 unfold zeR
 have e9:IntKind.wrap .i64 ((64:Int) * (i:Int))=((64 * i:Nat):Int):=by rw [xF (by omega) (by omega)]; omega
 have e8:List.take 8 (row .u32 h)=row .u32 h:=List.take_of_length_le (by rw [zC]; omega)
 have ec:List.take 64 (row .u8 ((p.drop (64 * i)).take 64))=row .u8 ((p.drop (64 * i)).take 64):=List.take_of_length_le (by rw [zC,zyC hN]; omega)
 rw [xQ (by omega:(i:Int) < (N:Int)),zj (by rw [zC]; omega),xr,e9,Int.toNat_natCast,zCy,zfH,zqi,e8,ec]
 rw [zj ⟨by omega,by rw [yw]; omega⟩,zj (by rw [yw,List.length_drop]; omega)]
 refine (zyr hL hh (zyC hN) (zDn hp i) _).trans ?_
 rw [zj ⟨by rw [zC,zoU],by rw [zC]; omega⟩,xr,xr,zd7 (by rw [zC,zC,zoU,hh]),zao (by omega)]
theorem zxK {β:Type} {L:Nat} (hL:100≤L) {p:List Int} (hp:∀ x ∈ p,0≤x∧x≤255) (hs:p.length≤1000000000) {N:Nat} (hN:64 * N≤p.length) (b2:List V) (kx:List V→List V→Option β):∀ (f m i:Nat) (h:List Int),h.length=8→i+m=N→m < f→zdD xm ym zg L kx f (zo .u8 p) (N:Int) (i:Int) b2 (row .u32 h)=kx b2 (row .u32 (zxg m i p h))
 | 0,m,i,h,_,_,hf=>by omega
 | f+1,0,i,h,hh,h1,h2=>by
  unfold zdD zeR
  rw [yP (by omega)]; exact Eq.trans rfl rfl
 | f+1,m+1,i,h,hh,h1,h2=>by
  unfold zdD
  rw [zBv hL hp hs (by omega) (by omega) b2 hh]
  exact zxK hL hp hs hN b2 kx f m (i+1) _ (zoU _ _) (by omega) (by omega)
def ob (h:List Int) (i:Nat):Int:=IntKind.wrap .u8 (zc3 .u32 (h.getD (i / 4) 0) ((24 - i % 4 * 8:Nat):Int))
def zo3 (h:List Int):List Int:=(List.range 32).map (ob h)
theorem zsA (h:List Int):(zo3 h).length=32:=by simp [zo3]
theorem zBb (h:List Int) {i:Nat} (hi:i < 32):(zo3 h).getD i 0=ob h i:=by
 simp [zo3,List.getD_eq_getElem?_getD,hi]
theorem zC7 (h:List Int):∀ x ∈ zo3 h,0≤x∧x≤255:=by
 intro x hx
 rw [zo3,List.mem_map] at hx
 obtain ⟨i,_,rfl⟩:=hx
 exact zpL _
theorem zBz {l m:List Int} (h:l.length=m.length) (hg:∀ i,i < l.length→l.getD i 0=m.getD i 0):l=m:=by
 apply List.ext_getElem h
 intro i h1 h2
 have:=hg i h1
 rwa [List.getD_eq_getElem?_getD,List.getD_eq_getElem?_getD,List.getElem?_eq_getElem h1,List.getElem?_eq_getElem h2] at this
theorem zCI {h z:List Int} (hz:z.length=32) (hg:∀ j,j < 32→z.getD j 0=ob h j):z=zo3 h :=
 zBz (by rw [hz,zsA]) fun i hi=>by rw [zBb h (by omega)]; exact hg i (by omega)
theorem zAV {β:Type} (L:Nat) {i:Nat} (hi:i < 32) (b2:List V) {h z:List Int} (hh:h.length=8) (hz:z.length=32) (kh:Int→List V→List V→List V→Option β) (kx:List V→List V→Option β):zdS xm ym zg L (i:Int) b2 (row .u32 h) (row .u8 z) kh kx=kh ((i+1:Nat):Int) b2 (row .u32 h) (row .u8 (z.set i (ob h i))):=by
 unfold zdS
 have e1:IntKind.wrap .i64 (Int.tdiv (i:Int) (4:Int))=((i / 4:Nat):Int):=by
  rw [show Int.tdiv (i:Int) (4:Int)=((i / 4:Nat):Int) from (Int.ofNat_tdiv i 4).symm,xF (by omega) (by omega)]
 have e2:Int.tmod (i:Int) (4:Int)=((i % 4:Nat):Int):=(Int.ofNat_tmod i 4).symm
 have e3:IntKind.wrap .i64 (((i % 4:Nat):Int) * (8:Int))=((i % 4 * 8:Nat):Int):=by rw [xF (by omega) (by omega)]; omega
 have e4:IntKind.wrap .i64 ((24:Int) - ((i % 4 * 8:Nat):Int))=((24 - i % 4 * 8:Nat):Int):=by rw [xF (by omega) (by omega)]; omega
 have c1:0≤((i / 4:Nat):Int)∧((i / 4:Nat):Int) < ((8:Nat):Int):=by omega
 have c2:0≤(i:Int)∧(i:Int) < ((32:Nat):Int):=by omega
 have c3:0≤((24 - i % 4 * 8:Nat):Int):=by omega
 have cl:True∧i+1≤32:=⟨trivial,by omega⟩
 rw [xQ (by omega:(i:Int) < 32)]
 simp only [xr,e1,e2,e3,e4,zj c1,zj c2,zj c3,Int.toNat_natCast,Nat.mul_one,Nat.zero_add,zbg (show i / 4 < h.length by omega),zC,hz,zm3 (show i < z.length by omega),zao (show i≤1000000000 by omega)]
 rw [zj cl]
 exact Eq.trans rfl rfl
theorem zvH {β:Type} (L:Nat) (b2:List V) {h:List Int} (hh:h.length=8) (kx:List V→List V→Option β):∀ (f m i:Nat) (z:List Int),z.length=32→i+m=32→m < f→(∀ j,j < i→z.getD j 0=ob h j)→zcP xm ym zg L kx f (i:Int) b2 (row .u32 h) (row .u8 z)=kx b2 (row .u8 (zo3 h))
 | 0,m,i,z,_,_,hf,_=>by omega
 | f+1,0,i,z,hz,h1,h2,hg=>by
  unfold zcP zdS
  rw [yP (by omega),zCI hz fun j hj=>hg j (by omega)]
 | f+1,m+1,i,z,hz,h1,h2,hg=>by
  unfold zcP
  rw [zAV L (by omega) b2 hh hz]
  refine zvH L b2 hh kx f m (i+1) _ (by simpa using hz) (by omega) (by omega) fun j hj=>?_
  by_cases he:i=j
  ·subst he; exact zku (by omega) _
  ·rw [getD_set_ne he]; exact hg j (by omega)
def zsy (l:List Int):List Int:=zo3 (zxg ((l++zg4 l.length).length / 64) 0 (l++zg4 l.length) init0)
theorem zxs (l:List Int):(zsy l).length=32:=zsA _
theorem zCx (l:List Int):∀ x ∈ zsy l,0≤x∧x≤255:=zC7 _
theorem zC4 (l:List Int):64 * ((l++zg4 l.length).length / 64)=(l++zg4 l.length).length:=by
 have:=zDV l.length
 rw [List.length_append,zsH]; omega
theorem zDG {l:List Int} (h:∀ x ∈ l,0≤x∧x≤255):∀ x ∈ l++zg4 l.length,0≤x∧x≤255:=by
 intro x hx
 rcases List.mem_append.1 hx with hx | hx
 ·exact h x hx
 ·exact zC0 _ x hx
theorem zCN {β:Type} {w:List Int} (hw:w.length=32) (z:List Int) (hz:z.length=32) (k:List V→Option β) :
  chk (0+32≤(List.length (row .u8 w))) (chk ((List.length (List.take 32 (row .u8 w)))=32∧0+32≤(List.length (row .u8 z))) (
   lt (xn (row .u8 z) 0 (List.take 32 (row .u8 w))) fun r41=>chk (0=0∧(List.length r41)=32∧32≠0) (k r41)))=k (row .u8 w):=by
 have e:List.take 32 (row .u8 w)=row .u8 w:=List.take_of_length_le (by rw [zC]; omega)
 rw [xr,e,zd7 (by rw [zC,zC]; omega)]
 rw [zj (by rw [zC]; omega),zj ⟨by rw [zC]; omega,by rw [zC]; omega⟩,zj ⟨rfl,by rw [zC]; omega,by decide⟩]
theorem zDQ {β:Type} {L:Nat} {l:List Int} (hL:l.length+200≤L) (hl:l.length≤100000000) (hb:∀ x ∈ l,0≤x∧x≤255) (k:List V→Option β):za6 β L (zo .u8 l) k=k (row .u8 (zsy l)):=by
 unfold za6 zns zqk
 have z64:=zCd l.length
 have hm:=zC4 l
 have hlen:(l++zg4 l.length).length=l.length+(9+zs l.length):=by rw [List.length_append,zsH]
 have e0:IntKind.wrap .u64 (((zo .u8 l).length:Nat):Int)=(l.length:Int):=by rw [yw,zkk (by omega) (by omega)]
 rw [xr,e0]
 refine (zDC (by omega) hl _ _).trans ?_
 refine (zz0 (by omega) (by omega) (by rw [zsH]; omega) _).trans ?_
 have e1:xn [V.sc (.int .u32 (0:Int)),V.sc (.int .u32 (0:Int)),V.sc (.int .u32 (0:Int)),V.sc (.int .u32 (0:Int)),V.sc (.int .u32 (0:Int)),V.sc (.int .u32 (0:Int)),V.sc (.int .u32 (0:Int)),V.sc (.int .u32 (0:Int))] 0 (List.take 8 gk_sha_initial)=row .u32 init0:=(zd7 rfl).trans rfl
 have e2:IntKind.wrap .i64 (Int.tdiv (((zo .u8 (l++zg4 l.length)).length:Nat):Int) (64:Int))=(((l++zg4 l.length).length / 64:Nat):Int):=by
  rw [yw,show Int.tdiv (((l++zg4 l.length).length:Nat):Int) (64:Int)=(((l++zg4 l.length).length / 64:Nat):Int) from (Int.ofNat_tdiv _ 64).symm,xF (by omega) (by omega)]
 rw [zj ⟨rfl,by decide⟩,xr,e1,xr,e2]
 refine (zxK (by omega) (zDG hb) (by omega) (by omega) _ _ L ((l++zg4 l.length).length / 64) 0 _ zvc (by omega) (by omega)).trans ?_
 unfold zeS zhJ
 rw [zuB]
 refine (zvH L _ (zxx _ _ _ _ zvc) _ L 32 0 _ List.length_replicate rfl (by omega) (fun j hj=>by omega)).trans ?_
 unfold zgh
 exact zCN (zsA _) _ List.length_replicate k
def zEF (l:List Int):List Int:=zsy (zsy l)
theorem zDX {w:List Int} (hw:w.length=32):xn (List.replicate 32 (V.sc (.int .u8 (0:Int)))) 0 (row .u8 w)=row .u8 w:=zd7 (by rw [zC,hw,List.length_replicate])
end
section
set_option linter.unusedVariables false
set_option linter.unusedSimpArgs false
set_option maxRecDepth 100000
variable {β:Type}
def Byt (l:List Int):Prop:=∀ x ∈ l,0≤x∧x≤255
theorem Byt.app {a b:List Int} (ha:Byt a) (hb:Byt b):Byt (a++b):=fun x hx=>(List.mem_append.1 hx).elim (ha x) (hb x)
theorem Byt.sub {a b:List Int} (hb:Byt b) (h:∀ x ∈ a,x ∈ b):Byt a:=fun x hx=>hb x (h x hx)
theorem Byt.take {a:List Int} (ha:Byt a) (n:Nat):Byt (a.take n):=ha.sub fun x hx=>List.mem_of_mem_take hx
theorem Byt.drop {a:List Int} (ha:Byt a) (n:Nat):Byt (a.drop n):=ha.sub fun x hx=>List.mem_of_mem_drop hx
theorem Byt.getD {a:List Int} (ha:Byt a) (i:Nat):0≤a.getD i 0∧a.getD i 0≤255:=ziM ha i
theorem Byt.nil:Byt []:=by intro x hx; cases hx
theorem zDv {l:List Int} (h:∀ x ∈ l,(Lit.int .u8 x).wf=true):Byt l:=fun x hx=>zD8 (h x hx)
theorem zsW (n:Int):0≤IntKind.wrap .u8 n∧IntKind.wrap .u8 n≤255:=by
 show 0≤n % (2 ^ 8:Nat)∧n % (2 ^ 8:Nat)≤255
 omega
theorem zrd (n:Int):IntKind.wrap .u8 n=n % 256:=rfl
def le4 (j:List Int) (p:Nat):Int:=j.getD p 0+256 * j.getD (p+1) 0+65536 * j.getD (p+2) 0+16777216 * j.getD (p+3) 0
theorem zAo {j:List Int} (h:Byt j) (p:Nat):0≤le4 j p∧le4 j p≤4294967295:=by
 have h0:=h.getD p; have h1:=h.getD (p+1); have h2:=h.getD (p+2); have h3:=h.getD (p+3)
 unfold le4; omega
theorem zEv {l:List Int} {i:Nat} (h:i < l.length):l[i]=l.getD i 0:=by simp [List.getD_eq_getElem?_getD,h]
theorem zyw {l:List Int} {i:Nat} (h:i < l.length):(zo .u8 l)[i]?=some [.sc (.int .u8 (l.getD i 0))]:=by rw [zsG _ h,zEv h]
theorem cI8 (n:Int) (k:Int→Option β):cI .u8 [V.sc (.int .u8 n)] 0 k=k n:=zj7 rfl k
theorem zvg (k:IntKind) (a b:Int):ior k a b=ior k b a:=by unfold ior; rw [BitVec.or_comm]
theorem in1 {a b:Int} (ha:0≤a∧a≤255):ior .u32 0 (zdo .u32 a (0:Int))=a:=by
 have e1:zdo .u32 a (0:Int)=a * 2 ^ 0:=zsF 0 (by decide) ha.1 (by omega)
 rw [e1,zvg,zu5 (n:=0) ha.1 (by omega) (by omega) (by omega)]; omega
theorem in2 {a x:Int} (n:Nat) (hn:n≤24) (ha:0≤a∧a≤255) (hx:0≤x) (hx2:x < 2 ^ n) (hs:a * 2 ^ n+x < 4294967296):ior .u32 x (zdo .u32 a (n:Int))=a * 2 ^ n+x:=by
 have e1:zdo .u32 a (n:Int)=a * 2 ^ n:=zsF n (by omega) ha.1 (by omega)
 rw [e1,zvg,zu5 (n:=n) ha.1 hx hx2 hs]
theorem zyQ (L:Nat) (j:List Int) {a w:Nat} (ha:a≤j.length) (hj:j.length≤100000000) (hw:w≤100) (k:Int→Option β):xf β L (zo .u8 j) (a:Int) (w:Int) k=if a+w≤j.length then k 0 else k 1:=by
 unfold xf zl8
 rw [yP (by omega),yw,yP (by omega),xF (by omega) (by omega),xr,zu6]
 by_cases h:a+w≤j.length
 ·rw [if_neg (by omega),if_pos h]
 ·rw [if_pos (by omega),if_neg h]
theorem zz4 (L:Nat) (j:List Int) (hj:j.length≤100000000) {a i:Nat} (h:a+i < j.length) (hi:i < 4) (acc:Int) (kh:List (List V)→Int→Int→Int→Int→Int→Option β) (kx:Int→Int→Int→Option β) (hb:Byt j) :
  zbz xf L (zo .u8 j) (a:Int) 4 acc 4 (i:Int) kh kx=kh (zo .u8 j) a 4 (ior .u32 acc (zdo .u32 (j.getD (a+i) 0) ((8 * i:Nat):Int))) 4 ((i+1:Nat):Int):=by
 have w1:IntKind.wrap .i64 ((a:Int)+i)=((a+i:Nat):Int):=by rw [xF (by omega) (by omega)]; omega
 have w2:IntKind.wrap .i64 ((8:Int) * i)=((8 * i:Nat):Int):=by rw [xF (by omega) (by omega)]; omega
 have w3:IntKind.wrap .i64 ((i:Int)+1)=((i+1:Nat):Int):=by rw [xF (by omega) (by omega)]; omega
 have hg:=hb.getD (a+i)
 unfold zbz
 rw [xQ (by omega),w1,xr,zbD (zyw h),cI8,zmf hg.1 (by omega),xr,w2,xr,zj (by omega),xr,xr,w3,xr]
theorem zmZ (L n:Nat) (j:List Int) (hj:j.length≤100000000) {a i:Nat} (h:a+i < j.length) (hi:i < 4) (acc:Int) (kx:Int→Int→Int→Option β) (hb:Byt j) :
  yT xf L kx (n+1) (zo .u8 j) (a:Int) 4 acc 4 (i:Int)=yT xf L kx n (zo .u8 j) a 4 (ior .u32 acc (zdo .u32 (j.getD (a+i) 0) ((8 * i:Nat):Int))) 4 ((i+1:Nat):Int):=by
 rw [yT]
 exact zz4 L j hj h hi acc _ _ hb
theorem zBS (L n:Nat) (j:List Int) (a:Int) (acc:Int) (kx:Int→Int→Int→Option β) :
  yT xf L kx (n+1) (zo .u8 j) a 4 acc 4 4=kx a 4 acc:=by
 rw [yT]
 unfold zbz
 rw [yP (by omega)]
theorem zAj {L:Nat} (hL:20≤L) {j:List Int} (hb:Byt j) (hj:j.length≤100000000) {a:Nat} (ha:a≤j.length) (k:Int→Int→Int→Option β):y5 β L (zo .u8 j) (a:Int) k=if a+4≤j.length then k (le4 j a) ((a+4:Nat):Int) 0 else k 0 0 1:=by
 obtain ⟨m,rfl⟩:∃ m,L=m+5:=⟨L - 5,by omega⟩
 unfold y5 znU yF zew zgl
 have rm:=zyQ (m+5) j (a:=a) (w:=4) ha hj (by omega) (β:=β)
 rw [show ((4:Nat):Int)=4 from rfl] at rm
 rw [rm]
 by_cases h:a+4≤j.length
 ·have h0:=hb.getD a; have h1:=hb.getD (a+1); have h2:=hb.getD (a+2); have h3:=hb.getD (a+3)
  rw [if_pos h,if_pos h,zcr,if_pos rfl]
  have q0:ior .u32 0 (zdo .u32 (j.getD (a+0) 0) ((8 * 0:Nat):Int))=j.getD a 0:=in1 (b:=0) h0
  have q1:ior .u32 (j.getD a 0) (zdo .u32 (j.getD (a+1) 0) ((8 * 1:Nat):Int))=j.getD (a+1) 0 * 2 ^ 8+j.getD a 0:=in2 8 (by omega) h1 h0.1 (by omega) (by omega)
  have q2:ior .u32 (j.getD (a+1) 0 * 2 ^ 8+j.getD a 0) (zdo .u32 (j.getD (a+2) 0) ((8 * 2:Nat):Int))=j.getD (a+2) 0 * 2 ^ 16+(j.getD (a+1) 0 * 2 ^ 8+j.getD a 0):=in2 16 (by omega) h2 (by omega) (by omega) (by omega)
  have q3:ior .u32 (j.getD (a+2) 0 * 2 ^ 16+(j.getD (a+1) 0 * 2 ^ 8+j.getD a 0)) (zdo .u32 (j.getD (a+3) 0) ((8 * 3:Nat):Int))=j.getD (a+3) 0 * 2 ^ 24+(j.getD (a+2) 0 * 2 ^ 16+(j.getD (a+1) 0 * 2 ^ 8+j.getD a 0)):=in2 24 (by omega) h3 (by omega) (by omega) (by omega)
  refine (zmZ (m+5) (m+4) j hj (a:=a) (i:=0) (by omega) (by omega) 0 _ hb).trans ?_
  rw [q0]
  refine (zmZ (m+5) (m+3) j hj (a:=a) (i:=1) (by omega) (by omega) _ _ hb).trans ?_
  rw [q1]
  refine (zmZ (m+5) (m+2) j hj (a:=a) (i:=2) (by omega) (by omega) _ _ hb).trans ?_
  rw [q2]
  refine (zmZ (m+5) (m+1) j hj (a:=a) (i:=3) (by omega) (by omega) _ _ hb).trans ?_
  rw [q3]
  refine (zBS (m+5) m j _ _ _).trans ?_
  unfold zds
  rw [xF (by omega) (by omega),xr]
  congr 1
  unfold le4; omega
 ·rw [if_neg h,if_neg h,zcr,if_neg (by decide)]
theorem zyD (L n:Nat) (j:List Int) (a:Int) (kx:Int→Int→Int→Option β) {acc i:Int}:zaV xf L kx (n+2) (zo .u8 j) a 1 acc 1 i=zbK xf L (zo .u8 j) a 1 acc 1 i (fun p0 p1 p2 p10 p19 p20=>zaV xf L kx (n+1) p0 p1 p2 p10 p19 p20) kx:=by rw [zaV]
theorem zD0 {L:Nat} (hL:20≤L) {j:List Int} (hb:Byt j) (hj:j.length≤100000000) {a:Nat} (ha:a≤j.length) (k:Int→Int→Int→Option β):zaD β L (zo .u8 j) (a:Int) k=if a+1≤j.length then k (j.getD a 0) ((a+1:Nat):Int) 0 else k 0 0 1:=by
 obtain ⟨m,rfl⟩:∃ m,L=m+5:=⟨L - 5,by omega⟩
 unfold zaD zpd yG zeH zgZ
 have rm:=zyQ (m+5) j (a:=a) (w:=1) ha hj (by omega) (β:=β)
 rw [show ((1:Nat):Int)=1 from rfl] at rm
 rw [rm]
 by_cases h:a+1≤j.length
 ·have h0:=hb.getD a
  rw [if_pos h,if_pos h,zcr,if_pos rfl]
  refine (zyD (m+5) (m+3) j a _).trans ?_
  unfold zbK
  have w1:IntKind.wrap .i64 ((a:Int)+0)=(a:Int):=by rw [xF (by omega) (by omega)]; omega
  have w2:IntKind.wrap .i64 ((8:Int) * 0)=0:=by decide
  have w3:IntKind.wrap .i64 ((0:Int)+1)=1:=by decide
  have e1:zdo .u8 (j.getD a 0) 0=j.getD a 0:=by
   show IntKind.wrap .u8 (j.getD a 0 * 2 ^ (min (Int.toNat 0) 8))=_
   rw [zrd]
   show (j.getD a 0 * 1) % 256=_
   omega
  have e2:ior .u8 0 (j.getD a 0)=j.getD a 0:=by
   obtain ⟨x,hx⟩:=Int.eq_ofNat_of_zero_le h0.1
   rw [hx] at h0 ⊢
   show IntKind.wrap .u8 (((BitVec.ofInt 8 0 ||| BitVec.ofInt 8 (x:Int)).toNat:Nat):Int)=x
   have q:(BitVec.ofInt 8 (x:Int)).toNat=x:=by
    rw [BitVec.toNat_ofInt]
    show (((x:Nat):Int) % ((2 ^ 8:Nat):Int)).toNat=_
    rw [← Int.natCast_emod,Int.toNat_natCast,Nat.mod_eq_of_lt (by omega)]
   have z:(BitVec.ofInt 8 0).toNat=0:=by decide
   rw [BitVec.toNat_or,q,z,Nat.zero_or,zrd]; omega
  rw [xQ (by decide),w1,xr,zbD (zyw (by omega)),cI8,w2,xr,zj (by decide),e1,xr,e2,xr,w3,xr]
  refine (zyD (m+5) (m+2) j a _).trans ?_
  unfold zbK zdJ
  rw [yP (by decide)]
  show lt (IntKind.wrap .i64 ((a:Int)+1)) (fun x8=>k (j.getD a 0) x8 0)=_
  rw [xF (by omega) (by omega),xr]
  exact Eq.trans rfl rfl
 ·rw [if_neg h,if_neg h,zcr,if_neg (by decide)]
end
section
set_option linter.unusedVariables false
set_option linter.unusedSimpArgs false
set_option maxRecDepth 100000
variable {β:Type}
def zmx (ls:List (List Int)):List (List V):=ls.map fun l=>[V.sl 1 (zo .u8 l)]
theorem zuD {ls:List (List Int)} {i:Nat} (h:i < ls.length):(zmx ls)[i]?=some [V.sl 1 (zo .u8 ls[i])]:=by simp [zmx,h]
theorem zsD (ls:List (List Int)):(zmx ls).length=ls.length:=by simp [zmx]
theorem zBp (l:List (List V)) (k:List (List V)→Option β):cL 1 [V.sl 1 l] 0 k=k l:=zrt rfl k
def zjs (ls:List (List Int)):Nat:=(ls.map List.length).foldr (·+·) 0
theorem zAN (l:List Int) (ls:List (List Int)):zjs (l::ls)=l.length+zjs ls:=rfl
theorem zrh {ls:List (List Int)} {i:Nat} (h:i < ls.length):zjs (ls.drop i)=ls[i].length+zjs (ls.drop (i+1)):=by rw [List.drop_eq_getElem_cons h,zAN]
theorem zw9 (L:Nat) (ls:List (List Int)) (hl:ls.length≤100) (p0:List (List V)) (kx:List (List V)→Int→Option β):∀ (n i s:Nat),i≤ls.length→ls.length - i < n→s+zjs (ls.drop i)≤100000000 →
  zar xd L kx n p0 (s:Int) (zmx ls) (ls.length:Int) (i:Int)=kx p0 ((s+zjs (ls.drop i):Nat):Int)
 | 0,i,s,h1,h2,h3=>by omega
 | n+1,i,s,h1,h2,h3=>by
  rw [zar]
  unfold zcx
  by_cases h:i < ls.length
  ·have e:=zrh h
   have w1:IntKind.wrap .i64 ((s:Int)+((ls[i].length:Nat):Int))=((s+ls[i].length:Nat):Int):=by rw [xF (by omega) (by omega)]; omega
   rw [xQ (by omega),zbD (zuD h),zBp,yw,w1,xr,yP (by omega),zao (by omega),xr]
   refine (zw9 L ls hl p0 kx n (i+1) (s+ls[i].length) (by omega) (by omega) (by omega)).trans ?_
   rw [e]; congr 1; omega
  ·rw [yP (by omega),List.drop_of_length_le (by omega)]
   congr 1
theorem zwS (L:Nat) (ls:List (List Int)) (hl:ls.length≤100) (kx:List (List V)→Option β):∀ (n i:Nat) (acc:List Int),i≤ls.length→ls.length - i < n→acc.length+zjs (ls.drop i)≤100000000 →
  zah xd L kx n (zo .u8 acc) (zmx ls) (ls.length:Int) (i:Int)=kx (zo .u8 (acc++(ls.drop i).flatten))
 | 0,i,s,h1,h2,h3=>by omega
 | n+1,i,acc,h1,h2,h3=>by
  rw [zah]
  unfold zcc
  by_cases h:i < ls.length
  ·have e:=zrh h
   rw [xQ (by omega),zbD (zuD h),zBp,yw,yw,zj (by unfold yj; omega),ze0,xr,zao (by omega),xr]
   refine (zwS L ls hl kx n (i+1) (acc++ls[i]) (by omega) (by omega) (by rw [List.length_append]; omega)).trans ?_
   rw [List.drop_eq_getElem_cons h,List.flatten_cons,List.append_assoc]
  ·rw [yP (by omega),List.drop_of_length_le (by omega),List.flatten_nil,List.append_nil]
theorem zvd {L:Nat} (hL:200≤L) (ls:List (List Int)) (hl:ls.length≤100) (hs:zjs ls≤100000000) (k:List (List V)→Option β):yk β L (zmx ls) k=k (zo .u8 ls.flatten):=by
 unfold yk zch zdP
 rw [zsD]
 refine (zw9 L ls hl _ _ L 0 0 (by omega) (by omega) (by rw [List.drop_zero]; omega)).trans ?_
 unfold zaN zca xd
 rw [List.drop_zero,zj (by omega),zsD]
 refine (zwS L ls hl _ L 0 [] (by omega) (by omega) (by rw [List.drop_zero]; simp; omega)).trans ?_
 rw [List.drop_zero,List.nil_append]
 rfl
theorem zqW {a b:Nat} (h:a+b≤1000000000000):(a+b) * 1≤yj∧a+b≤yj:=by
 unfold yj; omega
theorem zC2 {L:Nat} {b s:List Int} (h:b.length+s.length≤1000000000000) (k:List (List V)→Option β):xl β L (zo .u8 b) (zo .u8 s) k=k (zo .u8 (b++s)):=by
 simp only [xl,zki,xr,yw,List.replicate_zero,List.length_nil,List.nil_append]
 rw [xF (by omega) (by omega),zj (by unfold yj; omega),zj (by unfold yj; omega),zj (zqW h),ze0]
theorem zvx (L:Nat) (ls:List (List Int)) (hl:ls.length≤100) (kx:List (List V)→Option β):∀ (n i:Nat) (acc:List Int),i≤ls.length→ls.length - i < n→acc.length+zjs (ls.drop i)≤100000000 →
  zdV xl L kx n (zo .u8 acc) (zmx ls) (ls.length:Int) (i:Int)=kx (zo .u8 (acc++(ls.drop i).flatten))
 | 0,i,s,h1,h2,h3=>by omega
 | n+1,i,acc,h1,h2,h3=>by
  rw [zdV]
  unfold zhT
  by_cases h:i < ls.length
  ·have e:=zrh h
   rw [xQ (by omega),zbD (zuD h),zBp,zC2 (by omega),zao (by omega),xr]
   refine (zvx L ls hl kx n (i+1) (acc++ls[i]) (by omega) (by omega) (by rw [List.length_append]; omega)).trans ?_
   rw [List.drop_eq_getElem_cons h,List.flatten_cons,List.append_assoc]
  ·rw [yP (by omega),List.drop_of_length_le (by omega),List.flatten_nil,List.append_nil]
theorem zyB {L:Nat} (hL:200≤L) (ls:List (List Int)) (hl:ls.length≤100) (hs:zjs ls≤100000000) (k:List (List V)→Option β):zc β L (zmx ls) k=k (zo .u8 ls.flatten):=by
 unfold zc ziW zmt
 rw [zsD]
 refine (zvx L ls hl _ L 0 [] (by omega) (by omega) (by rw [List.drop_zero]; simp; omega)).trans ?_
 rw [List.drop_zero,List.nil_append]
 rfl
theorem zzq (a b:List Int):xh 1 2 [(V.sl 1 (zo .u8 a)),(V.sl 1 (zo .u8 b))]=zmx [a,b]:=rfl
theorem zEd (a b c:List Int):xh 1 3 [(V.sl 1 (zo .u8 a)),(V.sl 1 (zo .u8 b)),(V.sl 1 (zo .u8 c))]=zmx [a,b,c]:=rfl
theorem zzv (a b:List Int):[a,b].flatten=a++b:=by simp
theorem zEa (a b c:List Int):[a,b,c].flatten=a++b++c:=by simp
theorem zBd (a b:List Int):zjs [a,b]=a.length+b.length:=by simp [zjs]
theorem zEs (a b c:List Int):zjs [a,b,c]=a.length+b.length+c.length:=by simp [zjs]; omega
theorem zzs (l:List Int):∀ e ∈ zo .u8 l,e.length=1:=by
 intro e he
 obtain ⟨n,_,rfl⟩:=List.mem_map.1 he; rfl
theorem zDR (a:Option β) (b:List V→List (List V)→Option β):lc [] a b=a:=Eq.trans rfl rfl
theorem zCR (x:List V) (l:List (List V)) (a:Option β) (b:List V→List (List V)→Option β):lc (x::l) a b=b x l:=Eq.trans rfl rfl
theorem zz5 (L:Nat) (l:List Int) (hl:l.length≤100000000) (k:List (List V)→Option β):zl β L (zo .u8 l) k=k (zo .u8 l):=by
 unfold zl zd2
 cases h:zo .u8 l with
 | nil=>rw [zDR]
 | cons x m =>
  have hlen:(x::m).length≤100000000:=by rw [← h,yw]; exact hl
  rw [zCR,zj (by simp only [yj]; omega),zj (.inl (by simp)),zso (by rw [← h]; exact zzs l)]
theorem zpR:∀ (l:List Int),zed (zo .u8 l)=some (l.map fun n=>UInt8.ofNat n.toNat)
 | []=>rfl
 | n::l=>by
  have:=zpR l
  simp only [zo] at this
  simp only [zo,List.map_cons,zed,this,Option.map_some]
theorem zvh (l:List Int) (k:ByteArray→Option β):zsC (zo .u8 l) k=k ⟨(l.map fun n=>UInt8.ofNat n.toNat).toArray⟩:=by
 simp only [zsC,zpR]
theorem zre (L:Nat) (a:List Int) (k:Bool→Option β):xa β L (zo .u8 a) (zo .u8 a) k=k true:=by
 unfold xa zmM
 rw [zvh,zvh,BEq.rfl]
def zzG (n:Int) (w:Nat):List Int:=(List.range w).map fun (i:Nat)=>IntKind.wrap .u8 (zc3 .u64 n (8 * (i:Int)))
theorem zwP (n:Int) (w:Nat):(zzG n w).length=w:=by simp [zzG]
def zll (n:Int):List Int:=zzG (IntKind.wrap .u64 n) 4
theorem zmK (n:Int):(zll n).length=4:=zwP _ _
theorem zyO (n:Int):Byt (zll n):=by
 intro x hx
 obtain ⟨i,_,rfl⟩:=List.mem_map.1 hx
 exact zsW _
theorem zxj (k:IntKind):([]:List (List V))=zo k []:=rfl
theorem zDO {L:Nat} {b s:List Int} (h:b.length+s.length≤1000000000000) (k:List (List V)→Option β):yO β L (zo .u8 b) (zo .u8 s) k=k (zo .u8 (b++s)):=by
 simp only [yO,zkl,xr,yw,List.replicate_zero,List.length_nil,List.nil_append]
 rw [xF (by omega) (by omega),zj (by unfold yj; omega),zj (by unfold yj; omega),zj (zqW h),ze0]
theorem zEk (L:Nat) (n:Int) (k:List (List V)→Option β):yR β (L+20) n 4 k=k (zo .u8 (zzG n 4)):=by kernel_rfl
theorem zB0 {L:Nat} (hL:20≤L) {b:List Int} (h:b.length≤900000000000) (n:Int) (k:List (List V)→Option β):zF β L (zo .u8 b) n k=k (zo .u8 (b++zll n)):=by
 obtain ⟨m,rfl⟩:∃ m,L=m+20:=⟨L - 20,by omega⟩
 simp only [zF,zhE,xr]
 rw [zEk,zDO (by rw [zwP]; omega)]; rfl
end
section
set_option linter.unusedVariables false
set_option linter.unusedSimpArgs false
set_option maxRecDepth 100000
variable {β:Type}
structure Rec where
 kd:Int
 ht:Int
 d:List Int
def Rec.v (r:Rec):List V:=[V.sc (.int .i64 r.kd),V.sc (.int .i64 r.ht),V.sl 1 (zo .u8 r.d)]
def Rec.okB (r:Rec):Bool:=decide (r.kd ≥ 1) && (decide (r.kd≤5) && (decide (r.ht ≥ 0) && (decide (r.ht≤16777216) && decide (((r.d.length:Nat):Int)≤4096))))
theorem zuo (r:Rec) (k:Int→Option β):cI .i64 r.v 0 k=k r.kd:=zj7 rfl k
theorem zzE (r:Rec) (k:Int→Option β):cI .i64 r.v 1 k=k r.ht:=zj7 rfl k
theorem zww (r:Rec) (k:List (List V)→Option β):cLd 1 r.v 2 k=k (zo .u8 r.d):=zBT rfl k
theorem zAC (a b:Int) (d:List Int):[(V.sc (.int .i64 a)),(V.sc (.int .i64 b)),(V.sl 1 (zo .u8 d))]=(Rec.mk a b d).v:=rfl
theorem zof (r:Rec):List.map V.dem (List.take 3 r.v)=r.v:=Eq.trans rfl rfl
theorem zka (r:Rec):List.take 3 r.v=r.v:=Eq.trans rfl rfl
theorem zmH (r:Rec):xn [(V.sc (.int .i64 (0:Int))),(V.sc (.int .i64 (0:Int))),(V.gs 1 ([]:List (List V)))] 0 r.v=r.v:=zd7 rfl
theorem zuN (r:Rec):xn [(V.sc (.int .i64 (0:Int))),(V.sc (.int .i64 (0:Int))),(V.sl 1 ([]:List (List V)))] 0 r.v=r.v:=zd7 rfl
theorem zgd (r:Rec) (k:Option β):chk (0+3≤List.length r.v) k=k:=zj (by show 0+3≤3; omega) k
theorem zgg (r:Rec) (k:Option β):chk ((List.length r.v)=3∧0+3≤3) k=k:=zj ⟨rfl,by decide⟩ k
theorem zyR (r:Rec) (k:Option β):chk (0=0∧(List.length r.v)=3∧3≠0) k=k:=zj ⟨rfl,rfl,by decide⟩ k
theorem zxA (L:Nat) (r:Rec) (k:Bool→Option β):xu β L r.v k=k r.okB:=by
 unfold xu zjC Rec.okB
 rw [zuo,zuo,zzE,zzE,zww,yw]
 cases decide (r.kd ≥ 1) <;> cases decide (r.kd≤5) <;> cases decide (r.ht ≥ 0) <;> cases decide (r.ht≤16777216) <;> rfl
def crc (last fr:List Int):List Int:=(zsy (last++fr)).take 4
theorem zj8 (last fr:List Int):(crc last fr).length=4:=by rw [crc,List.length_take,zxs]; decide
theorem zxQ (last fr:List Int):Byt (crc last fr):=Byt.take (a:=zsy (last++fr)) (zCx _) 4
theorem zqr {w:List Int} (hw:w.length=4):xn [(V.sc (.int .u8 (0:Int))),(V.sc (.int .u8 (0:Int))),(V.sc (.int .u8 (0:Int))),(V.sc (.int .u8 (0:Int)))] 0 (row .u8 w)=row .u8 w:=zd7 (by rw [zC,hw]; rfl)
theorem zy1 {w:List Int} (hw:4≤w.length):xh 1 4 (row .u8 w)=zo .u8 (w.take 4):=zoT .u8 4 w hw
theorem zh4 {w:List Int} (hw:w.length=4) (k:Option β):chk ((List.length (row .u8 w))=4∧0+4≤4) k=k:=zj ⟨by rw [zC,hw],by decide⟩ k
theorem zj6 {w:List Int} (hw:w.length=4) (k:Option β):chk (0+4≤(List.length (row .u8 w))) k=k:=zj (by rw [zC,hw]; omega) k
theorem zuA {w:List Int} (hw:w.length=4) (k:Option β):chk (0=0∧(List.length (row .u8 w))=4∧4≠0) k=k:=zj ⟨rfl,by rw [zC,hw],by decide⟩ k
theorem zlY {w:List Int} (hw:w.length=4):List.take 4 (row .u8 w)=row .u8 w:=List.take_of_length_le (by rw [zC,hw]; omega)
theorem zwQ {L:Nat} (hL:20000≤L) {last fr:List Int} (h4:last.length=4) (hb:Byt last) (hf:Byt fr) (hl:fr.length≤10000) (k:List V→Option β):yv β L (row .u8 last) (zo .u8 fr) k=k (row .u8 (crc last fr)):=by
 unfold yv zi3
 rw [zj (by rw [zC,h4]; decide),zj (by rw [zC,h4]; decide),zy1 (by omega),List.take_of_length_le (show last.length≤4 by omega),zzq,zvd (by omega) _ (by simp) (by rw [zBd]; omega),zzv]
 rw [zDQ (by rw [List.length_append]; omega) (by rw [List.length_append]; omega) (hb.app hf)]
 have hs:=zxs (last++fr)
 rw [zj ⟨by rw [zC,hs],by decide⟩,zDX hs,xr,zj (by rw [zC,hs]; decide),zj (by rw [zC,hs]; decide),zBr]
 have hc:=zj8 last fr
 unfold crc at hc ⊢
 rw [zh4 hc,zqr hc,xr,zuA hc]
def slc (j:List Int) (a b:Nat):List Int:=(j.drop a).take (b - a)
theorem zu1 {j:List Int} {a b:Nat} (h1:a≤b) (h2:b≤j.length):(slc j a b).length=b - a:=by rw [slc,List.length_take,List.length_drop]; omega
theorem zDu {j:List Int} (h:Byt j) (a b:Nat):Byt (slc j a b):=(h.drop a).take _
theorem zsO (j:List Int) (a b:Nat):List.take (b - a) (List.drop a (zo .u8 j))=zo .u8 (slc j a b):=by rw [zvB,zfH,slc]
def zbu (j:List Int) (a:Nat):Nat:=(le4 j a).toNat
def zlO (j:List Int) (a:Nat):Rec:=⟨j.getD (a+4) 0,le4 j (a+5),slc j (a+9) (a+9+zbu j a)⟩
def Frm (j:List Int) (a:Nat) (last:List Int):Prop:=le4 j a≤4096∧a+13+zbu j a≤j.length∧(zlO j a).okB=true∧slc j (a+9+zbu j a) (a+13+zbu j a)=crc last (slc j a (a+9+zbu j a))
open Classical in
noncomputable def nextO (j:List Int) (a:Nat) (last:List Int):Option (Rec × Nat × List Int) :=
 if Frm j a last then some (zlO j a,a+13+zbu j a,crc last (slc j a (a+9+zbu j a))) else none
def zRec:Rec:=⟨0,0,[]⟩
def z4:List Int:=[0,0,0,0]
theorem znj (k:List V→Int→List V→Bool→Option β) :
  lt [(V.sc (.int .i64 (0:Int))),(V.sc (.int .i64 (0:Int))),(V.sl 1 ([]:List (List V)))] (fun r3=>lt [(V.sc (.int .u8 (0:Int))),(V.sc (.int .u8 (0:Int))),(V.sc (.int .u8 (0:Int))),(V.sc (.int .u8 (0:Int)))] fun r4=>chk (0=0∧(List.length r3)=3∧3≠0) (chk (0=0∧(List.length r4)=4∧4≠0) (k r3 (0:Int) r4 false)))=k zRec.v 0 (row .u8 z4) false:=by
 rw [xr,xr,zj ⟨rfl,rfl,by decide⟩,zj ⟨rfl,rfl,by decide⟩]; exact Eq.trans rfl rfl
noncomputable def nextK (j:List Int) (a:Nat) (last:List Int) (k:List V→Int→List V→Bool→Option β):Option β:=match nextO j a last with
 | some (r,e,f)=>k r.v (e:Int) (row .u8 f) true
 | none=>k zRec.v 0 (row .u8 z4) false
theorem zg0 {j:List Int} {a:Nat} {last:List Int} (h:¬ Frm j a last) (k:List V→Int→List V→Bool→Option β):nextK j a last k=k zRec.v 0 (row .u8 z4) false:=by
 unfold nextK nextO; rw [if_neg h]
theorem zAy {j:List Int} {a:Nat} {last:List Int} (h:Frm j a last) (k:List V→Int→List V→Bool→Option β):nextK j a last k=k (zlO j a).v ((a+13+zbu j a:Nat):Int) (row .u8 (crc last (slc j a (a+9+zbu j a)))) true:=by
 unfold nextK nextO; rw [if_pos h]
theorem zCn {L:Nat} (hL:20000≤L) {j last:List Int} (hb:Byt j) (hj:j.length≤1000000) (h4:last.length=4) (hlb:Byt last) {a:Nat} (ha:a≤j.length) (k:List V→Int→List V→Bool→Option β):xo β L (zo .u8 j) (a:Int) (row .u8 last) k=nextK j a last k:=by
 unfold xo zj3
 rw [zAj (by omega) hb (by omega) ha]
 have l0:=zAo hb a
 have l5:=zAo hb (a+5)
 rcases Classical.em (¬ (a+4≤j.length)) with c1 | c1'
 ·rw [if_neg c1,zcr,if_neg (by decide),znj,zg0 (fun h=>by have:=h.2.1; omega)]
 have c1:a+4≤j.length:=Classical.not_not.1 c1'
 rw [if_pos c1,zcr,if_pos rfl]
 rcases Classical.em (¬ (le4 j a≤4096)) with c2 | c2'
 ·rw [xQ (by omega),znj,zg0 (fun h=>c2 h.1)]
 have c2:le4 j a≤4096:=Classical.not_not.1 c2'
 have hN:le4 j a=((zbu j a:Nat):Int):=by unfold zbu; omega
 have hN2:zbu j a≤4096:=by omega
 rw [yP (by omega),zD0 (by omega) hb (by omega) (by omega)]
 rcases Classical.em (¬ (a+4+1≤j.length)) with c3 | c3'
 ·rw [if_neg c3,zcr,if_neg (by decide),znj,zg0 (fun h=>by have:=h.2.1; omega)]
 have c3:a+4+1≤j.length:=Classical.not_not.1 c3'
 rw [if_pos c3,zcr,if_pos rfl,zAj (by omega) hb (by omega) (by omega)]
 rcases Classical.em (¬ (a+4+1+4≤j.length)) with c4 | c4'
 ·rw [if_neg c4,zcr,if_neg (by decide),znj,zg0 (fun h=>by have:=h.2.1; omega)]
 have c4:a+4+1+4≤j.length:=Classical.not_not.1 c4'
 rw [if_pos c4,zcr,if_pos rfl]
 rcases Classical.em (¬ (le4 j (a+5)≤16777216)) with c5 | c5'
 ·rw [xQ (by show le4 j (a+5) > 16777216; omega),znj,zg0 (fun h=>by
   have:=h.2.2.1
   unfold Rec.okB zlO at this
   simp only [Bool.and_eq_true,decide_eq_true_eq] at this
   exact c5 this.2.2.2.1)]
 have c5:le4 j (a+5)≤16777216:=Classical.not_not.1 c5'
 have w1:IntKind.wrap .i64 (le4 j a)=((zbu j a:Nat):Int):=by rw [xF (by omega) (by omega)]; exact hN
 have w2:IntKind.wrap .i64 (((a+4+1+4:Nat):Int)+((zbu j a:Nat):Int))=((a+9+zbu j a:Nat):Int):=by rw [xF (by omega) (by omega)]; omega
 have w3:IntKind.wrap .i64 (((a+9+zbu j a:Nat):Int)+4)=((a+13+zbu j a:Nat):Int):=by rw [xF (by omega) (by omega)]; omega
 rw [yP (by show ¬ le4 j (a+5) > 16777216; omega),w1,xr,w2,xr,w3,xr,yw]
 rcases Classical.em (¬ (a+13+zbu j a≤j.length)) with c6 | c6'
 ·rw [xQ (by omega),znj,zg0 (fun h=>c6 h.2.1)]
 have c6:a+13+zbu j a≤j.length:=Classical.not_not.1 c6'
 have hk:=hb.getD (a+4)
 rw [yP (by omega),xF (by omega) (by omega),xr,xF (show -9223372036854775808≤le4 j (a+4+1) by show _≤le4 j (a+5); omega) (by show le4 j (a+5)≤_; omega),xr,zj ⟨by omega,by omega⟩,Int.toNat_natCast,zj ⟨by omega,by omega⟩,Int.toNat_natCast,show a+4+1+4=a+9 by omega,zsO,zz5 L _ (by rw [zu1 (by omega) (by omega)]; omega),zAC,xr,xr,zj ⟨by omega,by omega⟩,Int.toNat_natCast,zj ⟨by omega,by omega⟩,zsO]
 have hF:(slc j (a+9+zbu j a) (a+13+zbu j a)).length=4:=by rw [zu1 (by omega) (by omega)]; omega
 have eF:List.take 4 (List.flatten (List.take 4 (zo .u8 (slc j (a+9+zbu j a) (a+13+zbu j a)))))=row .u8 (slc j (a+9+zbu j a) (a+13+zbu j a)):=by
  rw [zfH,List.take_of_length_le (show (slc j (a+9+zbu j a) (a+13+zbu j a)).length≤4 by omega),zqi,zlY hF]
 rw [zj (by rw [yw]; omega),eF,zh4 hF,zqr hF,xr,zgd,zof,zxA]
 have eR:(Rec.mk (j.getD (a+4) 0) (le4 j (a+4+1)) (slc j (a+9) (a+9+zbu j a)))=zlO j a:=rfl
 rw [eR]
 cases c7:(zlO j a).okB with
 | false=>rw [Bool.not_false,zoW,znj,zg0 (fun h=>by rw [h.2.2.1] at c7; cases c7)]
 | true =>
  rw [Bool.not_true,zd8,zj6 hF,zj6 h4,zj ⟨by omega,by omega⟩,zj ⟨by omega,by omega⟩,zlY h4,Int.toNat_natCast,zsO,zwQ hL h4 hlb (zDu hb _ _) (by rw [zu1 (by omega) (by omega)]; omega),zlY hF,zC8 .u8 hF (zj8 _ _)]
  by_cases c8:slc j (a+9+zbu j a) (a+13+zbu j a)=crc last (slc j a (a+9+zbu j a))
  ·rw [decide_eq_true c8,Bool.not_true,zd8,zgd,xr,zj6 hF,zka,zgg,zmH,xr,zh4 hF,zqr hF,xr,zyR,zuA hF,zAy ⟨c2,c6,c7,c8⟩,c8]
  ·rw [decide_eq_false c8,Bool.not_false,zoW,znj,zg0 (fun h=>c8 h.2.2.2)]
end
section
set_option linter.unusedVariables false
set_option linter.unusedSimpArgs false
set_option maxRecDepth 100000
variable {β:Type}
noncomputable def frameK (j:List Int) (a:Nat) (last:List Int) (k:List V→List (List V)→Int→Bool→Option β):Option β:=match nextO j a last with
 | some (r,e,f)=>k r.v (zo .u8 f) (e:Int) true
 | none=>k zRec.v [] 0 false
noncomputable def scanO:Nat→List Int→Nat→List Int→List Rec→List Rec × Nat × List Int
 | 0,_,a,last,acc=>(acc,a,last)
 | n+1,j,a,last,acc=>match nextO j a last with
  | some (r,e,f)=>scanO n j e f (acc++[r])
  | none=>(acc,a,last)
theorem ztV {j:List Int} {a:Nat} {last:List Int} {r:Rec} {e:Nat} {f:List Int} (h:nextO j a last=some (r,e,f)):a+13≤e∧e≤j.length∧f.length=4∧Byt f∧Frm j a last∧r=zlO j a∧e=a+13+zbu j a∧f=crc last (slc j a (a+9+zbu j a)):=by
 unfold nextO at h
 split at h
 ·rename_i hF
  cases h
  have:=hF.2.1
  exact ⟨by omega,this,zj8 _ _,zxQ _ _,hF,rfl,rfl,rfl⟩
 ·cases h
def zaM (l:List Rec):List (List V):=l.map Rec.v
theorem zwD (l:List Rec) (r:Rec):zaM l++[r.v]=zaM (l++[r]):=by simp [zaM]
theorem zcI (l:List Rec):(zaM l).length=l.length:=by simp [zaM]
theorem zuR (r:Rec):xh 3 1 r.v=[r.v]:=by rw [xh,xh,zka]
theorem zvj {L:Nat} (hL:20000≤L) {j:List Int} (hb:Byt j) (hj:j.length≤1000000) (kr:List (List V)→Int→List V→Option β) (b0 b1 b2 b3:Int):∀ (n a:Nat) (last:List Int) (acc:List Rec),a≤j.length→j.length - a < n→last.length=4→Byt last→acc.length≤a →
  zc2 xo L kr n (zo .u8 j) (zaM acc) (a:Int) b0 b1 b2 b3 (row .u8 last)=kr (zaM (scanO n j a last acc).1) (((scanO n j a last acc).2.1:Nat):Int) (xn [(V.sc (.int .u8 b0)),(V.sc (.int .u8 b1)),(V.sc (.int .u8 b2)),(V.sc (.int .u8 b3))] 0 (row .u8 (scanO n j a last acc).2.2))
 | 0,a,last,acc,h1,h2,h3,h4,h5=>by omega
 | n+1,a,last,acc,h1,h2,h3,h4,h5=>by
  rw [zc2]
  unfold zgm
  rw [zj6 h3,zlY h3,zCn hL hb hj h3 h4 h1]
  unfold nextK
  rw [scanO]
  cases e:nextO j a last with
  | none =>
   show chk ((List.length zRec.v)=3∧0+3≤3) _=_
   have hz:z4.length=4:=rfl
   rw [zgg,zmH,xr,zh4 hz,zqr hz,xr,Bool.not_false,zoW,zj6 h3,zh4 h3,xr]
  | some x =>
   obtain ⟨r,en,f⟩:=x
   obtain ⟨q1,q2,q3,q4,q5,q6,q7,q8⟩:=ztV e
   show chk ((List.length r.v)=3∧0+3≤3) _=_
   rw [zgg,zmH,xr,zh4 q3,zqr q3,xr,Bool.not_true,zd8,zgd,zka,zgg,zuN,zuR,zj (by rw [zcI]; unfold yj; simp; omega),zwD,xr,zj6 q3,zlY q3,zj ⟨by rw [zC,q3],by rw [zC,h3]; omega⟩,zd7 (by rw [zC,zC,q3,h3]),xr]
   exact zvj hL hb hj kr b0 b1 b2 b3 n en f (acc++[r]) q2 (by omega) q3 q4 (by simp; omega)
theorem zwN (j:List Int) (hb:Byt j):∀ (n a:Nat) (last:List Int) (acc:List Rec),a≤j.length→last.length=4→Byt last→(scanO n j a last acc).2.1≤j.length∧(scanO n j a last acc).2.2.length=4∧Byt (scanO n j a last acc).2.2
 | 0,a,last,acc,h1,h2,h3=>⟨h1,h2,h3⟩
 | n+1,a,last,acc,h1,h2,h3=>by
  rw [scanO]
  cases e:nextO j a last with
  | none=>exact ⟨h1,h2,h3⟩
  | some x =>
   obtain ⟨r,en,f⟩:=x
   obtain ⟨q1,q2,q3,q4,_⟩:=ztV e
   exact zwN j hb n en f (acc++[r]) q2 q3 q4
theorem zAH:z4.length=4:=rfl
theorem zCe:Byt z4:=by intro x hx; simp [z4] at hx; omega
noncomputable def scn (L:Nat) (j:List Int):List Rec × Nat × List Int:=scanO L j 0 z4 []
theorem zuh (L:Nat) {j:List Int} (hb:Byt j):(scn L j).2.1≤j.length∧(scn L j).2.2.length=4∧Byt (scn L j).2.2:=zwN j hb L 0 z4 [] (by omega) zAH zCe
theorem zut {L:Nat} (hL:20000≤L) {j:List Int} (hb:Byt j) (hj:j.length≤10000) (k:List (List V)→Int→List V→Option β):zq β L (zo .u8 j) k=k (zaM (scn L j).1) (((scn L j).2.1:Nat):Int) (row .u8 (scn L j).2.2):=by
 have h:=zuh L hb
 unfold zq zhn zj4
 refine (zvj hL hb (by omega) _ 0 0 0 0 L 0 z4 [] (by omega) (by omega) zAH zCe (by simp)).trans ?_
 show zdi xo L _ _ (xn _ 0 (row .u8 (scn L j).2.2)) k=_
 unfold zdi
 rw [zqr h.2.1,zuA h.2.1]
 rfl
theorem zj9 {L:Nat} (hL:20000≤L) {j:List Int} (hb:Byt j) (hj:j.length≤10000) (k:List (List V)→Int→Option β):xb β L (zo .u8 j) k=k (zaM (scn L j).1) (((scn L j).2.1:Nat):Int):=by
 have h:=zuh L hb
 unfold xb zkc
 rw [zut hL hb hj,zh4 h.2.1,xr]
theorem zvp {L:Nat} (hL:20000≤L) {j:List Int} (hb:Byt j) (hj:j.length≤10000) (k:List (List V)→Option β):zb β L (zo .u8 j) k=k (zo .u8 (j.take (scn L j).2.1)):=by
 have h:=zuh L hb
 unfold zb zim
 rw [zut hL hb hj,zh4 h.2.1,xr,zj ⟨by omega,by rw [yw]; omega⟩,Int.toNat_natCast,List.drop_zero,Nat.sub_zero,zfH,zz5 L _ (by rw [List.length_take]; omega)]
def yz (r:Rec):List Int:=zll ((r.d.length:Nat):Int)++[IntKind.wrap .u8 r.kd]++zll r.ht++r.d
theorem zfL (r:Rec):(yz r).length=9+r.d.length:=by simp [yz,zmK]; omega
theorem zuU {r:Rec} (h:Byt r.d):Byt (yz r):=by
 unfold yz
 refine Byt.app (Byt.app (Byt.app (zyO _) ?_) (zyO _)) h
 intro x hx
 rw [List.mem_singleton] at hx; subst hx; exact zsW _
noncomputable def appK (L:Nat) (j:List Int) (r:Rec) (k:List (List V)→Int→Option β):Option β :=
 if r.okB=true then (if (scn L j).2.1+13+r.d.length≤1048576 then k (zo .u8 (j.take (scn L j).2.1++yz r++crc (scn L j).2.2 (yz r))) 0 else k [] 4) else k [] 6
theorem zDH (n:Int):xh 1 1 [V.sc (.int .u8 n)]=zo .u8 [n]:=rfl
theorem zrp {r:Rec} (h:r.okB=true):r.d.length≤4096∧1≤r.kd∧r.kd≤5∧0≤r.ht∧r.ht≤16777216:=by
 unfold Rec.okB at h
 simp only [Bool.and_eq_true,decide_eq_true_eq] at h
 omega
theorem zkR {L:Nat} (hL:20000≤L) {j:List Int} (hb:Byt j) (hj:j.length≤10000) {r:Rec} (hr:Byt r.d) (k:List (List V)→Int→Option β):ya β L (zo .u8 j) r.v k=appK L j r k:=by
 have h:=zuh L hb
 unfold ya ziq appK
 rw [zgd,zof,zxA]
 cases c1:r.okB with
 | false=>rw [Bool.not_false,zoW,if_neg (by decide)]
 | true =>
  have hl:=zrp c1
  have w1:IntKind.wrap .i64 ((((scn L j).2.1:Nat):Int)+9)=(((scn L j).2.1+9:Nat):Int):=by rw [xF (by omega) (by omega)]; omega
  have w2:IntKind.wrap .i64 ((((scn L j).2.1+9:Nat):Int)+((r.d.length:Nat):Int))=(((scn L j).2.1+9+r.d.length:Nat):Int):=by rw [xF (by omega) (by omega)]; omega
  have w3:IntKind.wrap .i64 ((((scn L j).2.1+9+r.d.length:Nat):Int)+4)=(((scn L j).2.1+13+r.d.length:Nat):Int):=by rw [xF (by omega) (by omega)]; omega
  rw [Bool.not_true,zd8,if_pos rfl,zut hL hb hj,zh4 h.2.1,zqr h.2.1,xr,w1,xr,zww,yw,w2,xr,w3,xr]
  by_cases c2:(scn L j).2.1+13+r.d.length≤1048576
  ·rw [yP (by omega),if_pos c2,zww,yw,zmf (by omega) (by omega),xr,zxj .u8,zB0 (by omega) (by simp),List.nil_append,zuo,xr,zDH,yw,yw,zj (zqW (by simp [zmK])),ze0,xr,zzE,zmf (by omega) (by omega),xr,zB0 (by omega) (by simp [zmK]),zww,yw,yw,zj (zqW (by simp [zmK]; omega)),ze0,xr,zj6 h.2.1,zlY h.2.1]
   have eE:zll ((r.d.length:Nat):Int)++[IntKind.wrap .u8 r.kd]++zll r.ht++r.d=yz r:=rfl
   have hc:=zj8 (scn L j).2.2 (yz r)
   have hT:(j.take (scn L j).2.1).length=(scn L j).2.1:=by rw [List.length_take]; omega
   rw [eE,zwQ hL h.2.1 h.2.2 (zuU hr) (by rw [zfL]; omega),zh4 hc,zqr hc,xr,zj (by rw [zC,hc]; decide),zj ⟨by omega,by rw [yw]; omega⟩,zj (by rw [zC,hc]; decide),Int.toNat_natCast,Nat.sub_zero,List.drop_zero,zfH,zy1 (by omega),List.take_of_length_le (show (crc (scn L j).2.2 (yz r)).length≤4 by omega),zEd,zvd (by omega) _ (by simp) (by rw [zEs,zfL,hc,hT]; omega),zEa]
  ·rw [xQ (by omega),if_neg c2]
end
section
set_option linter.unusedVariables false
set_option linter.unusedSimpArgs false
set_option maxRecDepth 100000
variable {β:Type}
theorem ztA (n:Int) (h0:0≤n) (h1:n≤4294967295) (i:Nat) (hi:i < 4):IntKind.wrap .u8 (zc3 .u64 n (8 * (i:Int)))=n / (256 ^ i:Nat) % 256:=by
 rw [zrd]
 unfold zc3
 have e:min (8 * (i:Int)).toNat (IntKind.bits .u64)=8 * i:=by
  show min (8 * (i:Int)).toNat 64=8 * i
  omega
 rw [e]
 have e2:(2:Int) ^ (8 * i)=((256 ^ i:Nat):Int):=by
  rw [Int.pow_mul,Int.natCast_pow]; rfl
 rw [e2,Int.fdiv_eq_ediv_of_nonneg _ (Int.natCast_nonneg _)]
theorem zyS {n:Int} (h0:0≤n) (h1:n≤4294967295):zll n=[n % 256,n / 256 % 256,n / 65536 % 256,n / 16777216 % 256]:=by
 have q0:=ztA n h0 h1 0 (by omega)
 have q1:=ztA n h0 h1 1 (by omega)
 have q2:=ztA n h0 h1 2 (by omega)
 have q3:=ztA n h0 h1 3 (by omega)
 have e:zll n=[IntKind.wrap .u8 (zc3 .u64 n (8 * ((0:Nat):Int))),IntKind.wrap .u8 (zc3 .u64 n (8 * ((1:Nat):Int))),IntKind.wrap .u8 (zc3 .u64 n (8 * ((2:Nat):Int))),IntKind.wrap .u8 (zc3 .u64 n (8 * ((3:Nat):Int)))]:=by
  unfold zll; rw [zkk h0 (by omega)]; rfl
 rw [e,q0,q1,q2,q3]
 simp
def hd9 (r:Rec):List Int:=zll ((r.d.length:Nat):Int)++[IntKind.wrap .u8 r.kd]++zll r.ht
theorem zyW (r:Rec):yz r=hd9 r++r.d:=rfl
theorem zCP (r:Rec):(hd9 r).length=9:=by simp [hd9,zmK]
theorem zDS {r:Rec} (h:r.okB=true):hd9 r=[((r.d.length:Nat):Int) % 256,((r.d.length:Nat):Int) / 256 % 256,((r.d.length:Nat):Int) / 65536 % 256,((r.d.length:Nat):Int) / 16777216 % 256,r.kd,r.ht % 256,r.ht / 256 % 256,r.ht / 65536 % 256,r.ht / 16777216 % 256]:=by
 have hl:=zrp h
 unfold hd9
 rw [zyS (by omega) (by omega),zyS (by omega) (by omega),zCS (by omega) (by omega)]
 rfl
theorem zmj (pre X:List Int) (i:Nat):(pre++X).getD (pre.length+i) 0=X.getD i 0:=by
 simp [List.getD_eq_getElem?_getD,List.getElem?_append_right]
theorem zuC (pre X:List Int) (i:Nat):le4 (pre++X) (pre.length+i)=le4 X i:=by
 unfold le4
 rw [Nat.add_assoc,Nat.add_assoc,Nat.add_assoc,zmj,zmj,zmj,zmj]
theorem zuX (pre X:List Int) (a b:Nat):slc (pre++X) (pre.length+a) (pre.length+b)=slc X a b:=by
 unfold slc
 rw [List.drop_append,show pre.length+b - (pre.length+a)=b - a by omega]
 have e1:List.drop (pre.length+a) pre=[]:=List.drop_of_length_le (by omega)
 rw [e1,List.nil_append,Nat.add_sub_cancel_left]
theorem zwE {r:Rec} (h:r.okB=true) (T:List Int):le4 (yz r++T) 0=((r.d.length:Nat):Int)∧(yz r++T).getD 4 0=r.kd∧le4 (yz r++T) 5=r.ht∧slc (yz r++T) 9 (9+r.d.length)=r.d∧slc (yz r++T) 0 (9+r.d.length)=yz r:=by
 have hl:=zrp h
 have e:yz r++T=[((r.d.length:Nat):Int) % 256,((r.d.length:Nat):Int) / 256 % 256,((r.d.length:Nat):Int) / 65536 % 256,((r.d.length:Nat):Int) / 16777216 % 256,r.kd,r.ht % 256,r.ht / 256 % 256,r.ht / 65536 % 256,r.ht / 16777216 % 256]++(r.d++T):=by
  rw [zyW,zDS h,List.append_assoc]
 refine ⟨?_,?_,?_,?_,?_⟩
 ·rw [e]; unfold le4; simp only [List.cons_append,List.getD_cons_zero,List.getD_cons_succ]; omega
 ·rw [e]; rfl
 ·rw [e]
  unfold le4
  show r.ht % 256+256 * (r.ht / 256 % 256)+65536 * (r.ht / 65536 % 256)+16777216 * (r.ht / 16777216 % 256)=r.ht
  omega
 ·unfold slc
  have e9:List.drop 9 (yz r++T)=r.d++T:=by
   rw [zyW,List.append_assoc]
   have:=List.drop_left' (l₁:=hd9 r) (l₂:=r.d++T) (zCP r)
   exact this
  rw [e9,Nat.add_sub_cancel_left,List.take_append_of_le_length (Nat.le_refl _),List.take_length]
 ·unfold slc
  rw [List.drop_zero,Nat.sub_zero,List.take_append_of_le_length (by rw [zfL]; omega),List.take_of_length_le (by rw [zfL]; omega)]
theorem zxE {pre rest last:List Int} {r:Rec} (h:r.okB=true):nextO (pre++(yz r++(crc last (yz r)++rest))) pre.length last=some (r,pre.length+13+r.d.length,crc last (yz r)):=by
 obtain ⟨v0,v1,v2,v3,v4⟩:=zwE h (crc last (yz r)++rest)
 have hl:=zrp h
 have hc:=zj8 last (yz r)
 have p0:=zuC pre (yz r++(crc last (yz r)++rest)) 0
 have p5:=zuC pre (yz r++(crc last (yz r)++rest)) 5
 have p4:=zmj pre (yz r++(crc last (yz r)++rest)) 4
 rw [Nat.add_zero] at p0
 have ef:zbu (pre++(yz r++(crc last (yz r)++rest))) pre.length=r.d.length:=by
  unfold zbu; rw [p0,v0,Int.toNat_natCast]
 have er:zlO (pre++(yz r++(crc last (yz r)++rest))) pre.length=r:=by
  unfold zlO
  rw [ef,p4,v1,p5,v2,show pre.length+9+r.d.length=pre.length+(9+r.d.length) by omega,zuX,v3]
 have s1:slc (pre++(yz r++(crc last (yz r)++rest))) pre.length (pre.length+9+r.d.length)=yz r:=by
  have:=zuX pre (yz r++(crc last (yz r)++rest)) 0 (9+r.d.length)
  rw [Nat.add_zero] at this
  rw [show pre.length+9+r.d.length=pre.length+(9+r.d.length) by omega,this,v4]
 have s2:slc (pre++(yz r++(crc last (yz r)++rest))) (pre.length+9+r.d.length) (pre.length+13+r.d.length)=crc last (yz r):=by
  rw [show pre.length+9+r.d.length=pre.length+(9+r.d.length) by omega,show pre.length+13+r.d.length=pre.length+(13+r.d.length) by omega,zuX]
  unfold slc
  rw [← zfL r,List.drop_left,zfL,show 13+r.d.length - (9+r.d.length)=4 by omega,← hc,List.take_left]
 unfold nextO
 rw [if_pos ⟨by rw [p0,v0]; omega,by rw [ef]; simp only [List.length_append,zfL,hc]; omega,by rw [er]; exact h,by rw [ef,s1,s2]⟩,ef,er,s1]
theorem zjB {j last:List Int} {a:Nat} (h:j.length < a+13):nextO j a last=none:=by
 unfold nextO
 rw [if_neg (fun q=>by have:=q.2.1; omega)]
theorem ziQ {j last:List Int} {a n:Nat} (acc:List Rec) (h:nextO j a last=none):scanO n j a last acc=(acc,a,last):=by
 cases n with
 | zero=>rfl
 | succ n=>rw [scanO,h]
theorem zt3 {j last f:List Int} {a n e:Nat} {r:Rec} (acc:List Rec) (h:nextO j a last=some (r,e,f)):scanO (n+1) j a last acc=scanO n j e f (acc++[r]):=by rw [scanO,h]
def rS:Rec:=⟨4,0,[]⟩
theorem zB6:rS.okB=true:=by decide
theorem zDK {L:Nat} (hL:20000≤L) (k:Bool→Option β):yc β L k=k true:=by
 obtain ⟨m,rfl⟩:∃ m,L=m+1:=⟨L - 1,by omega⟩
 unfold yc zme
 have e0:scn (m+1) []=([],0,z4):=ziQ _ (zjB (by simp))
 have hb0:Byt rS.d:=Byt.nil
 have er:[(V.sc (.int .i64 (4:Int))),(V.sc (.int .i64 (0:Int))),(V.sl 1 ([]:List (List V)))]=rS.v:=rfl
 have eA:∀ k':List (List V)→Int→Option β,appK (m+1) [] rS k'=k' (zo .u8 (yz rS++crc z4 (yz rS))) 0:=by
  intro k'
  unfold appK
  rw [if_pos zB6,e0]
  exact (if_pos (by decide)).trans rfl
 rw [er,zxj .u8,zkR hL Byt.nil (by simp) hb0,eA]
 have hlen:(yz rS++crc z4 (yz rS)).length=13:=by rw [List.length_append,zfL,zj8]; rfl
 have hby:Byt (yz rS++crc z4 (yz rS)):=(zuU hb0).app (zxQ _ _)
 have e1:scn (m+1) (yz rS++crc z4 (yz rS))=([rS],13,crc z4 (yz rS)):=by
  have:=zxE (pre:=[]) (rest:=[]) (last:=z4) zB6
  rw [List.nil_append,List.append_nil] at this
  unfold scn
  rw [show ([]:List Int).length=0 from rfl] at this
  rw [zt3 [] this]
  exact ziQ _ (zjB (by rw [hlen]; decide))
 have e2:scn (m+1) ((yz rS++crc z4 (yz rS)).take 12)=([],0,z4):=ziQ _ (zjB (by rw [List.length_take,hlen]; decide))
 rw [zj9 hL hby (by omega),e1,yw,hlen]
 have ei:zDt (12:Int) ((13:Nat):Int)=((12:Nat):Int):=by decide
 rw [ei,xr,zj (by decide),Int.toNat_natCast,Nat.sub_zero,List.drop_zero,zfH,zj9 hL (hby.take 12) (by rw [List.length_take]; omega),e2]
 rfl
theorem zwx (L:Nat) (v n:Int) (hn:1≤n) (hn2:n≤1000000000000):∃ r,0≤r∧r < n∧∀ (β:Type) (k:Int→Option β),yd β L v n k=k r:=by
 by_cases h:Int.tmod v n < 0
 ·have h1:=Int.lt_tmod_of_pos v (show 0 < n by omega)
  refine ⟨Int.tmod v n+n,by omega,by omega,fun β k=>?_⟩
  simp only [yd,zlV,xr]
  rw [zj (by omega),xQ h,xF (by omega) (by omega)]
 ·have h1:=Int.tmod_lt_of_pos v (show 0 < n by omega)
  refine ⟨Int.tmod v n,by omega,h1,fun β k=>?_⟩
  simp only [yd,zlV,xr]
  rw [zj (by omega),yP h]
structure Dk where
 l:List Int
 a:Int
 h0:0≤a
 h1:a≤l.length
 hl:l.length≤9223372036854775807
def Dk.es (d:Dk):List (List V):=zo .i64 d.l
theorem zok (L:Nat) (d:Dk) (n:Int) (hn:1≤n) (hn2:n≤1000000000000):∃ (r:Int) (d':Dk),0≤r∧r < n∧∀ (β:Type) (k:Int→List (List V)→Int→Option β),za β L n d.es d.a k=k r d'.es d'.a:=by
 obtain ⟨l,a,h0,h1,hl⟩:=d
 simp only [Dk.es]
 by_cases h:a < l.length
 ·obtain ⟨i,rfl⟩:∃ i:Nat,a=i:=⟨a.toNat,by omega⟩
  have hi:i < l.length:=by omega
  obtain ⟨r,q1,q2,q3⟩:=zwx L l[i] n hn hn2
  refine ⟨r,⟨l,i+1,by omega,by omega,hl⟩,q1,q2,fun β k=>?_⟩
  simp only [za,zfS,xJ,zfX,xr,yw]
  have w1:IntKind.wrap .i64 ((i:Int)+1)=(i:Int)+1:=xF (by omega) (by omega)
  have w2:IntKind.wrap .i64 ((i:Int)+1 - 1)=(i:Int):=by rw [xF (by omega) (by omega)]; omega
  rw [zxS,if_pos (by omega),w1,w2,zbD (zsG _ hi),zj7 (by rfl),q3]
 ·refine ⟨0,⟨l,a,h0,h1,hl⟩,by omega,by omega,fun β k=>?_⟩
  simp only [za,zfS,xJ,zfX,xr,yw]
  rw [zxS,if_neg (by omega)]
theorem zBQ (L:Nat) (d:Dk):∃ (r:Int) (d':Dk),1≤r∧r≤5∧∀ (β:Type) (k:Int→List (List V)→Int→Option β),xj β L 1 5 d.es d.a k=k r d'.es d'.a:=by
 obtain ⟨x,d',h0,h1,q⟩:=zok L d 5 (by decide) (by decide)
 refine ⟨1+x,d',by omega,by omega,fun β k=>?_⟩
 unfold xj zhI
 have w1:IntKind.wrap .i64 ((5:Int) - 1)=4:=by decide
 have w2:IntKind.wrap .i64 ((4:Int)+1)=5:=by decide
 rw [w1,xr,w2,xr,q,xF (by omega) (by omega),xr]
theorem zwz (L:Nat):∀ (n m:Nat) (d:Dk) (l:List Int),m < n→l.length+m≤20→Byt l→∃ (l':List Int) (d':Dk),l'.length≤l.length+m∧Byt l'∧∀ (β:Type) (kx:zjo β) (b30 b31:Int) (b32:List (List V)) (b40 b41:Int),
  zcq xj za L kx n (m:Int) d.es d.a b30 b31 b32 b40 b41 (zo .u8 l)=kx d'.es d'.a b30 b31 b32 b40 b41 (zo .u8 l')
 | 0,m,d,l,h,_,_=>by omega
 | n+1,0,d,l,h,hm,hb=>by
  refine ⟨l,d,by omega,hb,fun β kx b30 b31 b32 b40 b41=>?_⟩
  rw [zcq]
  unfold zeT
  rw [yP (by omega)]
 | n+1,m+1,d,l,h,hm,hb=>by
  obtain ⟨x,d1,_,_,q⟩:=zok L d 256 (by decide) (by decide)
  obtain ⟨l',d',e1,e2,e3⟩:=zwz L n m d1 (l++[IntKind.wrap .u8 x]) (by omega) (by simp; omega) (hb.app (by intro y hy; rw [List.mem_singleton] at hy; subst hy; exact zsW _))
  refine ⟨l',d',by simp at e1; omega,e2,fun β kx b30 b31 b32 b40 b41=>?_⟩
  rw [zcq]
  unfold zeT
  rw [xQ (by omega),q,xr,zDH,yw,yw,zj (zqW (by simp; omega)),ze0,xr,show IntKind.wrap .i64 (((m+1:Nat):Int) - 1)=(m:Int) by rw [xF (by omega) (by omega)]; omega,xr]
  exact e3 β kx b30 b31 b32 b40 b41
structure Rec.Small (r:Rec):Prop where
 ok:r.okB=true
 len:r.d.length≤11
 by8:Byt r.d
theorem zvi {L:Nat} (hL:100≤L) (d:Dk):∃ (r:Rec) (d':Dk),r.Small∧∀ (β:Type) (k:List V→List (List V)→Int→Option β),yb β L d.es d.a k=k r.v d'.es d'.a:=by
 obtain ⟨x1,d1,h1,h2,y1⟩:=zBQ L d
 obtain ⟨x2,d2,h3,h4,y2⟩:=zok L d1 9 (by decide) (by decide)
 obtain ⟨x3,d3,h5,h6,y3⟩:=zok L d2 12 (by decide) (by decide)
 obtain ⟨m,rfl⟩:∃ m:Nat,x3=m:=⟨x3.toNat,by omega⟩
 obtain ⟨l,d4,e1,e2,e3⟩:=zwz L L m d3 [] (by omega) (by simp; omega) Byt.nil
 simp only [List.length_nil,Nat.zero_add] at e1
 refine ⟨⟨x1,x2,l⟩,d4,⟨by unfold Rec.okB; simp only [Bool.and_eq_true,decide_eq_true_eq]; omega,by show l.length≤11; omega,e2⟩,fun β k=>?_⟩
 unfold yb zik zla
 rw [y1,y2,y3]
 refine (e3 β _ _ _ _ _ _).trans ?_
 unfold zfR
 rw [zAC,xr,zyR]
end
section
set_option linter.unusedVariables false
set_option linter.unusedSimpArgs false
set_option maxRecDepth 100000
variable {β:Type}
theorem zDP (L:Nat) (es:List (List V)) (k:List (List V)→Int→Option β):zd β L es k=k es 0:=by
 unfold zd zoS; exact Eq.trans rfl rfl
theorem zCi (x:Int):xh 1 1 [V.sc (.int .i64 x)]=zo .i64 [x]:=rfl
def z9:List V:=[(V.sc (.int .i64 (0:Int))),(V.sc (.int .i64 (0:Int))),(V.sl 1 ([]:List (List V))),(V.sc (.int .i64 (0:Int))),(V.sc (.int .i64 (0:Int))),(V.sl 1 ([]:List (List V))),(V.sc (.int .i64 (0:Int))),(V.sc (.int .i64 (0:Int))),(V.sl 1 ([]:List (List V)))]
theorem zDr {l:List Int} (hl:l.length≤maxLen):∃ d:Dk,d.es=zo .i64 l∧d.a=0:=⟨⟨l,0,by omega,by omega,by unfold maxLen at hl; omega⟩,rfl,rfl⟩
end
section
set_option linter.unusedVariables false
set_option linter.unusedSimpArgs false
set_option maxRecDepth 100000
variable {β:Type}
def fr1 (last:List Int) (r:Rec):List Int:=yz r++crc last (yz r)
theorem zrm (last:List Int) (r:Rec):(fr1 last r).length=13+r.d.length:=by rw [fr1,List.length_append,zfL,zj8]; omega
def yB:List Int→List Rec→List Int
 | _,[]=>[]
 | last,r::rs=>fr1 last r++yB (crc last (yz r)) rs
def zej:List Int→List Rec→List Int
 | last,[]=>last
 | last,r::rs=>zej (crc last (yz r)) rs
theorem zpe:∀ (rs ts:List Rec) (last:List Int),yB last (rs++ts)=yB last rs++yB (zej last rs) ts
 | [],ts,last=>rfl
 | r::rs,ts,last=>by
  show fr1 last r++yB (crc last (yz r)) (rs++ts)=(fr1 last r++yB (crc last (yz r)) rs)++yB (zej (crc last (yz r)) rs) ts
  rw [zpe rs ts,List.append_assoc]
theorem zwO (last:List Int) (r:Rec):yB last [r]=fr1 last r:=by show fr1 last r++[]=_; rw [List.append_nil]
def AllOk (rs:List Rec):Prop:=∀ r ∈ rs,r.Small
theorem AllOk.tail {r:Rec} {rs:List Rec} (h:AllOk (r::rs)):AllOk rs:=fun x hx=>h x (List.mem_cons_of_mem _ hx)
theorem AllOk.take {rs:List Rec} (h:AllOk rs) (n:Nat):AllOk (rs.take n):=fun x hx=>h x (List.mem_of_mem_take hx)
theorem AllOk.app {rs ts:List Rec} (h:AllOk rs) (g:AllOk ts):AllOk (rs++ts):=fun x hx=>(List.mem_append.1 hx).elim (h x) (g x)
theorem zl2:∀ {rs:List Rec} (last:List Int),AllOk rs→Byt (yB last rs)
 | [],last,h=>Byt.nil
 | r::rs,last,h=>((zuU (h r (by simp)).by8).app (zxQ _ _)).app (zl2 _ h.tail)
theorem zis:∀ {rs:List Rec} (last:List Int),AllOk rs→(yB last rs).length≤24 * rs.length∧13 * rs.length≤(yB last rs).length
 | [],last,h=>by simp [yB]
 | r::rs,last,h=>by
  have ih:=zis (crc last (yz r)) h.tail
  have:=(h r (by simp)).len
  show (fr1 last r++_).length≤_∧_≤(fr1 last r++_).length
  rw [List.length_append,zrm,List.length_cons]; omega
theorem zvD:∀ (rs:List Rec) (n:Nat) (pre T last:List Int) (acc:List Rec),AllOk rs→scanO (n+rs.length) (pre++(yB last rs++T)) pre.length last acc=scanO n (pre++(yB last rs++T)) (pre.length+(yB last rs).length) (zej last rs) (acc++rs)
 | [],n,pre,T,last,acc,h=>by simp [yB,zej]
 | r::rs,n,pre,T,last,acc,h=>by
  have hr:=h r (by simp)
  have e:pre++(yB last (r::rs)++T)=pre++(yz r++(crc last (yz r)++(yB (crc last (yz r)) rs++T))):=by
   show pre++((fr1 last r++yB (crc last (yz r)) rs)++T)=_
   rw [fr1]; simp only [List.append_assoc]
  have e2:pre++(yB last (r::rs)++T)=(pre++fr1 last r)++(yB (crc last (yz r)) rs++T):=by
   show pre++((fr1 last r++yB (crc last (yz r)) rs)++T)=_
   simp only [List.append_assoc]
  have hn:=zxE (pre:=pre) (rest:=yB (crc last (yz r)) rs++T) (last:=last) hr.ok
  rw [← e] at hn
  rw [show n+(r::rs).length=(n+rs.length)+1 from rfl,zt3 acc hn]
  have ih:=zvD rs n (pre++fr1 last r) T (crc last (yz r)) (acc++[r]) h.tail
  rw [← e2] at ih
  have hp:(pre++fr1 last r).length=pre.length+13+r.d.length:=by rw [List.length_append,zrm]; omega
  rw [hp] at ih
  rw [ih]
  have hl:(yB last (r::rs)).length=13+r.d.length+(yB (crc last (yz r)) rs).length:=by
   show (fr1 last r++_).length=_
   rw [List.length_append,zrm]
  rw [hl,List.append_assoc,show pre.length+13+r.d.length+(yB (crc last (yz r)) rs).length=pre.length+(13+r.d.length+(yB (crc last (yz r)) rs).length) by omega]
  rfl
theorem zsu {L:Nat} (hL:20000≤L) {rs:List Rec} (h:AllOk rs) (hl:rs.length≤100) (T:List Int):∃ n,scn L (yB z4 rs++T)=scanO n (yB z4 rs++T) (yB z4 rs).length (zej z4 rs) rs:=by
 obtain ⟨n,rfl⟩:∃ n,L=n+rs.length:=⟨L - rs.length,by omega⟩
 refine ⟨n,?_⟩
 have:=zvD rs n [] T z4 [] h
 simp only [List.nil_append,List.length_nil,Nat.zero_add] at this
 exact this
theorem zAm {L:Nat} (hL:20000≤L) {rs:List Rec} (h:AllOk rs) (hl:rs.length≤100):scn L (yB z4 rs)=(rs,(yB z4 rs).length,zej z4 rs):=by
 obtain ⟨n,e⟩:=zsu hL h hl []
 rw [List.append_nil] at e
 rw [e]
 exact ziQ _ (zjB (by omega))
theorem zBM {pre rest last:List Int} {r:Rec} (h:r.okB=true) {m:Nat} (hm:m < 13+r.d.length):nextO (pre++(yz r++(crc last (yz r)++rest)).take m) pre.length last=none:=by
 unfold nextO
 rw [if_neg]
 intro hF
 have h2:=hF.2.1
 have hlen:(pre++(yz r++(crc last (yz r)++rest)).take m).length≤pre.length+m:=by rw [List.length_append,List.length_take]; omega
 obtain ⟨v0,_⟩:=zwE h (crc last (yz r)++rest)
 have hm4:13≤m:=by omega
 have p0:=zuC pre ((yz r++(crc last (yz r)++rest)).take m) 0
 rw [Nat.add_zero] at p0
 have et:le4 ((yz r++(crc last (yz r)++rest)).take m) 0=le4 (yz r++(crc last (yz r)++rest)) 0:=by
  unfold le4
  have g:∀ i,i < 13→((yz r++(crc last (yz r)++rest)).take m).getD i 0=(yz r++(crc last (yz r)++rest)).getD i 0:=by
   intro i hi
   rw [List.getD_eq_getElem?_getD,List.getD_eq_getElem?_getD,List.getElem?_take,if_pos (by omega)]
  rw [g 0 (by omega),g (0+1) (by omega),g (0+2) (by omega),g (0+3) (by omega)]
 have ef:zbu (pre++(yz r++(crc last (yz r)++rest)).take m) pre.length=r.d.length:=by
  unfold zbu; rw [p0,et,v0,Int.toNat_natCast]
 rw [ef] at h2
 omega
theorem zyT {L:Nat} (hL:20000≤L) {rs:List Rec} (h:AllOk rs) (hl:rs.length≤100) {n w:Nat} (hw:w≤rs.length) (h1:(yB z4 (rs.take w)).length≤n) (h2:n≤(yB z4 rs).length) (h3:w < rs.length→n < (yB z4 (rs.take (w+1))).length) :
  scn L ((yB z4 rs).take n)=(rs.take w,(yB z4 (rs.take w)).length,zej z4 (rs.take w))∧((yB z4 rs).take n).take (yB z4 (rs.take w)).length=yB z4 (rs.take w):=by
 have hA:=h.take w
 have hlw:(rs.take w).length≤100:=by rw [List.length_take]; omega
 have e0:yB z4 rs=yB z4 (rs.take w)++yB (zej z4 (rs.take w)) (rs.drop w):=by rw [← zpe,List.take_append_drop]
 have e1:(yB z4 rs).take n=yB z4 (rs.take w)++(yB (zej z4 (rs.take w)) (rs.drop w)).take (n - (yB z4 (rs.take w)).length):=by
  rw [e0,List.take_append,List.take_of_length_le h1]
 refine ⟨?_,by rw [e1,List.take_left]⟩
 rw [e1]
 obtain ⟨m,e⟩:=zsu hL hA hlw ((yB (zej z4 (rs.take w)) (rs.drop w)).take (n - (yB z4 (rs.take w)).length))
 rw [e]
 refine ziQ _ ?_
 by_cases hlt:w < rs.length
 ·have h3:=h3 hlt
  have et:rs.take (w+1)=rs.take w++[rs[w]]:=List.take_succ_eq_append_getElem hlt
  rw [et,zpe,zwO,List.length_append,zrm] at h3
  have ed:yB (zej z4 (rs.take w)) (rs.drop w)=yz rs[w]++(crc (zej z4 (rs.take w)) (yz rs[w])++yB (crc (zej z4 (rs.take w)) (yz rs[w])) (rs.drop (w+1))):=by
   rw [List.drop_eq_getElem_cons hlt]
   show fr1 _ _++_=_
   rw [fr1,List.append_assoc]
  rw [ed]
  exact zBM (h rs[w] (List.getElem_mem hlt)).ok (by omega)
 ·have ew:rs.drop w=[]:=List.drop_of_length_le (by omega)
  rw [ew]
  exact zjB (by simp [yB])
theorem zvF:∀ (n:Nat) (j:List Int) (a:Nat) (last:List Int) (acc:List Rec),∃ more,(scanO n j a last acc).1=acc++more
 | 0,j,a,last,acc=>⟨[],by simp [scanO]⟩
 | n+1,j,a,last,acc=>by
  rw [scanO]
  cases nextO j a last with
  | none=>exact ⟨[],by simp⟩
  | some x =>
   obtain ⟨r,e,f⟩:=x
   obtain ⟨more,h⟩:=zvF n j e f (acc++[r])
   exact ⟨r::more,by show (scanO n j e f (acc++[r])).1=_; rw [h]; simp⟩
theorem zxD {L:Nat} (hL:20000≤L) {rs:List Rec} (h:AllOk rs) (hl:rs.length≤100) (T:List Int):∃ more,(scn L (yB z4 rs++T)).1=rs++more:=by
 obtain ⟨n,e⟩:=zsu hL h hl T
 rw [e]
 exact zvF n _ _ _ rs
theorem zpi {L:Nat} (hL:20000≤L) {rs:List Rec} (h:AllOk rs) (hl:rs.length≤99) {r:Rec} (hr:r.Small) (k:List (List V)→Int→Option β):appK L (yB z4 rs) r k=k (zo .u8 (yB z4 (rs++[r]))) 0:=by
 have hlen:=zis z4 h
 have h11:=hr.len
 unfold appK
 rw [if_pos hr.ok,zAm hL h (by omega)]
 show (if (yB z4 rs).length+13+r.d.length≤1048576 then _ else _)=_
 rw [if_pos (by omega)]
 show k (zo .u8 ((yB z4 rs).take (yB z4 rs).length++yz r++crc (zej z4 rs) (yz r))) 0=_
 rw [List.take_length,zpe,zwO,fr1,List.append_assoc]
theorem zkQ {l:List Rec} {i:Nat} (h:i < l.length):(zaM l)[i]?=some l[i].v:=by simp [zaM,h]
theorem zCg (r:Rec) (k:Int→Option β):cI .i64 (List.drop 1 r.v) 0 k=k r.ht:=zj7 rfl k
theorem zAQ (r:Rec) (k:List (List V)→Option β):cL 1 (List.drop 2 r.v) 0 k=k (zo .u8 r.d):=zrt rfl k
theorem zsi (L:Nat) (l:List Rec) (hl:l.length≤100000) (kr:Bool→Option β) (kx:Option β):∀ (n i:Nat),i≤l.length→l.length - i < n →
  zdT xa L kr kx n (zaM l) (zaM l) (i:Int)=kx
 | 0,i,h1,h2=>by omega
 | n+1,i,h1,h2=>by
  rw [zdT]
  unfold zhL
  by_cases hi:i < l.length
  ·rw [zcI,xQ (by omega),zbD (zkQ hi),zuo,zbD (zkQ hi),zuo,zcr,if_pos rfl,zbD (zkQ hi),zCg,zbD (zkQ hi),zCg,zcr,if_pos rfl,zbD (zkQ hi),zAQ,zbD (zkQ hi),zAQ,zre,Bool.not_true,zd8,zao (by omega),xr]
   exact zsi L l hl kr kx n (i+1) (by omega) (by omega)
  ·rw [zcI,yP (by omega)]
theorem ztg {L:Nat} {l:List Rec} (hl:l.length≤1000) (hL:20000≤L) (k:Bool→Option β):xc β L (zaM l) (zaM l) k=k true:=by
 unfold xc zjf zmA
 rw [zcr,if_pos rfl]
 refine (zsi L l (by omega) _ _ L 0 (by omega) (by omega)).trans ?_
 rfl
end
section
set_option linter.unusedVariables false
set_option linter.unusedSimpArgs false
set_option maxRecDepth 100000
variable {β:Type}
def zgx (rs:List Rec) (w:Nat):Nat:=(yB z4 (rs.take w)).length
def zgB (rs:List Rec):List Int:=(List.range rs.length).map fun i=>((zgx rs (i+1):Nat):Int)
theorem zfI (rs:List Rec):(zgB rs).length=rs.length:=by simp [zgB]
theorem zpv {rs:List Rec} {i:Nat} (h:i < rs.length):(zo .i64 (zgB rs))[i]?=some [V.sc (.int .i64 ((zgx rs (i+1):Nat):Int))]:=by
 rw [zsG _ (by rw [zfI]; exact h)]
 simp [zgB]
theorem zvo (rs:List Rec) (r:Rec):zgB (rs++[r])=zgB rs++[(((yB z4 (rs++[r])).length:Nat):Int)]:=by
 unfold zgB
 rw [List.length_append,List.length_singleton,List.range_succ,List.map_append]
 congr 1
 ·apply List.map_congr_left
  intro i hi
  rw [List.mem_range] at hi
  unfold zgx
  rw [List.take_append_of_le_length (by omega)]
 ·simp only [List.map_cons,List.map_nil]
  unfold zgx
  rw [List.take_of_length_le (by simp)]
theorem zwt (n:Int) (k:Int→Option β):cI .i64 [V.sc (.int .i64 n)] 0 k=k n:=zj7 rfl k
theorem znr (l:List Rec) (n:Nat):(zaM l).take n=zaM (l.take n):=by simp [zaM,List.map_take]
theorem zvI (l:List Rec) (n:Nat):(zaM l).drop n=zaM (l.drop n):=by simp [zaM,List.map_drop]
theorem cnt {L:Nat} (rs:List Rec) (hl:rs.length≤100) (c:Nat) (kx:zeh β) (p2 p8 p9:List (List V)) (b0:List (List V)) (b1:Int):∀ (n w:Nat),w≤rs.length→rs.length - w < n→zgx rs w≤c→∃ w',w'≤rs.length∧zgx rs w'≤c∧(w' < rs.length→c < zgx rs (w'+1)) ∧
  xL yc zd za yb ya yd xb xc zc zb xa L kx n p2 p8 p9 (zo .i64 (zgB rs)) (c:Int) (w:Int) b0 b1=kx p2 p8 p9 (c:Int) (w':Int) b0 b1
 | 0,w,h1,h2,h3=>by omega
 | n+1,w,h1,h2,h3=>by
  by_cases h:w < rs.length
  ·by_cases g:zgx rs (w+1)≤c
   ·obtain ⟨w',q1,q2,q3,q4⟩:=cnt (L:=L) rs hl c kx p2 p8 p9 b0 b1 n (w+1) (by omega) (by omega) g
    refine ⟨w',q1,q2,q3,?_⟩
    rw [xL]
    unfold y9
    rw [yw,zfI,xQ (by omega),zbD (zpv h),zwt,xQ (by omega),zao (by omega),xr]
    exact q4
   ·refine ⟨w,h1,h3,fun _=>by omega,?_⟩
    rw [xL]
    unfold y9
    rw [yw,zfI,xQ (by omega),zbD (zpv h),zwt,yP (by omega)]
  ·refine ⟨w,h1,h3,fun q=>absurd q h,?_⟩
   rw [xL]
   unfold y9
   rw [yw,zfI,yP (by omega)]
theorem zCf {L:Nat} (hL:20000≤L) (p8:List (List V)) (done ts:List Rec) (hd:AllOk done) (ht:AllOk ts) (hl:done.length+ts.length≤50) (kr:Bool→List (List V)→Int→Option β) (kx:zem β) (b0:List (List V)) (b1:Int):∀ (n i:Nat),i≤ts.length→ts.length - i < n →
  zP yc zd za yb ya yd xb xc zc zb xa L kr kx n p8 (zo .u8 (yB z4 (done++ts.take i))) (zaM ts) (ts.length:Int) (i:Int) b0 b1=kx p8 (zo .u8 (yB z4 (done++ts))) b0 b1
 | 0,i,h1,h2=>by omega
 | n+1,i,h1,h2=>by
  rw [zP]
  unfold za5
  by_cases h:i < ts.length
  ·have hr:=ht ts[i] (List.getElem_mem h)
   have hA:AllOk (done++ts.take i):=hd.app (ht.take i)
   have hlA:(done++ts.take i).length≤50:=by rw [List.length_append,List.length_take]; omega
   have hb:=zl2 z4 hA
   have hlen:=zis z4 hA
   rw [xQ (by omega),zbD (zkQ h),zka,zgg,zmH,xr,zgd,zof,zkR hL hb (by omega) hr.by8,zpi hL hA (by omega) hr,zcr,if_pos rfl,zao (by omega),xr,List.append_assoc,← List.take_succ_eq_append_getElem h]
   exact zCf hL p8 done ts hd ht hl kr kx b0 b1 n (i+1) (by omega) (by omega)
  ·rw [yP (by omega),List.take_of_length_le (by omega)]
theorem zoX {L:Nat} (hL:20000≤L) (p1:Int) (tl:List Int) (htl:Byt tl) (htn:tl.length≤100) (rs:List Rec) (h:AllOk rs) (hl:rs.length≤20) (b0:List (List V)) (b1:Int) (k:Bool→Option β) :
  yZ yc zd za yb ya yd xb xc zc zb xa L p1 (zo .u8 tl) (zo .u8 (yB z4 rs)) (zaM rs) (zo .i64 (zgB rs)) b0 b1 k=k true:=by
 have hb:=zl2 z4 h
 have hlen:=zis z4 h
 obtain ⟨x,x0,x1,hx⟩:=zwx L p1 (((yB z4 rs).length+1:Nat):Int) (by omega) (by omega)
 obtain ⟨c,rfl⟩:∃ c:Nat,x=c:=⟨x.toNat,by omega⟩
 unfold yZ zbZ
 have w1:IntKind.wrap .i64 ((((yB z4 rs).length:Nat):Int)+1)=(((yB z4 rs).length+1:Nat):Int):=zao (by omega)
 rw [yw,w1,xr,hx]
 obtain ⟨w,q1,q2,q3,q4⟩:=cnt (β:=β) (L:=L) rs (by omega) c (fun p2 p8 p9 p15 p16 zEH zEI=>zU yc zd za yb ya yd xb xc zc zb xa L p2 p8 p9 p15 p16 zEH zEI k) (zo .u8 tl) (zo .u8 (yB z4 rs)) (zaM rs) b0 b1 L 0 (by omega) (by omega) (by simp [zgx,yB])
 refine q4.trans ?_
 unfold zU zbH
 obtain ⟨s1,s2⟩:=zyT hL h (by omega) (n:=c) q1 q2 (by omega) q3
 have hbc:=hb.take c
 have hlc:((yB z4 rs).take c).length≤10000:=by rw [List.length_take]; omega
 have hwl:(rs.take w).length=w:=by rw [List.length_take]; omega
 rw [zj ⟨by omega,by rw [yw]; omega⟩,Int.toNat_natCast,Nat.sub_zero,List.drop_zero,zfH,zj9 hL hbc hlc,s1,zj ⟨by omega,by rw [zcI]; omega⟩,Int.toNat_natCast,Nat.sub_zero,List.drop_zero,znr,ztg (by show (rs.take w).length≤1000; omega) hL,Bool.not_true,zd8]
 obtain ⟨more,hm⟩:=zxD hL h (by omega) tl
 have hbt:Byt (yB z4 rs++tl):=hb.app htl
 rw [zzq,zyB (by omega) _ (by simp) (by rw [zBd]; omega),zzv,zj9 hL hbt (by rw [List.length_append]; omega),hm,zcI,zcI,yP (by rw [List.length_append]; omega),zj ⟨by omega,by rw [List.length_append]; omega⟩,Int.toNat_natCast,Nat.sub_zero,List.drop_zero,znr,List.take_left,ztg (by omega) hL,Bool.not_true,zd8,zj ⟨by omega,by rw [yw]; omega⟩,zvp hL hbc hlc,s1,s2,zj ⟨by omega,by omega⟩]
 have ed:List.take (rs.length - w) (List.drop w (zaM rs))=zaM (rs.drop w):=by rw [zvI,List.take_of_length_le (by rw [zcI,List.length_drop]; omega)]
 rw [ed,zcI]
 have hd:AllOk (rs.drop w):=fun x hx=>h x (List.mem_of_mem_drop hx)
 have ag:=zCf (β:=β) hL (zo .u8 (yB z4 rs)) (rs.take w) (rs.drop w) (h.take w) hd (by rw [hwl,List.length_drop]; omega)
 have fin:=ag (fun p6 zEH zEI=>zaH yc zd za yb ya yd xb xc zc zb xa L p6 zEH zEI k) (fun p8 p21 zEH zEI=>yY yc zd za yb ya yd xb xc zc zb xa L p8 p21 zEH zEI k) b0 b1 L 0 (by omega) (by rw [List.length_drop]; omega)
 rw [List.take_zero,List.append_nil] at fin
 refine fin.trans ?_
 unfold yY
 rw [List.take_append_drop,zre]
theorem zB8 {L:Nat} (rs:List Rec) (hl:rs.length≤100) (c:Nat) (kx:zdQ β) (p2 p8 p9:List (List V)) (b0:List (List V)) (b1:Int):∀ (n w:Nat),w≤rs.length→rs.length - w < n→zgx rs w≤c→∃ w',w'≤rs.length∧zgx rs w'≤c∧(w' < rs.length→c < zgx rs (w'+1)) ∧
  yJ yc zd za yb ya yd xb xc zc zb xa L kx n p2 p8 p9 (zo .i64 (zgB rs)) (c:Int) (w:Int) b0 b1=kx p2 p8 p9 (c:Int) (w':Int) b0 b1
 | 0,w,h1,h2,h3=>by omega
 | n+1,w,h1,h2,h3=>by
  by_cases h:w < rs.length
  ·by_cases g:zgx rs (w+1)≤c
   ·obtain ⟨w',q1,q2,q3,q4⟩:=zB8 (L:=L) rs hl c kx p2 p8 p9 b0 b1 n (w+1) (by omega) (by omega) g
    refine ⟨w',q1,q2,q3,?_⟩
    rw [yJ]
    unfold yX
    rw [yw,zfI,xQ (by omega),zbD (zpv h),zwt,xQ (by omega),zao (by omega),xr]
    exact q4
   ·refine ⟨w,h1,h3,fun _=>by omega,?_⟩
    rw [yJ]
    unfold yX
    rw [yw,zfI,xQ (by omega),zbD (zpv h),zwt,yP (by omega)]
  ·refine ⟨w,h1,h3,fun q=>absurd q h,?_⟩
   rw [yJ]
   unfold yX
   rw [yw,zfI,yP (by omega)]
theorem zyy {L:Nat} (hL:20000≤L) (p8:List (List V)) (done ts:List Rec) (hd:AllOk done) (ht:AllOk ts) (hl:done.length+ts.length≤50) (kr:Bool→List (List V)→Int→Option β) (kx:zdH β) (b0:List (List V)) (b1:Int):∀ (n i:Nat),i≤ts.length→ts.length - i < n →
  yN yc zd za yb ya yd xb xc zc zb xa L kr kx n p8 (zo .u8 (yB z4 (done++ts.take i))) (zaM ts) (ts.length:Int) (i:Int) b0 b1=kx p8 (zo .u8 (yB z4 (done++ts))) b0 b1
 | 0,i,h1,h2=>by omega
 | n+1,i,h1,h2=>by
  rw [yN]
  unfold zaJ
  by_cases h:i < ts.length
  ·have hr:=ht ts[i] (List.getElem_mem h)
   have hA:AllOk (done++ts.take i):=hd.app (ht.take i)
   have hlA:(done++ts.take i).length≤50:=by rw [List.length_append,List.length_take]; omega
   have hb:=zl2 z4 hA
   have hlen:=zis z4 hA
   rw [xQ (by omega),zbD (zkQ h),zka,zgg,zmH,xr,zgd,zof,zkR hL hb (by omega) hr.by8,zpi hL hA (by omega) hr,zcr,if_pos rfl,zao (by omega),xr,List.append_assoc,← List.take_succ_eq_append_getElem h]
   exact zyy hL p8 done ts hd ht hl kr kx b0 b1 n (i+1) (by omega) (by omega)
  ·rw [yP (by omega),List.take_of_length_le (by omega)]
theorem zDp {L:Nat} (hL:20000≤L) (p1:Int) (tl:List Int) (htl:Byt tl) (htn:tl.length≤100) (rs:List Rec) (h:AllOk rs) (hl:rs.length≤20) (b0:List (List V)) (b1:Int) (k:Bool→Option β) :
  zL yc zd za yb ya yd xb xc zc zb xa L p1 (zo .u8 tl) (zo .u8 (yB z4 rs)) (zaM rs) (zo .i64 (zgB rs)) b0 b1 k=k true:=by
 have hb:=zl2 z4 h
 have hlen:=zis z4 h
 obtain ⟨x,x0,x1,hx⟩:=zwx L p1 (((yB z4 rs).length+1:Nat):Int) (by omega) (by omega)
 obtain ⟨c,rfl⟩:∃ c:Nat,x=c:=⟨x.toNat,by omega⟩
 unfold zL zbr
 have w1:IntKind.wrap .i64 ((((yB z4 rs).length:Nat):Int)+1)=(((yB z4 rs).length+1:Nat):Int):=zao (by omega)
 rw [yw,w1,xr,hx]
 obtain ⟨w,q1,q2,q3,q4⟩:=zB8 (β:=β) (L:=L) rs (by omega) c (fun p2 p8 p9 p15 p16 zEH zEI=>xO yc zd za yb ya yd xb xc zc zb xa L p2 p8 p9 p15 p16 zEH zEI k) (zo .u8 tl) (zo .u8 (yB z4 rs)) (zaM rs) b0 b1 L 0 (by omega) (by omega) (by simp [zgx,yB])
 refine q4.trans ?_
 unfold xO zbc
 obtain ⟨s1,s2⟩:=zyT hL h (by omega) (n:=c) q1 q2 (by omega) q3
 have hbc:=hb.take c
 have hlc:((yB z4 rs).take c).length≤10000:=by rw [List.length_take]; omega
 have hwl:(rs.take w).length=w:=by rw [List.length_take]; omega
 rw [zj ⟨by omega,by rw [yw]; omega⟩,Int.toNat_natCast,Nat.sub_zero,List.drop_zero,zfH,zj9 hL hbc hlc,s1,zj ⟨by omega,by rw [zcI]; omega⟩,Int.toNat_natCast,Nat.sub_zero,List.drop_zero,znr,ztg (by show (rs.take w).length≤1000; omega) hL,Bool.not_true,zd8]
 obtain ⟨more,hm⟩:=zxD hL h (by omega) tl
 have hbt:Byt (yB z4 rs++tl):=hb.app htl
 rw [zzq,zyB (by omega) _ (by simp) (by rw [zBd]; omega),zzv,zj9 hL hbt (by rw [List.length_append]; omega),hm,zcI,zcI,yP (by rw [List.length_append]; omega),zj ⟨by omega,by rw [List.length_append]; omega⟩,Int.toNat_natCast,Nat.sub_zero,List.drop_zero,znr,List.take_left,ztg (by omega) hL,Bool.not_true,zd8,zj ⟨by omega,by rw [yw]; omega⟩,zvp hL hbc hlc,s1,s2,zj ⟨by omega,by omega⟩]
 have ed:List.take (rs.length - w) (List.drop w (zaM rs))=zaM (rs.drop w):=by rw [zvI,List.take_of_length_le (by rw [zcI,List.length_drop]; omega)]
 rw [ed,zcI]
 have hd:AllOk (rs.drop w):=fun x hx=>h x (List.mem_of_mem_drop hx)
 have ag:=zyy (β:=β) hL (zo .u8 (yB z4 rs)) (rs.take w) (rs.drop w) (h.take w) hd (by rw [hwl,List.length_drop]; omega)
 have fin:=ag (fun p6 zEH zEI=>zav yc zd za yb ya yd xb xc zc zb xa L p6 zEH zEI k) (fun p8 p21 zEH zEI=>xR yc zd za yb ya yd xb xc zc zb xa L p8 p21 zEH zEI k) b0 b1 L 0 (by omega) (by rw [List.length_drop]; omega)
 rw [List.take_zero,List.append_nil] at fin
 refine fin.trans ?_
 unfold xR
 rw [List.take_append_drop,zre]
theorem zw5 {r:Rec} (h:r.Small):AllOk [r]:=by intro x hx; rw [List.mem_singleton] at hx; subst hx; exact h
theorem zyL {L:Nat} (hL:20000≤L) (p1:Int) (p2:List (List V)) (kr:Bool→List (List V)→Int→Option β):∀ (n m:Nat) (d:Dk) (rs:List Rec),m < n→AllOk rs→rs.length+m≤20→∃ (rs':List Rec) (d':Dk),AllOk rs'∧rs'.length≤20∧∀ (kx:zbf β),
  zM yc zd za yb ya yd xb xc zc zb xa L kr kx n p1 p2 (zo .u8 (yB z4 rs)) (zaM rs) (zo .i64 (zgB rs)) (m:Int) d.es d.a=kx p1 p2 (zo .u8 (yB z4 rs')) (zaM rs') (zo .i64 (zgB rs')) d'.es d'.a
 | 0,m,d,rs,h,_,_=>by omega
 | n+1,0,d,rs,h,hA,hl=>by
  refine ⟨rs,d,hA,by omega,fun kx=>?_⟩
  rw [zM]
  unfold zaK
  rw [yP (by omega)]
 | n+1,m+1,d,rs,h,hA,hl=>by
  obtain ⟨r,d1,hs,q1⟩:=zvi (L:=L) (by omega) d
  have hb:=zl2 z4 hA
  have hlen:=zis z4 hA
  obtain ⟨rs',d',e1,e2,e3⟩:=zyL hL p1 p2 kr n m d1 (rs++[r]) (by omega) (hA.app (zw5 hs)) (by simp; omega)
  refine ⟨rs',d',e1,e2,fun kx=>?_⟩
  rw [zM]
  unfold zaK
  rw [xQ (by omega),q1,zgg,zmH,xr,zgd,zof,zkR hL hb (by omega) hs.by8,zpi hL hA (by omega) hs,zcr,if_pos rfl,zgd,zka,zgg,zuN,zuR,zj (by rw [zcI]; unfold yj; simp; omega),zwD,xr,show (zo .u8 (yB z4 (rs++[r]))).length=(yB z4 (rs++[r])).length from yw _ _,zCi,zj (by rw [yw,yw,zfI]; unfold yj; simp; omega),ze0,← zvo,xr,show IntKind.wrap .i64 (((m+1:Nat):Int) - 1)=(m:Int) by rw [xF (by omega) (by omega)]; omega,xr]
  exact e3 kx
theorem lb0 (L n:Nat) (kr:Bool→List (List V)→Int→Option β) (kx:zei β) (kv:zbf β) (p1:Int) (p2 p8 p9 p10:List (List V)) (p11:Int) (b0:List (List V)) (b1:Int) :
  za9 yc zd za yb ya yd xb xc zc zb xa L kr kx kv (n+1) p1 p2 p8 p9 p10 p11 b0 b1=za7 yc zd za yb ya yd xb xc zc zb xa L p1 p2 p8 p9 p10 p11 b0 b1 kr (fun p1 p2 p8 p9 p10 p11 zEH zEI=>zM yc zd za yb ya yd xb xc zc zb xa L kr kv n p1 p2 p8 p9 p10 p11 zEH zEI) kx:=by rw [za9]
theorem zpt (a0:List (List V)) (a1:Int) (a2:List (List V)) (hl0:a0.length≤maxLen) (wf0:∀ e ∈ a0,HasRow [.int .i64] e) (wf1:(Lit.int .i64 a1).wf=true) (hl2:a2.length≤maxLen) (wf2:∀ e ∈ a2,HasRow [.int .u8] e) :
  ∃ L,∀ k:Bool→Option Bool,zaf Bool L a0 a1 a2 k=k true:=by
 obtain ⟨l,rfl,_⟩:=zuS wf0
 obtain ⟨tl,rfl,hw⟩:=zuS wf2
 rw [yw] at hl0
 obtain ⟨d,ed,hd⟩:=zDr hl0
 obtain ⟨L,hL⟩:∃ L:Nat,20000≤L:=⟨20000,Nat.le_refl _⟩
 refine ⟨L+1,fun k=>?_⟩
 have hL1:20000≤L+1:=by omega
 unfold zaf zdh ze4
 rw [zDK hL1,Bool.not_true,zd8,yw]
 rcases Classical.em (¬ (tl.length≤100)) with g1 | g1'
 ·rw [xQ (by omega)]
 have g1:tl.length≤100:=Classical.not_not.1 g1'
 have hbt:=zDv hw
 obtain ⟨x,d1,x0,x1,y1⟩:=zok (L+1) d 6 (by decide) (by decide)
 obtain ⟨m,rfl⟩:∃ m:Nat,x=m:=⟨x.toNat,by omega⟩
 have y:=y1 Bool
 rw [hd] at y
 rw [yP (by omega),zDP,← ed,y]
 refine Eq.trans (lb0 (L+1) L _ _ _ _ _ _ _ _ _ _ _) ?_
 unfold za7
 cases m with
 | zero =>
  rw [yP (by omega)]
  exact zoX hL1 a1 tl hbt g1 [] (by intro x hx; cases hx) (by simp) d1.es d1.a k
 | succ m =>
  obtain ⟨r,d2,hs,q1⟩:=zvi (L:=L+1) (by omega) d1
  obtain ⟨rs',d',e1,e2,e3⟩:=zyL (β:=Bool) hL1 a1 (zo .u8 tl) (fun p6 zEH zEI=>zgK yc zd za yb ya yd xb xc zc zb xa (L+1) p6 zEH zEI k) L m d2 [r] (by omega) (zw5 hs) (by simp; omega)
  have hb0:zo .u8 ([]:List Int)=zo .u8 (yB z4 ([]:List Rec)):=rfl
  have ee:zgB [r]=[(((yB z4 [r]).length:Nat):Int)]:=zvo [] r
  have eA:∀ k':List (List V)→Int→Option Bool,appK (L+1) [] r k'=k' (zo .u8 (yB z4 [r])) 0:=fun k'=>zpi (β:=Bool) hL1 (rs:=[]) (by intro x hx; cases hx) (by simp) hs k'
  have ap:∀ k':List (List V)→Int→Option Bool,ya Bool (L+1) ([]:List (List V)) r.v k'=appK (L+1) [] r k':=fun k'=>zkR (j:=[]) hL1 Byt.nil (by simp) hs.by8 k'
  rw [xQ (by omega),q1,zgg,zmH,xr,zgd,zof,ap]
  refine (eA _).trans ?_
  rw [zcr,if_pos rfl,zgd,zka,zgg,zuN,zuR,zj (by simp [yj,zo]),xr,show (zo .u8 (yB z4 [r])).length=(yB z4 [r]).length from yw _ _,zCi,zj (by simp [yj,zo]),xr,show IntKind.wrap .i64 (((m+1:Nat):Int) - 1)=(m:Int) by rw [xF (by omega) (by omega)]; omega,xr]
  have e3:=e3 (fun p1 p2 p8 p9 p10 zEH zEI=>zL yc zd za yb ya yd xb xc zc zb xa (L+1) p1 p2 p8 p9 p10 zEH zEI k)
  rw [ee] at e3
  refine Eq.trans ?_ (e3.trans (zDp hL1 a1 tl hbt g1 rs' e1 e2 d'.es d'.a k))
  rfl
end
section
open Go.ChangeShapes Go.WideShapes Go.ChangeAt Go.RowKit
set_option linter.unusedVariables false
theorem zvK {H:Type} {enc:TypeId × Value→H} {P:Program} {w:World} {base:Nat} {spare:Nat→Bool} {held:Bool} {fuel n:Nat} {t e:TypeId} {k:IntKind} {cs:List Value} {d:DataW H} {p:List MemPlace} (ht:P.underlying t=some (.array n e)) (he:P.underlying e=some (.int k)) (hc:P.cellsOf e=1)
  (ns:List Int) (hd:d=.agg (ns.map fun x=>.lit (.int k x))) (h:DataW.trod enc P w base spare held fuel t cs=some (d,p)) {i:Nat} (hi:i < n):cs[i]?=some (.int k (ns.getD i 0)):=by
 obtain ⟨xs,m,_,hx,_,hlen,hel⟩:=DataW.trod_array ht h
 have h1:=hel i hi
 rw [hc,Nat.mul_one] at h1
 have hxi:xs[i]?=some (xs[i]'(by omega)):=List.getElem?_eq_getElem _
 rw [hxi] at h1
 obtain ⟨v,e1,e2,_⟩:=DataW.trod_int he h1
 simp only [Prod.mk.injEq] at hx
 have h2:d=.agg (xs.map (·.1)):=hx.1
 rw [hd] at h2
 have h3:ns.map (fun x=>DataW.lit (H:=H) (.int k x))=xs.map (·.1):=by injection h2
 have h4:=congrArg (fun l=>l[i]?) h3
 simp only [List.getElem?_map,hxi,Option.map_some,e2] at h4
 have h5:ns[i]?=some v:=by
  cases hq:ns[i]? with
  | none=>rw [hq] at h4; cases h4
  | some q =>
   rw [hq] at h4
   simp only [Option.map_some,Option.some.injEq] at h4
   injection h4 with h6
   injection h6 with _ h7
   rw [h7]
 rw [List.getD_eq_getElem?_getD,h5]
 have h8:=congrArg (fun l=>l[0]?) e1
 simp only [List.getElem?_take,List.getElem?_drop] at h8
 simpa using h8
theorem zxy {k:IntKind} {ns:List Int} {i:Nat} {v:V} (h:(row k ns)[i]?=some v):i < ns.length∧v=.sc (.int k (ns.getD i 0)):=by
 unfold row at h
 rw [List.getElem?_map] at h
 cases hq:ns[i]? with
 | none=>rw [hq] at h; cases h
 | some q =>
  rw [hq] at h
  obtain ⟨hi,_⟩:=List.getElem?_eq_some_iff.1 hq
  refine ⟨hi,?_⟩
  rw [List.getD_eq_getElem?_getD,hq]
  simpa using h.symm
def zuk {H:Type}:List (String × DataW H):=[("lightclient/sha.k",Rows.laid_lightclient_sha_k),("lightclient/sha.initial",Rows.laid_lightclient_sha_initial)]
theorem gK:Tryd.prog.globalNamed "lightclient/sha.k"=some 1:=by kernel_rfl
theorem gI:Tryd.prog.globalNamed "lightclient/sha.initial"=some 0:=by kernel_rfl
theorem tK:(Tryd.prog.globals[1]?).map (·.type)=some 84:=by kernel_rfl
theorem tI:(Tryd.prog.globals[0]?).map (·.type)=some 77:=by kernel_rfl
theorem zCv {W:World} (h:laidMetH Tryd.prog zuk W):GV (yI fg gls) W zhU:=by
 rw [MakeChecks.laidMetH_plain _ _ _ (by kernel_rfl)] at h
 obtain ⟨ps,⟨g0,t0,cs0,f0,p0,q0,hg0,ht0,hv0,hd0,⟨g1,t1,cs1,f1,p1,q1,hg1,ht1,hv1,hd1,_,_⟩,_⟩,_,_⟩:=h
 obtain rfl:=Option.some.inj (gK.symm.trans hg0)
 obtain rfl:=Option.some.inj (gI.symm.trans hg1)
 obtain rfl:=Option.some.inj (tK.symm.trans ht0)
 obtain rfl:=Option.some.inj (tI.symm.trans ht1)
 have eu:Tryd.prog.underlying 57=some (.int .u32):=by kernel_rfl
 have ec:Tryd.prog.cellsOf 57=1:=by kernel_rfl
 have ek:Tryd.prog.underlying 84=some (.array 64 57):=by kernel_rfl
 have ei:Tryd.prog.underlying 77=some (.array 8 57):=by kernel_rfl
 have dk:(Rows.laid_lightclient_sha_k:DataW Unit)=.agg (kc.map fun x=>.lit (.int .u32 x)):=rfl
 have di:(Rows.laid_lightclient_sha_initial:DataW Unit)=.agg (init0.map fun x=>.lit (.int .u32 x)):=rfl
 intro g cs hg i v hv
 have hg':(gls.find? (fun e=>e.1 == g)).map (·.2)=some cs:=hg
 by_cases hk:g=1
 ·subst hk
  obtain rfl:gk_sha_k=cs:=Option.some.inj ((show (gls.find? (fun e=>e.1 == 1)).map (·.2)=some gk_sha_k from rfl).symm.trans hg')
  obtain ⟨hi,rfl⟩:=zxy (k:=.u32) (ns:=kc) hv
  refine ⟨_,rfl,rfl,fun hw=>hw,?_⟩
  rw [World.var?_cell gK hv0 i,Array.getElem?_toList.symm]
  exact zvK ek eu ec kc dk hd0 hi
 ·by_cases hk2:g=0
  ·subst hk2
   obtain rfl:gk_sha_initial=cs:=Option.some.inj ((show (gls.find? (fun e=>e.1 == 0)).map (·.2)=some gk_sha_initial from rfl).symm.trans hg')
   obtain ⟨hi,rfl⟩:=zxy (k:=.u32) (ns:=init0) hv
   refine ⟨_,rfl,rfl,fun hw=>hw,?_⟩
   rw [World.var?_cell gI hv1 i,Array.getElem?_toList.symm]
   exact zvK ei eu ec init0 di hd1 hi
  ·exfalso
   have e:gls=[(0,gk_sha_initial),(1,gk_sha_k)]:=rfl
   rw [e] at hg'
   simp only [List.find?_cons,List.find?_nil,beq_eq_false_iff_ne.2 (Ne.symm hk),beq_eq_false_iff_ne.2 (Ne.symm hk2)] at hg'
   cases hg'
theorem zBs (os:Os) (args:Array Value):laidMetH Tryd.prog zuk ((World.doorLaid Tryd.prog 400 os).forCall (fun _ _=>0) ⟨#[],args,[]⟩).memory :=
 laidMetH_of_parts3 (fuel:=8) (laidMet_of_run' 8 (by kernel_rfl) (by kernel_rfl)) (by kernel_rfl) (by kernel_rfl)
end
section
namespace journalCrashesL
open Go.ChangeShapes Go.WideShapes Go.ChangeAt Go.RowKit
set_option linter.unusedVariables false
theorem own:ownKnob Tryd.prog.godebug=none:=by kernel_rfl
theorem zu4:laidOutB Tryd.prog=true:=by kernel_rfl
set_option maxRecDepth 100000 in
theorem zDk (os:Os) (started:os.Started) (H:Type) (enc:TypeId × Value→H) :
  ReturnsInHanded {} Tryd.checked os 5 .any (fun w args=>(Rows.journalCrashesSpec.pre enc Tryd.prog Tryd.f5 [] false w args∧laidMetH Tryd.prog zuk w)∧sizedMet enc Tryd.prog Tryd.f5 (OpenSpec.ofChange Rows.journalCrashesSpec) false w args)
   (Rows.journalCrashesSpec.post enc Tryd.prog Tryd.f5 false true false false):=by
 refine returnsInHanded_of_change_and (C:=Tryd.checked) (X:=fun w _=>laidMetH Tryd.prog zuk w) (fun _ _ _ hh h=>h.of_heap hh) own started (by kernel_rfl) Tryd.func5
  (ChangeSpec.witness_shaped (enc:=enc) (C:=Tryd.checked) (os:=os) (X:=fun w _=>laidMetH Tryd.prog zuk w) false (World.doorLaid Tryd.prog 400 os) #[.slice none 0 0,.int .i64 0,.slice none 0 0] 8 rfl (World.shaped_of_RefB (by kernel_rfl) (by kernel_rfl)) (by kernel_rfl) (by kernel_rfl) (by kernel_rfl) (zBs os _)) ?_
 intro W base args ds gs before hval0 hW hcnd _ hlaid _
 have hval:∀ (j:Nat) t v,Tryd.f5.params[j]?=some t→args[j]?=some v→Value.okWide Tryd.prog W .any base t v:=hval0
 have hW':=hW
 obtain ⟨p,q,hA0,hV,rfl,hfz,hnd⟩:=hW
 have hA:DataW.TrodAll enc Tryd.prog W 0 (fun _=>true) true Tryd.f5.params.toList args.toList ds p:=hA0
 rw [Tryd.params5] at hA hval
 obtain ⟨v0,vs0,d0,ds0,p0,q0,hargs,rfl,rfl,h0,r0⟩:=trodAll_cons hA
 obtain ⟨v1,vs1,d1,ds1,p1,q1,rfl,rfl,rfl,h1,r1⟩:=trodAll_cons r0
 obtain ⟨v2,vs2,d2,ds2,p2,q2,rfl,rfl,rfl,h2,r2⟩:=trodAll_cons r1
 obtain ⟨rfl,rfl,rfl⟩:=trodAll_nil r2
 obtain rfl:args=#[v0,v1,v2]:=by cases args; simp_all
 obtain ⟨rfl,rfl⟩:=trodVars_none hV
 have k0:=h0
 have lt0:∀ x ∈ p0,x.block < W.heap.size:=by obtain ⟨m,hm⟩:=k0; exact DataW.trod_lt m _ _ _ hm
 have k1:=h1
 have lt1:∀ x ∈ p1,x.block < W.heap.size:=by obtain ⟨m,hm⟩:=k1; exact DataW.trod_lt m _ _ _ hm
 have k2:=h2
 have lt2:∀ x ∈ p2,x.block < W.heap.size:=by obtain ⟨m,hm⟩:=k2; exact DataW.trod_lt m _ _ _ hm
 obtain ⟨A0,len0,cap0,rfl⟩:=okWide_slice Tryd.underlying22 (hval 0 22 v0 rfl rfl)
 obtain ⟨x0,hx0,rp0⟩:=zyz (r:=.any) (b0:=base) (ren:=yI fg gls) (d:=20) (ct:=.sl ([.int .i64])) rfl h0 (by kernel_rfl)
 obtain ⟨a0,rfl,hl0,wf0⟩:=hx0.sl_inv
 obtain ⟨a1,rfl,rfl,rfl,wf1⟩:=open_int Tryd.underlying3 (hval 1 3 v1 rfl rfl) h1
 obtain ⟨A2,len2,cap2,rfl⟩:=okWide_slice Tryd.underlying23 (hval 2 23 v2 rfl rfl)
 obtain ⟨x2,hx2,rp2⟩:=zyz (r:=.any) (b0:=base) (ren:=yI fg gls) (d:=20) (ct:=.sl ([.int .u8])) rfl h2 (by kernel_rfl)
 obtain ⟨a2,rfl,hl2,wf2⟩:=hx2.sl_inv
 clear hA0 hval0
 obtain ⟨L,hL⟩:=zpt a0 a1 a2 hl0 wf0 wf1 hl2 wf2
 have hd:zdd zaf L Bool [(V.sl 1 a0),(V.sc (.int .i64 a1)),(V.sl 1 a2)] [] zrw=some true:=by
  show (aL 1 (V.sl 1 a0) fun x0=>aI .i64 (V.sc (.int .i64 a1)) fun x1=>aL 1 (V.sl 1 a2) fun x2=>zaf Bool L x0 x1 x2 (fun p=>zrw (V.sc (.bool p)) []))=some true
  rw [zCa,zD3,zCa]
  exact (hL (fun p=>zrw (V.sc (.bool p)) [])).trans rfl
 obtain ⟨v,b,hev,hk⟩:=zmC L 100 (by decide) Bool [(V.sl 1 a0),(V.sc (.int .i64 a1)),(V.sl 1 a2)] [] zrw true hd
 have hv:=zAp hk
 subst hv
 refine (zzu (us:=[.slice A0 len0 cap0,.int .i64 a1,.slice A2 len2 cap2]) (w:=W) (zCv hlaid) (zD9 L 100) (f:=5) (by kernel_rfl) rfl (fun i x u hx hu=>?_) hev).mono fun e W' ⟨he,bel0⟩=>?_
 ·match i,hx,hu with
  | 0,hx,hu=>cases hx; cases hu; exact rp0
  | 1,hx,hu=>cases hx; cases hu; exact .sc _ rfl
  | 2,hx,hu=>cases hx; cases hu; exact rp2
  | n+3,hx,hu=>simp at hx
 ·have bel:=Kept.below bel0
  subst he
  exact ⟨_,rfl,_,_,_,[],_,[],hW',trodAll_mk1 (shut_bool Tryd.underlying4 _),(trodAll_cons_mk (Below.trod zu4 (by kernel_rfl) (of_decide_eq_true (by kernel_rfl)) k0 bel lt0) (trodAll_cons_mk (Below.trod zu4 (by kernel_rfl) (of_decide_eq_true (by kernel_rfl)) k1 bel lt1) (trodAll_cons_mk (Below.trod zu4 (by kernel_rfl) (of_decide_eq_true (by kernel_rfl)) k2 bel lt2) trodAll_mk0))),rfl,bel.frame _,fun h=>by cases h⟩
theorem over:Rows.journalCrashesRow.holds Tryd.pinned (OpenSpec.ofChange Rows.journalCrashesSpec) :=
 OpenClaim.holds_of_wide 5 Tryd.f5 rfl rfl rfl rfl rfl rfl rfl ⟨rfl,rfl,rfl,rfl,rfl⟩ rfl rfl rfl rfl rfl (by kernel_rfl) Tryd.func5 (by kernel_rfl)
  (of_decide_eq_true (by kernel_rfl)) (by unfold Func.isWrapper; first | (rw [if_pos (by decide +kernel)]; kernel_rfl) | (rw [if_neg (by decide +kernel)]; exact ⟨rfl,rfl⟩))
  (fun os started H enc _=>zDk os started H enc)
theorem card:Claim7.holds Tryd.pinned (.plain (OpenSpec.ofChange Rows.journalCrashesSpec)) Rows.journalCrashesCard :=
 Claim7.holds_tied_plain_at .later [] [.data,.data] true (true,"ba4af9d7795a5c4520f42b0bea24d25edc0cadad41495e125cc72112383985d4") false
  over (fun _ h=>by cases h) (by kernel_rfl) (fun _ h=>by cases h) journalCrashes_row_tie rfl ⟨rfl,rfl⟩ (by kernel_rfl) rfl
  (fun f fn hf hfn=>by
   obtain rfl:f=5:=Option.some.inj ((show Tryd.prog.funcNamed "lightclient/lightclientlaw41.JournalCrashes"=some 5 by kernel_rfl).symm.trans hf) |>.symm
   obtain rfl:fn=Tryd.f5:=(Option.some.inj (Tryd.func5.symm.trans hfn)).symm
   exact ⟨by kernel_rfl,fun j t ht=>by
    rw [Tryd.params5] at ht
    have hm:t ∈ [22,3,23]:=by simpa using Array.mem_of_getElem? ht
    have hall:([22,3,23].all fun u=>!Tryd.prog.wantsStandIn u)=true:=by kernel_rfl
    exact (show Tryd.prog.wantsStandIn t=false by simpa using List.all_eq_true.1 hall t hm)⟩)
  (by kernel_rfl)
end journalCrashesL
theorem journalCrashes_holds:Rows.JournalCrashesCardSaid:=journalCrashesL.card
end
end Go.Proofs.YteopmmegeagklaaDoor
