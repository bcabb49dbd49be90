/- Part 14 of the proof of BlockChecks: an abstract machine over plain values, its soundness, and the functions of the program on plain values. -/
import Derived.Test.YtgmhijonllockaaGreatDoorMBlockChecks13
namespace Go.Proofs.YtgmhijonllockaaGreatDoor
set_option maxRecDepth 100000
set_option linter.unusedVariables false
set_option linter.unusedSimpArgs false
open IntKind renaming wrap->QG,bits->XH
open List renaming replicate->We,length_append->Wm,drop_of_length_le->WK,take_of_length_le->XE,drop_eq_getElem_cons->WQ,length->XK,drop_zero->XQ,take_succ_eq_append_getElem->XU,getElem_mem->W2,getD_eq_getElem?_getD->Ws,length_cons->XW,take->XL,length_map->QB,length_replicate->XX,length_nil->XY,append_assoc->Wu,nil_append->XR,length_set->QI,length_drop->XZ,map_cons->QW,getElem?_append_right->Wt,getElem?_eq_getElem->Wc,take_zero->X2,length_eq_one_iff->X3,mem_cons->Q9,cons_append->X4,mem_append->QD,append_nil->X5,flatten_cons->WL,any_cons->X7,drop->XO,mem_of_mem_drop->WU,mem_of_mem_take->WV,drop_succ_cons->X9,length_pos_iff->WY,mem_replicate->Yb,set_set->Yc,mem_map->Xx
open Int renaming toNat_natCast->XV,ofNat_tmod->X6,eq_ofNat_of_zero_le->X8,zero_add->Yd,tmod->Ye,tdiv->Yf
open Nat renaming zero_add->WB,mul_one->X0,exists_eq_add_of_le->X1
open Bool renaming false_eq_true->WP,not_true->Xh,false_or->Ya
open Option renaming map_some->QN,isSome_none->XG,isSome_some->Xz,getD->XP
section
theorem zH6(n:Int):0≤QG .u64 n:=by
 unfold QG
 simp only [IntKind.signed,Bool.false_and,WP,if_false]
 exact Int.emod_nonneg _ (by decide)
def zhh(p n:Int):Int:=
 ior .u32 (zkq .u32 p (zhm .u64 (QG .u64 (QG .i64 (0-n))) 31)) (zdB .u32 p (QG .u64 (32-(zhm .u64 (QG .u64 (QG .i64 (0-n))) 31))))
theorem z2V{β:Type}(L:Nat)(p n:Int)(k:Int→Option β):yB β L p n k=k (ior .u32 (zkq .u32 p (zhm .u64 (QG .u64 n) 31)) (zdB .u32 p (QG .u64 (32-(zhm .u64 (QG .u64 n) 31))))):=by
 unfold yB zjS
 simp only [zz]
 rw [xi (show 0≤zhm .u64 (QG .u64 n) 31 from zH6 _),xi (zH6 _)]
theorem z2E{β:Type}(L:Nat)(p n:Int)(k:Int→Option β):yg β L p n k=k (zhh p n):=by
 unfold yg zLI
 simp only [zz]
 rw [z2V]; exact Eq.trans rfl rfl
theorem z6r{β:Type}(L:Nat)(p n:Int)(k:Int→Option β):yi β L p n k=k (zhh p n):=by
 unfold yi zFt
 simp only [zz]
 rw [z2V]; exact Eq.trans rfl rfl
theorem zas{β:Type}{k:IntKind}{l:List Int}{j:Nat}(h:j<l.length)(κ:Int→Option β):cI k (row k l) j κ=κ (l.getD j 0):=
 zjD (by simp [row,h]) κ
theorem zkM{k:IntKind}{w:List Int}{j:Nat}(h:j<w.length)(x:Int):zq (row k w) j [V.sc (.int k x)]=row k (w.set j x):=by
 rw [z5E (by rw [xy]; exact h)]
 simp [row]
theorem z39{t c:Nat}(h:c≤t)(h2:t≤1000000):QG .i64 ((t:Int)-(c:Int))=((t-c:Nat):Int):=by
 rw [zbj (by omega) (by omega)]; omega
def s2(w:List Int)(t:Nat):Int:=
 QG .u32 (QG .u32 (QG .u32 (w.getD (t-16) 0+zdR .u32 (zdR .u32 (zhh (w.getD (t-15) 0) 7) (zhh (w.getD (t-15) 0) 18)) (zdB .u32 (w.getD (t-15) 0) 3))+w.getD (t-7) 0)+zdR .u32 (zdR .u32 (zhh (w.getD (t-2) 0) 17) (zhh (w.getD (t-2) 0) 19)) (zdB .u32 (w.getD (t-2) 0) 10))
def zOx:Nat→Nat→List Int→List Int
 | 0,_,w=>w
 | m+1,t,w=>zOx m (t+1) (w.set t (s2 w t))
theorem z0v:∀ (m t:Nat) (w:List Int),(zOx m t w).length=w.length
 | 0,_,_=>rfl
 | m+1,t,w=>by rw [zOx,z0v m]; simp
theorem zYv{β:Type}(L:Nat){t:Nat}(h1:16≤t)(h2:t<64)(b2:List V){w:List Int}(hw:w.length=64)(kh:Int→List V→List V→Option β)(kx:List V→List V→Option β):zei yg L (t:Int) b2 (row .u32 w) kh kx=kh ((t+1:Nat):Int) b2 (row .u32 (w.set t (s2 w t))):=by
 unfold zei
 have e15:QG .i64 ((t:Int)-(15:Int))=((t-15:Nat):Int):=z39 (c:=15) (by omega) (by omega)
 have e2:QG .i64 ((t:Int)-(2:Int))=((t-2:Nat):Int):=z39 (c:=2) (by omega) (by omega)
 have e16:QG .i64 ((t:Int)-(16:Int))=((t-16:Nat):Int):=z39 (c:=16) (by omega) (by omega)
 have e7:QG .i64 ((t:Int)-(7:Int))=((t-7:Nat):Int):=z39 (c:=7) (by omega) (by omega)
 have c15:0≤((t-15:Nat):Int)∧((t-15:Nat):Int)<((64:Nat):Int):=by omega
 have c2:0≤((t-2:Nat):Int)∧((t-2:Nat):Int)<((64:Nat):Int):=by omega
 have c16:0≤((t-16:Nat):Int)∧((t-16:Nat):Int)<((64:Nat):Int):=by omega
 have c7:0≤((t-7:Nat):Int)∧((t-7:Nat):Int)<((64:Nat):Int):=by omega
 have c0:0≤(t:Int)∧(t:Int)<((64:Nat):Int):=by omega
 have cl:True∧t+1≤64:=⟨trivial,by omega⟩
 rw [yA (by omega:(t:Int)<64)]
 simp only [zz,e15,e2,e16,e7,xi c15,xi c2,xi c16,xi c7,xi c0,XV,X0,WB,z2E,zas (show t-15<w.length by omega),zas (show t-2<w.length by omega),zas (show t-16<w.length by omega),zas (show t-7<w.length by omega),xy,hw,zkM (show t<w.length by omega),zfs (show t≤1000000000 by omega)]
 rw [xi cl]
 exact Eq.trans rfl rfl
theorem z3E{β:Type}(L:Nat){t:Nat}(h1:16≤t)(h2:t<64)(b2:List V){w:List Int}(hw:w.length=64)(kh:Int→List V→List V→Option β)(kx:List V→List V→Option β):zeR yi L (t:Int) b2 (row .u32 w) kh kx=kh ((t+1:Nat):Int) b2 (row .u32 (w.set t (s2 w t))):=
 (show zeR yi L (t:Int) b2 (row .u32 w) kh kx=zei yg L (t:Int) b2 (row .u32 w) kh kx from rfl).trans (zYv L h1 h2 b2 hw kh kx)
theorem zYj{β:Type}(L:Nat)(b2:List V)(kx:List V→List V→Option β):∀ (n m t:Nat) (w:List Int),w.length=64→16≤t→t+m=64→m<n→zeh yg L kx n (t:Int) b2 (row .u32 w)=kx b2 (row .u32 (zOx m t w))
 | 0,m,t,w,_,_,_,h=>by omega
 | n+1,0,t,w,hw,h1,h2,h=>by
  unfold zeh zei
  rw [xB (by omega)]; exact Eq.trans rfl rfl
 | n+1,m+1,t,w,hw,h1,h2,h=>by
  unfold zeh
  rw [zYv L h1 (by omega) b2 hw]
  exact zYj L b2 kx n m (t+1) _ (by simpa using hw) (by omega) (by omega) (by omega)
theorem zT3{β:Type}(L:Nat)(b2:List V)(kx:List V→List V→Option β):∀ (n m t:Nat) (w:List Int),w.length=64→16≤t→t+m=64→m<n→zc3 yi L kx n (t:Int) b2 (row .u32 w)=kx b2 (row .u32 (zOx m t w))
 | 0,m,t,w,_,_,_,h=>by omega
 | n+1,0,t,w,hw,h1,h2,h=>by
  unfold zc3 zeR
  rw [xB (by omega)]; exact Eq.trans rfl rfl
 | n+1,m+1,t,w,hw,h1,h2,h=>by
  unfold zc3
  rw [z3E L h1 (by omega) b2 hw]
  exact zT3 L b2 kx n m (t+1) _ (by simpa using hw) (by omega) (by omega) (by omega)
theorem zSh{n:Int}(h1:0≤n)(h2:n<4294967296):QG .u32 n=n:=zub h1 (by omega)
theorem zQI{a b:Int}{n:Nat}(ha:0≤a)(hb:0≤b)(hb2:b<2 ^ n)(hs:a*2 ^ n+b<4294967296):ior .u32 (a*2 ^ n) b=a*2 ^ n+b:=by
 obtain ⟨x,rfl⟩:=X8 ha
 obtain ⟨y,rfl⟩:=X8 hb
 have hy:y<2 ^ n:=by exact_mod_cast hb2
 have e:((x:Int)*2 ^ n)=((x*2 ^ n:Nat):Int):=by rw [Int.natCast_mul,Int.natCast_pow]; rfl
 rw [e] at hs ⊢
 have hxy:x*2 ^ n+y<4294967296:=by omega
 unfold ior
 have q1:(BitVec.ofInt (XH .u32) ((x*2 ^ n:Nat):Int)).toNat=x*2 ^ n:=by
  rw [BitVec.toNat_ofInt]
  show (((x*2 ^ n:Nat):Int) % ((2 ^ 32:Nat):Int)).toNat=_
  rw [← Int.natCast_emod,XV,Nat.mod_eq_of_lt (by omega)]
 have q2:(BitVec.ofInt (XH .u32) (y:Int)).toNat=y:=by
  rw [BitVec.toNat_ofInt]
  show ((y:Int) % ((2 ^ 32:Nat):Int)).toNat=_
  rw [← Int.natCast_emod,XV,Nat.mod_eq_of_lt (by omega)]
 rw [BitVec.toNat_or,q1,q2,← Nat.shiftLeft_eq,← Nat.shiftLeft_add_eq_or_of_lt hy,Nat.shiftLeft_eq]
 rw [zSh (by omega) (by omega),Int.natCast_add]
theorem zLu{a:Int}(n:Nat)(hn:n≤32)(ha:0≤a)(hs:a*2 ^ n<4294967296):zkq .u32 a (n:Int)=a*2 ^ n:=by
 unfold zkq
 have:min (Int.toNat (n:Int)) (XH .u32)=n:=by
  rw [XV]; exact Nat.min_eq_left hn
 rw [this]
 have h0:0≤a*2 ^ n:=Int.mul_nonneg ha (Int.le_of_lt (Int.pow_pos (by decide)))
 exact zSh h0 hs
theorem zkR{l:List Int}(h:∀ x∈l,0≤x∧x≤255)(i:Nat):0≤l.getD i 0∧l.getD i 0≤255:=by
 rw [Ws]
 by_cases hi:i<l.length
 ·rw [Wc hi]; exact h _ (W2 hi)
 ·rw [List.getElem?_eq_none (by omega)]; simp
theorem zjB{w:List Int}{t:Nat}(h:t<w.length)(x:Int):(w.set t x).getD t 0=x:=by
 simp [Ws,h]
theorem getD_set_ne{w:List Int}{t i:Nat}(h:t≠i)(x:Int):(w.set t x).getD i 0=w.getD i 0:=by
 simp [Ws,List.getElem?_set_ne h]
def zMz(l:List Int)(t:Nat):Int:=
 ((l.getD (4*t) 0*256+l.getD (4*t+1) 0)*256+l.getD (4*t+2) 0)*256+l.getD (4*t+3) 0
theorem z8B{x y:Int}(h0:0≤x)(h1:x<16777216)(b0:0≤y)(b1:y≤255):ior .u32 (zkq .u32 x (8:Int)) y=x*256+y:=by
 have e1:zkq .u32 x (8:Int)=x*2 ^ 8:=zLu 8 (by decide) h0 (by omega)
 rw [e1,zQI (n:=8) h0 b0 (by omega) (by omega)]; exact Eq.trans rfl rfl
theorem yas{a b c d:Int}(ha:0≤a∧a≤255)(hb:0≤b∧b≤255)(hc:0≤c∧c≤255)(hd:0≤d∧d≤255):ior .u32 (ior .u32 (ior .u32 (zkq .u32 a (24:Int)) (zkq .u32 b (16:Int))) (zkq .u32 c (8:Int))) d=((a*256+b)*256+c)*256+d:=by
 have e1:zkq .u32 a (24:Int)=a*2 ^ 24:=zLu 24 (by decide) ha.1 (by omega)
 have e2:zkq .u32 b (16:Int)=b*2 ^ 16:=zLu 16 (by decide) hb.1 (by omega)
 have e3:zkq .u32 c (8:Int)=c*2 ^ 8:=zLu 8 (by decide) hc.1 (by omega)
 rw [e1,e2,e3,zQI (n:=24) ha.1 (by omega) (by omega) (by omega)]
 rw [show a*2 ^ 24+b*2 ^ 16=(a*256+b)*2 ^ 16 by omega,zQI (n:=16) (by omega) (by omega) (by omega) (by omega)]
 rw [show (a*256+b)*2 ^ 16+c*2 ^ 8=((a*256+b)*256+c)*2 ^ 8 by omega,zQI (n:=8) (by omega) (by omega) (by omega) (by omega)]
 omega
theorem z3q{t:Nat}(h:t≤1000000):QG .i64 ((4:Int)*(t:Int))=((4*t:Nat):Int):=by
 rw [zbj (by omega) (by omega)]; omega
theorem zSw{a b:Nat}(h:a≤1000000000)(h2:b≤1000000000):QG .i64 ((a:Int)+(b:Int))=((a+b:Nat):Int):=by
 rw [zbj (by omega) (by omega)]; omega
theorem z8K{β:Type}(L:Nat){t j:Nat}(ht:t<16)(hj:j<4)(b2:List V){l w:List Int}(hl:l.length=64)(hb:∀ x∈l,0≤x∧x≤255)(hw:w.length=64){x:Int}(hx:w.getD t 0=x)(h0:0≤x)(h1:x<16777216)(kh:Int→Int→Int→List V→List V→List V→Option β)(kx:Int→List V→List V→List V→Option β):zbi yg L (t:Int) (t:Int) (j:Int) (row .u8 l) b2 (row .u32 w) kh kx=kh (t:Int) (t:Int) ((j+1:Nat):Int) (row .u8 l) b2 (row .u32 (w.set t (x*256+l.getD (4*t+j) 0))):=by
 unfold zbi
 have bb:=zkR hb (4*t+j)
 have e4:QG .i64 ((4:Int)*(t:Int))=((4*t:Nat):Int):=z3q (by omega)
 have e5:QG .i64 (((4*t:Nat):Int)+(j:Int))=((4*t+j:Nat):Int):=zSw (by omega) (by omega)
 have e6:QG .u32 (l.getD (4*t+j) 0)=l.getD (4*t+j) 0:=zub bb.1 (by omega)
 have e7:ior .u32 (zkq .u32 x (8:Int)) (l.getD (4*t+j) 0)=x*256+l.getD (4*t+j) 0:=z8B h0 h1 bb.1 bb.2
 have c0:0≤(t:Int)∧(t:Int)<((64:Nat):Int):=by omega
 have c5:0≤((4*t+j:Nat):Int)∧((4*t+j:Nat):Int)<((64:Nat):Int):=by omega
 have cl:True∧t+1≤64:=⟨trivial,by omega⟩
 rw [yA (by omega:(j:Int)<4)]
 simp only [zz,e4,e5,xi c0,xi c5,XV,X0,WB,zas (show t<w.length by omega),zas (show 4*t+j<l.length by omega),hx,e6,e7,xy,hw,zkM (show t<w.length by omega),zfs (show j≤1000000000 by omega)]
 rw [xi cl]
theorem zLZ{β:Type}(L n:Nat){t j:Nat}(ht:t<16)(hj:j<4)(b2:List V){l w:List Int}(hl:l.length=64)(hb:∀ x∈l,0≤x∧x≤255)(hw:w.length=64){x:Int}(hx:w.getD t 0=x)(h0:0≤x)(h1:x<16777216)(kx:Int→List V→List V→List V→Option β):zaE yg L kx (n+1) (t:Int) (t:Int) (j:Int) (row .u8 l) b2 (row .u32 w)=zaE yg L kx n (t:Int) (t:Int) ((j+1:Nat):Int) (row .u8 l) b2 (row .u32 (w.set t (x*256+l.getD (4*t+j) 0))):=
 (show zaE yg L kx (n+1) (t:Int) (t:Int) (j:Int) (row .u8 l) b2 (row .u32 w)=zbi yg L (t:Int) (t:Int) (j:Int) (row .u8 l) b2 (row .u32 w) (fun p4 p9 p12 b1 b2 b3=>zaE yg L kx n p4 p9 p12 b1 b2 b3) kx from rfl).trans (z8K L ht hj b2 hl hb hw hx h0 h1 _ _)
theorem z8h{β:Type}(L n:Nat){t:Nat}(ht:t<16)(b2:List V){l w:List Int}(hl:l.length=64)(hb:∀ x∈l,0≤x∧x≤255)(hw:w.length=64)(hx:w.getD t 0=0)(kx:Int→List V→List V→List V→Option β):zaE yg L kx (n+5) (t:Int) (t:Int) ((0:Nat):Int) (row .u8 l) b2 (row .u32 w)=kx (t:Int) (row .u8 l) b2 (row .u32 (w.set t (zMz l t))):=by
 have htw:t<w.length:=by omega
 have a0:=zkR hb (4*t+0)
 have a1:=zkR hb (4*t+1)
 have a2:=zkR hb (4*t+2)
 have a3:=zkR hb (4*t+3)
 refine (zLZ L (n+4) ht (j:=0) (by decide) b2 hl hb hw hx (by decide) (by decide) kx).trans ?_
 refine (zLZ L (n+3) ht (j:=1) (by decide) b2 hl hb (by simpa using hw) (zjB htw _) (by omega) (by omega) kx).trans ?_
 rw [Yc]
 refine (zLZ L (n+2) ht (j:=2) (by decide) b2 hl hb (by simpa using hw) (zjB htw _) (by omega) (by omega) kx).trans ?_
 rw [Yc]
 refine (zLZ L (n+1) ht (j:=3) (by decide) b2 hl hb (by simpa using hw) (zjB htw _) (by omega) (by omega) kx).trans ?_
 rw [Yc]
 have e:(((0*256+l.getD (4*t+0) 0)*256+l.getD (4*t+1) 0)*256+l.getD (4*t+2) 0)*256+l.getD (4*t+3) 0=zMz l t:=by
  unfold zMz; rw [Nat.add_zero,Int.zero_mul,Yd]
 rw [e]
 refine (show _=zbi yg L (t:Int) (t:Int) ((3+1:Nat):Int) (row .u8 l) b2 (row .u32 (w.set t (zMz l t))) (fun p4 p9 p12 b1 b2 b3=>zaE yg L kx n p4 p9 p12 b1 b2 b3) kx from rfl).trans ?_
 unfold zbi
 rw [xB (by omega)]
def zP2:Nat→Nat→List Int→List Int→List Int
 | 0,_,_,w=>w
 | m+1,t,l,w=>zP2 m (t+1) l (w.set t (zMz l t))
theorem zLW:∀ (m t:Nat) (l w:List Int),(zP2 m t l w).length=w.length
 | 0,_,_,_=>rfl
 | m+1,t,l,w=>by rw [zP2,zLW m]; simp
theorem z6P{β:Type}{L:Nat}(hL:5≤L){t:Nat}(ht:t<16)(b2:List V){l w:List Int}(hl:l.length=64)(hb:∀ x∈l,0≤x∧x≤255)(hw:w.length=64)(hx:w.getD t 0=0)(k0:List V→List V→Option β)(kh:Int→List V→List V→List V→Option β):zel yg L (t:Int) (row .u8 l) b2 (row .u32 w) k0 kh=kh ((t+1:Nat):Int) (row .u8 l) b2 (row .u32 (w.set t (zMz l t))):=by
 obtain ⟨n,rfl⟩:=X1 hL
 unfold zel zkf
 rw [yA (by omega:(t:Int)<16)]
 rw [Nat.add_comm 5 n]
 refine (z8h (n+5) n ht b2 hl hb hw hx _).trans ?_
 unfold zgN
 rw [zz,zfs (by omega)]
theorem z0T{β:Type}{L:Nat}(hL:5≤L)(b2:List V){l:List Int}(hl:l.length=64)(hb:∀ x∈l,0≤x∧x≤255)(k0:List V→List V→Option β):∀ (n m t:Nat) (w:List Int),w.length=64→(∀ i,t≤i→w.getD i 0=0)→t+m=16→m<n→zeL yg L k0 n (t:Int) (row .u8 l) b2 (row .u32 w)=k0 b2 (row .u32 (zP2 m t l w))
 | 0,m,t,w,_,_,_,h=>by omega
 | n+1,0,t,w,hw,hz,h1,h=>by
  unfold zeL zel zkf
  rw [xB (by omega)]; exact Eq.trans rfl rfl
 | n+1,m+1,t,w,hw,hz,h1,h=>by
  unfold zeL
  rw [z6P hL (by omega) b2 hl hb hw (hz t (Nat.le_refl t))]
  exact z0T hL b2 hl hb k0 n m (t+1) _ (by simpa using hw) (fun i hi=>by rw [getD_set_ne (by omega)]; exact hz i (by omega)) (by omega) (by omega)
theorem z4I{β:Type}(L:Nat){t:Nat}(ht:t<16)(b2:List V){l w:List Int}(hl:l.length=64)(hb:∀ x∈l,0≤x∧x≤255)(hw:w.length=64)(kh:Int→List V→List V→List V→Option β)(k0:List V→List V→Option β):zfC yi L (t:Int) (row .u8 l) b2 (row .u32 w) kh k0=kh ((t+1:Nat):Int) (row .u8 l) b2 (row .u32 (w.set t (zMz l t))):=by
 unfold zfC
 have a0:=zkR hb (4*t)
 have a1:=zkR hb (4*t+1)
 have a2:=zkR hb (4*t+2)
 have a3:=zkR hb (4*t+3)
 have e4:QG .i64 ((4:Int)*(t:Int))=((4*t:Nat):Int):=z3q (by omega)
 have e1:QG .i64 (((4*t:Nat):Int)+(1:Int))=((4*t+1:Nat):Int):=zSw (b:=1) (by omega) (by omega)
 have e2:QG .i64 (((4*t:Nat):Int)+(2:Int))=((4*t+2:Nat):Int):=zSw (b:=2) (by omega) (by omega)
 have e3:QG .i64 (((4*t:Nat):Int)+(3:Int))=((4*t+3:Nat):Int):=zSw (b:=3) (by omega) (by omega)
 have c0:0≤(t:Int)∧(t:Int)<((64:Nat):Int):=by omega
 have c4:0≤((4*t:Nat):Int)∧((4*t:Nat):Int)<((64:Nat):Int):=by omega
 have c1:0≤((4*t+1:Nat):Int)∧((4*t+1:Nat):Int)<((64:Nat):Int):=by omega
 have c2:0≤((4*t+2:Nat):Int)∧((4*t+2:Nat):Int)<((64:Nat):Int):=by omega
 have c3:0≤((4*t+3:Nat):Int)∧((4*t+3:Nat):Int)<((64:Nat):Int):=by omega
 have cl:True∧t+1≤64:=⟨trivial,by omega⟩
 rw [yA (by omega:(t:Int)<16)]
 simp only [zz,e4,e1,e2,e3,xi c0,xi c4,xi c1,xi c2,xi c3,XV,X0,WB,zas (show 4*t<l.length by omega),zas (show 4*t+1<l.length by omega),zas (show 4*t+2<l.length by omega),zas (show 4*t+3<l.length by omega),zub a0.1 (show l.getD (4*t) 0≤4294967295 by omega),zub a1.1 (show l.getD (4*t+1) 0≤4294967295 by omega),zub a2.1 (show l.getD (4*t+2) 0≤4294967295 by omega),zub a3.1 (show l.getD (4*t+3) 0≤4294967295 by omega),yas a0 a1 a2 a3,xy,hw,zkM (show t<w.length by omega),zfs (show t≤1000000000 by omega)]
 rw [xi cl]
 exact Eq.trans rfl rfl
theorem zYK{β:Type}(L:Nat)(b2:List V){l:List Int}(hl:l.length=64)(hb:∀ x∈l,0≤x∧x≤255)(k0:List V→List V→Option β):∀ (n m t:Nat) (w:List Int),w.length=64→t+m=16→m<n→zdG yi L k0 n (t:Int) (row .u8 l) b2 (row .u32 w)=k0 b2 (row .u32 (zP2 m t l w))
 | 0,m,t,w,_,_,h=>by omega
 | n+1,0,t,w,hw,h1,h=>by
  unfold zdG zfC
  rw [xB (by omega)]; exact Eq.trans rfl rfl
 | n+1,m+1,t,w,hw,h1,h=>by
  unfold zdG
  rw [z4I L (by omega) b2 hl hb hw]
  exact zYK L b2 hl hb k0 n m (t+1) _ (by simpa using hw) (by omega) (by omega)
def ztT(l:List Int):List Int:=zOx 48 16 (zP2 16 0 l (We 64 0))
theorem zm8(l:List Int):(ztT l).length=64:=by
 unfold ztT; rw [z0v,zLW]; rfl
theorem zza(n:Nat)(k:IntKind)(x:Int):We n (V.sc (.int k x))=row k (We n x):=by simp [row]
theorem z6i(n i:Nat):(We n (0:Int)).getD i 0=0:=by
 rw [Ws]
 by_cases hi:i<n
 ·simp [hi]
 ·simp [hi]
theorem zX1{β:Type}{w:List Int}(hw:w.length=64)(z:List Int)(hz:z.length=64)(k:List V→Option β) :
  chk (0+64≤(XK (row .u32 w))) (chk ((XK (XL 64 (row .u32 w)))=64∧0+64≤(XK (row .u32 z))) (
   lt (zq (row .u32 z) 0 (XL 64 (row .u32 w))) fun r41=>chk (0=0∧(XK r41)=64∧64≠0) (k r41)))=k (row .u32 w):=by
 have e:XL 64 (row .u32 w)=row .u32 w:=XE (by rw [xy]; omega)
 rw [zz,e,zdd (by rw [xy,xy]; omega)]
 rw [xi (by rw [xy]; omega),xi ⟨by rw [xy]; omega,by rw [xy]; omega⟩,xi ⟨rfl,by rw [xy]; omega,by decide⟩]
theorem z2g{β:Type}{L:Nat}(hL:100≤L){l:List Int}(hl:l.length=64)(hb:∀ x∈l,0≤x∧x≤255)(k:List V→Option β):xG β L (row .u8 l) k=k (row .u32 (ztT l)):=by
 unfold xG zrr zye
 rw [zza]
 refine (z0T (by omega) _ hl hb _ L 16 0 _ rfl (fun i _=>?_) rfl (by omega)).trans ?_
 ·exact z6i 64 i
 unfold zhx zmP
 refine (zYj L _ _ L 48 16 _ (by rw [zLW]; rfl) (by omega) rfl (by omega)).trans ?_
 unfold zlv
 exact zX1 (zm8 l) _ rfl k
theorem zZS{β:Type}{L:Nat}(hL:100≤L){l:List Int}(hl:l.length=64)(hb:∀ x∈l,0≤x∧x≤255)(k:List V→Option β):zA β L (row .u8 l) k=k (row .u32 (ztT l)):=by
 unfold zA znQ zul
 rw [zza]
 refine (zYK L _ hl hb _ L 16 0 _ rfl rfl (by omega)).trans ?_
 unfold zgc zkt
 refine (zT3 L _ _ L 48 16 _ (by rw [zLW]; rfl) (by omega) rfl (by omega)).trans ?_
 unfold zjV
 exact zX1 (zm8 l) _ rfl k
end
section
def kc:List Int:=gk_sha_k.map fun v=>match v with | .sc (.int _ n)=>n | _=>0
theorem z5D:gk_sha_k=row .u32 kc:=rfl
theorem z5C:kc.length=64:=rfl
def t1(e f g h kk ww:Int):Int:=
 QG .u32 (QG .u32 (QG .u32 (QG .u32 (h+zdR .u32 (zdR .u32 (zhh e 6) (zhh e 11)) (zhh e 25))+zdR .u32 (zhm .u32 e f) (zhm .u32 (z0Y .u32 e) g))+kk)+ww)
def t2(a b c:Int):Int:=
 QG .u32 (zdR .u32 (zdR .u32 (zhh a 2) (zhh a 13)) (zhh a 22)+zdR .u32 (zdR .u32 (zhm .u32 a b) (zhm .u32 a c)) (zhm .u32 b c))
def zCS{γ:Type}(w:List Int)(κ:Int→Int→Int→Int→Int→Int→Int→Int→γ):Nat→Nat→Int→Int→Int→Int→Int→Int→Int→Int→γ
 | 0,_,a,b,c,d,e,f,g,h=>κ a b c d e f g h
 | m+1,t,a,b,c,d,e,f,g,h=>zCS w κ m (t+1) (QG .u32 (t1 e f g h (kc.getD t 0) (w.getD t 0)+t2 a b c)) a b c (QG .u32 (d+t1 e f g h (kc.getD t 0) (w.getD t 0))) e f g
theorem zG5{γ δ:Type}(u:γ→δ)(w:List Int)(κ:Int→Int→Int→Int→Int→Int→Int→Int→γ):∀ (m t:Nat) (a b c d e f g h:Int),zCS w (fun a b c d e f g h=>u (κ a b c d e f g h)) m t a b c d e f g h=u (zCS w κ m t a b c d e f g h)
 | 0,_,_,_,_,_,_,_,_,_=>rfl
 | m+1,t,a,b,c,d,e,f,g,h=>zG5 u w κ m (t+1) _ _ _ _ _ _ _ _
theorem zSd{γ:Type}(u:γ)(w:List Int):∀ (m t:Nat) (a b c d e f g h:Int),zCS w (fun _ _ _ _ _ _ _ _=>u) m t a b c d e f g h=u
 | 0,_,_,_,_,_,_,_,_,_=>rfl
 | m+1,t,a,b,c,d,e,f,g,h=>zSd u w m (t+1) _ _ _ _ _ _ _ _
theorem z4u{β:Type}(L:Nat){t:Nat}(ht:t<64)(a b c d e f g h:Int)(b2:List V)(z0 z1 z2 z3 z4 z5 z6 z7:Int){w:List Int}(hw:w.length=64)(kh:zlq β)(kx:zna β):zfo xG yg L a b c d e f g h (t:Int) b2 z0 z1 z2 z3 z4 z5 z6 z7 (row .u32 w) kh kx=kh (QG .u32 (t1 e f g h (kc.getD t 0) (w.getD t 0)+t2 a b c)) a b c (QG .u32 (d+t1 e f g h (kc.getD t 0) (w.getD t 0))) e f g ((t+1:Nat):Int) b2 z0 z1 z2 z3 z4 z5 z6 z7 (row .u32 w):=by
 unfold zfo
 have c0:0≤(t:Int)∧(t:Int)<((64:Nat):Int):=by omega
 have ek:∀ κ:Int→Option β,cI .u32 (XO t gk_sha_k) 0 κ=κ (kc.getD t 0):=by
  intro κ
  rw [z5D,z66,zas (by rw [XZ,z5C]; omega)]
  simp [Ws]
 rw [yA (by omega:(t:Int)<64)]
 simp only [zz,xi c0,z2E,XV,X0,WB,ek,zas (show t<w.length by omega),zfs (show t≤1000000000 by omega)]
 exact Eq.trans rfl rfl
theorem z33{β:Type}(L:Nat){t:Nat}(ht:t<64)(a b c d e f g h:Int)(b2:List V)(z0 z1 z2 z3 z4 z5 z6 z7:Int){w:List Int}(hw:w.length=64)(kh:zkp β)(kx:zlc β):zeV zA yy yi L a b c d e f g h (t:Int) b2 z0 z1 z2 z3 z4 z5 z6 z7 (row .u32 w) gk_sha_k kh kx=kh (QG .u32 (t1 e f g h (kc.getD t 0) (w.getD t 0)+t2 a b c)) a b c (QG .u32 (d+t1 e f g h (kc.getD t 0) (w.getD t 0))) e f g ((t+1:Nat):Int) b2 z0 z1 z2 z3 z4 z5 z6 z7 (row .u32 w) gk_sha_k:=by
 unfold zeV
 have c0:0≤(t:Int)∧(t:Int)<((64:Nat):Int):=by omega
 have ek:∀ κ:Int→Option β,cI .u32 gk_sha_k t κ=κ (kc.getD t 0):=by
  intro κ
  rw [z5D,zas (by rw [z5C]; omega)]
 rw [yA (by omega:(t:Int)<64)]
 simp only [zz,xi c0,z6r,XV,X0,WB,ek,zas (show t<w.length by omega),zfs (show t≤1000000000 by omega)]
 exact Eq.trans rfl rfl
theorem zYm{β:Type}(L:Nat)(b2:List V)(z0 z1 z2 z3 z4 z5 z6 z7:Int){w:List Int}(hw:w.length=64)(kx:zna β):∀ (n m t:Nat) (a b c d e f g h:Int),t+m=64→m<n→zdI xG yg L kx n a b c d e f g h (t:Int) b2 z0 z1 z2 z3 z4 z5 z6 z7 (row .u32 w)=zCS w (fun a b c d e f g h=>kx a b c d e f g h b2 z0 z1 z2 z3 z4 z5 z6 z7) m t a b c d e f g h
 | 0,m,t,_,_,_,_,_,_,_,_,_,h=>by omega
 | n+1,0,t,a,b,c,d,e,f,g,h,h1,h2=>by
  unfold zdI zfo
  rw [xB (by omega)]; exact Eq.trans rfl rfl
 | n+1,m+1,t,a,b,c,d,e,f,g,h,h1,h2=>by
  unfold zdI
  rw [z4u L (by omega) a b c d e f g h b2 z0 z1 z2 z3 z4 z5 z6 z7 hw]
  exact zYm L b2 z0 z1 z2 z3 z4 z5 z6 z7 hw kx n m (t+1) _ _ _ _ _ _ _ _ (by omega) (by omega)
theorem zVl{β:Type}(L:Nat)(b2:List V)(z0 z1 z2 z3 z4 z5 z6 z7:Int){w:List Int}(hw:w.length=64)(kx:zlc β):∀ (n m t:Nat) (a b c d e f g h:Int),t+m=64→m<n→zc8 zA yy yi L kx n a b c d e f g h (t:Int) b2 z0 z1 z2 z3 z4 z5 z6 z7 (row .u32 w) gk_sha_k=zCS w (fun a b c d e f g h=>kx a b c d e f g h b2 z0 z1 z2 z3 z4 z5 z6 z7) m t a b c d e f g h
 | 0,m,t,_,_,_,_,_,_,_,_,_,h=>by omega
 | n+1,0,t,a,b,c,d,e,f,g,h,h1,h2=>by
  unfold zc8 zeV
  rw [xB (by omega)]; exact Eq.trans rfl rfl
 | n+1,m+1,t,a,b,c,d,e,f,g,h,h1,h2=>by
  unfold zc8
  rw [z33 L (by omega) a b c d e f g h b2 z0 z1 z2 z3 z4 z5 z6 z7 hw]
  exact zVl L b2 z0 z1 z2 z3 z4 z5 z6 z7 hw kx n m (t+1) _ _ _ _ _ _ _ _ (by omega) (by omega)
def zDn(hs:List Int)(a b c d e f g h:Int):List Int:=
 [QG .u32 (hs.getD 0 0+a),QG .u32 (hs.getD 1 0+b),QG .u32 (hs.getD 2 0+c),QG .u32 (hs.getD 3 0+d),QG .u32 (hs.getD 4 0+e),QG .u32 (hs.getD 5 0+f),QG .u32 (hs.getD 6 0+g),QG .u32 (hs.getD 7 0+h)]
def zLx(hs l:List Int):List Int:=
 zCS (ztT l) (zDn hs) 64 0 (hs.getD 0 0) (hs.getD 1 0) (hs.getD 2 0) (hs.getD 3 0) (hs.getD 4 0) (hs.getD 5 0) (hs.getD 6 0) (hs.getD 7 0)
theorem zuB(hs l:List Int):(zLx hs l).length=8:=
 ((zG5 XK (ztT l) (zDn hs) 64 0 _ _ _ _ _ _ _ _).symm).trans (zSd 8 (ztT l) 64 0 _ _ _ _ _ _ _ _)
theorem z6Q{β:Type}(L:Nat){hs:List Int}(hh:hs.length=8)(k:List V→Option β)(a b c d e f g h z0 z1 z2 z3 z4 z5 z6 z7:Int):zgT xG yg L a b c d e f g h (row .u32 hs) z0 z1 z2 z3 z4 z5 z6 z7 k=k (row .u32 (zDn hs a b c d e f g h)):=by
 unfold zgT
 simp only [zz,zas (show 0<hs.length by omega),zas (show 1<hs.length by omega),zas (show 2<hs.length by omega),zas (show 3<hs.length by omega),zas (show 4<hs.length by omega),zas (show 5<hs.length by omega),zas (show 6<hs.length by omega),zas (show 7<hs.length by omega)]
 exact (xi ⟨trivial,rfl,by decide⟩ _).trans rfl
theorem z4F{β:Type}(L:Nat){hs:List Int}(hh:hs.length=8)(k:List V→Option β)(a b c d e f g h z0 z1 z2 z3 z4 z5 z6 z7:Int):zge zA yy yi L a b c d e f g h (row .u32 hs) z0 z1 z2 z3 z4 z5 z6 z7 k=k (row .u32 (zDn hs a b c d e f g h)):=by
 unfold zge
 simp only [zz,zas (show 0<hs.length by omega),zas (show 1<hs.length by omega),zas (show 2<hs.length by omega),zas (show 3<hs.length by omega),zas (show 4<hs.length by omega),zas (show 5<hs.length by omega),zas (show 6<hs.length by omega),zas (show 7<hs.length by omega)]
 exact (xi ⟨trivial,rfl,by decide⟩ _).trans rfl
theorem z19{β:Type}{L:Nat}(hL:100≤L){hs l:List Int}(hh:hs.length=8)(hl:l.length=64)(hb:∀ x∈l,0≤x∧x≤255)(k:List V→Option β):xq β L (row .u32 hs) (row .u8 l) k=k (row .u32 (zLx hs l)):=by
 unfold xq zri zyq
 have e1:XL 64 (row .u8 l)=row .u8 l:=XE (by rw [xy]; omega)
 rw [xi (by rw [xy]; omega),e1]
 refine (z2g hL hl hb _).trans ?_
 rw [xi ⟨by rw [xy,zm8],by decide⟩,zz,zdd (by rw [xy,zm8]; rfl)]
 rw [zas (show 0<hs.length by omega),zas (show 1<hs.length by omega),zas (show 2<hs.length by omega),zas (show 3<hs.length by omega),zas (show 4<hs.length by omega),zas (show 5<hs.length by omega),zas (show 6<hs.length by omega),zas (show 7<hs.length by omega)]
 refine (zYm L (row .u32 hs) 0 0 0 0 0 0 0 0 (zm8 l) _ L 64 0 _ _ _ _ _ _ _ _ rfl (by omega)).trans ?_
 simp only [z6Q L hh]
 exact zG5 (fun r=>k (row .u32 r)) (ztT l) (zDn hs) 64 0 _ _ _ _ _ _ _ _
theorem z0Z{β:Type}(L:Nat)(k:List V→Option β):yy β L k=k gk_sha_k:=by
 unfold yy zsc
 rw [zz]
 exact (xi ⟨rfl,rfl,by decide⟩ _).trans rfl
theorem z1K{β:Type}{L:Nat}(hL:100≤L){hs l:List Int}(hh:hs.length=8)(hl:l.length=64)(hb:∀ x∈l,0≤x∧x≤255)(k:List V→Option β):xm β L (row .u32 hs) (row .u8 l) k=k (row .u32 (zLx hs l)):=by
 unfold xm zn4 zuf
 have e1:XL 64 (row .u8 l)=row .u8 l:=XE (by rw [xy]; omega)
 rw [xi (by rw [xy]; omega),e1]
 refine (zZS hL hl hb _).trans ?_
 refine (z0Z L _).trans ?_
 rw [xi ⟨by rw [xy,zm8],by decide⟩,zz,zdd (cs:=We 64 (Qc (0:Int))) (new:=row .u32 (ztT l)) (by rw [xy,zm8]; rfl)]
 rw [xi ⟨rfl,by decide⟩,zz,zdd (cs:=We 64 (Qc (0:Int))) (new:=gk_sha_k) rfl]
 rw [zas (show 0<hs.length by omega),zas (show 1<hs.length by omega),zas (show 2<hs.length by omega),zas (show 3<hs.length by omega),zas (show 4<hs.length by omega),zas (show 5<hs.length by omega),zas (show 6<hs.length by omega),zas (show 7<hs.length by omega)]
 refine (zVl L (row .u32 hs) 0 0 0 0 0 0 0 0 (zm8 l) _ L 64 0 _ _ _ _ _ _ _ _ rfl (by omega)).trans ?_
 simp only [z4F L hh]
 exact zG5 (fun r=>k (row .u32 r)) (ztT l) (zDn hs) 64 0 _ _ _ _ _ _ _ _
end
section
def zs(n:Nat):Nat:=(64-(n+9) % 64) % 64
def pb(n i:Nat):Int:=QG .u8 (zdB .u64 (QG .u64 ((8:Int)*(n:Int))) ((56-8*i:Nat):Int))
def pbs(n:Nat):Nat→Nat→List Int
 | 0,_=>[]
 | m+1,i=>pb n i::pbs n m (i+1)
theorem z2s(n:Nat):∀ m i:Nat,(pbs n m i).length=m
 | 0,_=>rfl
 | m+1,i=>by rw [pbs,XW,z2s n m]
theorem ztB(n:Int):0≤QG .u8 n∧QG .u8 n≤255:=by
 unfold QG
 simp only [IntKind.signed,Bool.false_and,WP,if_false]
 have h1:=Int.emod_nonneg n (show (2:Int) ^ XH .u8≠0 by decide)
 have h2:=Int.emod_lt_of_pos n (show (0:Int)<2 ^ XH .u8 by decide)
 exact ⟨h1,Int.le_of_lt_add_one h2⟩
theorem z5B(n:Nat):∀ m i:Nat,∀ x∈pbs n m i,0≤x∧x≤255
 | 0,_=>fun x h=>by simp [pbs] at h
 | m+1,i=>fun x h=>by
  rw [pbs,Q9] at h
  rcases h with rfl | h
  ·exact ztB _
  ·exact z5B n m (i+1) x h
def zhN(n:Nat):List Int:=(128::We (zs n) 0)++pbs n 8 0
theorem zEw(n:Nat):(zhN n).length=9+zs n:=by simp [zhN,z2s]; omega
theorem z8H(n:Nat):∀ x∈zhN n,0≤x∧x≤255:=by
 intro x hx
 rw [zhN,QD,Q9] at hx
 rcases hx with (rfl | hx) | hx
 ·exact ⟨by decide,by decide⟩
 ·rw [List.eq_of_mem_replicate hx]; exact ⟨by decide,by decide⟩
 ·exact z5B n 8 0 x hx
theorem zVI(n:Nat):zs n<64:=Nat.mod_lt _ (by decide)
theorem z5f(n:Nat):(n+9+zs n) % 64=0:=by unfold zs; omega
theorem z9Y(n k:Nat)(h:k<zs n):(n+9+k) % 64≠0:=by unfold zs at h; omega
theorem zLF(x:Int):xn 1 1 [V.sc (.int .u8 x)]=xA .u8 [x]:=rfl
theorem z6H{β:Type}(L:Nat){n i:Nat}(hi:i<8)(b:Nat){acc:List Int}(ha:acc.length≤1000000)(kh:Int→Ls→Int→Nat→Option β)(kx:Ls→Nat→Option β):zhR L (n:Int) (xA .u8 acc) (i:Int) b kh kx=kh (n:Int) (xA .u8 (acc++[pb n i])) ((i+1:Nat):Int) b:=by
 unfold zhR
 have e8:QG .i64 ((8:Int)*(i:Int))=((8*i:Nat):Int):=by rw [zbj (by omega) (by omega)]; omega
 have e56:QG .i64 ((56:Int)-((8*i:Nat):Int))=((56-8*i:Nat):Int):=by rw [zbj (by omega) (by omega)]; omega
 rw [yA (by omega:(i:Int)<8)]
 simp only [zz,e8,e56,zLF,zbO,zfs (show i≤1000000000 by omega)]
 rw [xi (by omega),xi (by simp [zN,xo]; omega)]
 exact Eq.trans rfl rfl
theorem z0B{β:Type}(L n b:Nat)(kx:Ls→Nat→Option β):∀ (f m i:Nat) (acc:List Int),i+m=8→m<f→acc.length≤900000+i→zdU L kx f (n:Int) (xA .u8 acc) (i:Int) b=kx (xA .u8 (acc++pbs n m i)) b
 | 0,m,i,acc,_,h,_=>by omega
 | f+1,0,i,acc,h1,h2,h3=>by
  unfold zdU zhR
  rw [xB (by omega),pbs,X5]
 | f+1,m+1,i,acc,h1,h2,h3=>by
  unfold zdU
  rw [z6H L (by omega) b (by omega)]
  refine (z0B L n b kx f m (i+1) _ (by omega) (by omega) (by simp; omega)).trans ?_
  rw [pbs,Wu]; exact Eq.trans rfl rfl
theorem z9J{β:Type}{L:Nat}(hL:100≤L){n:Nat}(hn:n≤100000000)(k k1:Ls→Option β):zG β L (n:Int) k k1=k1 (xA .u8 (zhN n)):=by
 unfold zG zGy zOI
 have z64:=zVI n
 have e0:QG .u64 ((n:Int)+(9:Int))=((n+9:Nat):Int):=by rw [zca (by omega) (by omega)]; omega
 have e1:Ye ((n+9:Nat):Int) (64:Int)=(((n+9) % 64:Nat):Int):=(X6 (n+9) 64).symm
 have e2:QG .u64 ((64:Int)-(((n+9) % 64:Nat):Int))=((64-(n+9) % 64:Nat):Int):=by rw [zca (by omega) (by omega)]; omega
 have e3:Ye ((64-(n+9) % 64:Nat):Int) (64:Int)=((zs n:Nat):Int):=(X6 (64-(n+9) % 64) 64).symm
 have e4:QG .u64 ((1:Int)+((zs n:Nat):Int))=((1+zs n:Nat):Int):=by rw [zca (by omega) (by omega)]; omega
 have e5:QG .u64 ((9:Int)+((zs n:Nat):Int))=((9+zs n:Nat):Int):=by rw [zca (by omega) (by omega)]; omega
 have e6:List.flatten (We (9+zs n) [V.sc (.int .u8 (0:Int))])=row .u8 (We (9+zs n) 0):=by
  rw [List.flatten_replicate_singleton,zza]
 have e7:zq (row .u8 (We (9+zs n) 0)) 0 [V.sc (.int .u8 (128:Int))]=row .u8 (128::We (8+zs n) 0):=by
  rw [zkM (by simp; omega),show 9+zs n=(8+zs n)+1 by omega,List.replicate_succ,List.set_cons_zero]
 simp only [zz,e0,e1,e2,e3,e4,e5,XV,e6,e7]
 rw [xi ⟨by omega,by omega,by simp [xo]; omega,by simp [xo]; omega⟩,xi ⟨by omega,by omega⟩,xi ⟨trivial,by simp [xy]; omega⟩]
 obtain ⟨L',rfl⟩:=X1 hL
 rw [show 100+L'=(99+L')+1 by omega]
 refine (show _=zny (99+L'+1) (n:Int) (1+zs n) (0:Int) (row .u8 (128::We (8+zs n) 0)) (fun p0 p4 p18 b15=>zdU (99+L'+1) (fun p4 b15=>zhu (99+L'+1) p4 b15 k1) (99+L') p0 p4 p18 b15) (fun p4l b15=>zrc (99+L'+1) p4l b15 k) from rfl).trans ?_
 unfold zny
 have e8:QG .i64 ((8:Int)*(0:Int))=((8*0:Nat):Int):=by rw [zbj (by omega) (by omega)]; omega
 have e56:QG .i64 ((56:Int)-((8*0:Nat):Int))=((56-8*0:Nat):Int):=by rw [zbj (by omega) (by omega)]; omega
 have e9:QG .i64 ((0:Int)+(1:Int))=((1:Nat):Int):=zfs (i:=0) (by omega)
 have ec:xn 1 (1+zs n) (row .u8 (128::We (8+zs n) 0))=xA .u8 (128::We (zs n) 0):=by
  rw [zDe _ _ _ (by simp; omega),show 1+zs n=zs n+1 by omega,List.take_succ_cons,List.take_replicate,show min (zs n) (8+zs n)=zs n by omega]
 rw [yA (by decide:(0:Int)<8)]
 simp only [zz,e8,e56,e9,zLF,ec,zbO]
 rw [xi ⟨trivial,by simp [xy]; omega,by simp [xy]⟩,xi (by omega),xi (by simp [zN,xo]; omega)]
 refine (z0B _ n _ _ (99+L') 7 1 _ rfl (by omega) (by simp; omega)).trans ?_
 unfold zhu zhN
 rw [pbs,Wu]; exact Eq.trans rfl rfl
theorem zT5{β:Type}(L:Nat){n:Nat}(hn:n≤100000000)(kx:Int→Ls→Option β):∀ (f m k:Nat),k+m=zs n→m<f→zkN L kx f (n:Int) (xA .u8 (128::We k 0))=kx (n:Int) (xA .u8 (128::We (zs n) 0))
 | 0,m,k,_,h=>by omega
 | f+1,m,k,h1,h2=>by
  have z64:=zVI n
  unfold zkN zvu
  have e0:QG .u64 (((xA .u8 (128::We k 0)).length:Nat):Int)=((k+1:Nat):Int):=by
   rw [zN,XW,XX,zca (by omega) (by omega)]
  have e1:QG .u64 ((n:Int)+((k+1:Nat):Int))=((n+(k+1):Nat):Int):=by rw [zca (by omega) (by omega)]; omega
  have e2:QG .u64 (((n+(k+1):Nat):Int)+(8:Int))=((n+9+k:Nat):Int):=by rw [zca (by omega) (by omega)]; omega
  have e3:Ye ((n+9+k:Nat):Int) (64:Int)=(((n+9+k) % 64:Nat):Int):=(X6 (n+9+k) 64).symm
  simp only [zz,e0,e1,e2,e3]
  rw [zrj]
  match m,h1,h2 with
  | 0,h1,h2=>
   have:k=zs n:=by omega
   subst this
   rw [if_pos (by rw [z5f]; rfl)]
  | m+1,h1,h2=>
   have hz:=z9Y n k (by omega)
   rw [if_neg (by omega)]
   rw [zLF,zbO]
   rw [xi (by simp [zN,xo]; omega)]
   have e4:(128::We k (0:Int))++[0]=128::We (k+1) 0:=by
    rw [X4,List.replicate_succ']
   rw [e4]
   exact zT5 L hn kx f m (k+1) (by omega) (by omega)
theorem z4l{β:Type}(L:Nat){n i:Nat}(hi:i<8){acc:List Int}(ha:acc.length≤1000000)(kh:Int→Ls→Int→Option β)(kx:Ls→Option β):ziP L (n:Int) (xA .u8 acc) ((7:Int)-(i:Int)) kh kx=kh (n:Int) (xA .u8 (acc++[pb n i])) ((7:Int)-((i+1:Nat):Int)):=by
 unfold ziP
 have e8:QG .i64 ((8:Int)*((7:Int)-(i:Int)))=((56-8*i:Nat):Int):=by rw [zbj (by omega) (by omega)]; omega
 have e1:QG .i64 (((7:Int)-(i:Int))-(1:Int))=(7:Int)-((i+1:Nat):Int):=by rw [zbj (by omega) (by omega)]; omega
 rw [yA (by omega:(7:Int)-(i:Int)≥0)]
 simp only [zz,e8,e1,zLF,zbO]
 rw [xi (by omega),xi (by simp [zN,xo]; omega)]
 exact Eq.trans rfl rfl
theorem zYz{β:Type}(L n:Nat)(kx:Ls→Option β):∀ (f m i:Nat) (acc:List Int),i+m=8→m<f→acc.length≤900000+i→zgy L kx f (n:Int) (xA .u8 acc) ((7:Int)-(i:Int))=kx (xA .u8 (acc++pbs n m i))
 | 0,m,i,acc,_,h,_=>by omega
 | f+1,0,i,acc,h1,h2,h3=>by
  unfold zgy ziP
  rw [xB (by omega),pbs,X5]
 | f+1,m+1,i,acc,h1,h2,h3=>by
  unfold zgy
  rw [z4l L (by omega) (by omega)]
  refine (zYz L n kx f m (i+1) _ (by omega) (by omega) (by simp; omega)).trans ?_
  rw [pbs,Wu]; exact Eq.trans rfl rfl
theorem z8p{β:Type}{L:Nat}(hL:100≤L){n:Nat}(hn:n≤100000000)(k:Ls→Option β):xx β L (n:Int) k=k (xA .u8 (zhN n)):=by
 unfold xx zzr zIy
 have z64:=zVI n
 refine (zT5 L hn _ L (zs n) 0 (by omega) (by omega)).trans ?_
 unfold zkJ zsj
 refine (zYz L n _ L 8 0 _ rfl (by omega) (by simp; omega)).trans ?_
 unfold zo5 zhN
 exact Eq.trans rfl rfl
theorem z4m{β:Type}{L:Nat}(hL:100≤L){a b:List Int}(ha:a.length≤1000000000)(hb:b.length≤1000000000)(k:Ls→Option β):xE β L (xn 1 2 [V.sl 1 (xA .u8 a),V.sl 1 (xA .u8 b)]) k=k (xA .u8 (a++b)):=by
 unfold xE zH1 zP5
 obtain ⟨L',rfl⟩:=X1 hL
 have es:xn 1 2 [V.sl 1 (xA .u8 a),V.sl 1 (xA .u8 b)]=[[V.sl 1 (xA .u8 a)],[V.sl 1 (xA .u8 b)]]:=rfl
 rw [es,show 100+L'=(97+L')+1+1+1 by omega]
 refine (show _=zfm (97+L'+1+1+1) [] [[V.sl 1 (xA .u8 a)],[V.sl 1 (xA .u8 b)]] ((2:Nat):Int) ((0:Nat):Int) (fun p3 p6 p7 p8=>zjF (97+L'+1+1+1) _ (97+L'+1+1) p3 p6 p7 p8) (fun p3=>zhq (97+L'+1+1+1) p3 k) from rfl).trans ?_
 unfold zfm
 rw [yA (by decide),xT (c:=[V.sl 1 (xA .u8 a)]) rfl,zoq (sz:=1) (es:=xA .u8 a) rfl,xi (by simp [zN,xo]; omega),zz,XR,zz,zfs (i:=0) (by omega)]
 refine (show _=zfm (97+L'+1+1+1) (xA .u8 a) [[V.sl 1 (xA .u8 a)],[V.sl 1 (xA .u8 b)]] ((2:Nat):Int) ((1:Nat):Int) (fun p3 p6 p7 p8=>zjF (97+L'+1+1+1) _ (97+L'+1) p3 p6 p7 p8) (fun p3=>zhq (97+L'+1+1+1) p3 k) from rfl).trans ?_
 unfold zfm
 rw [yA (by decide),xT (c:=[V.sl 1 (xA .u8 b)]) rfl,zoq (sz:=1) (es:=xA .u8 b) rfl,xi (by simp [zN,xo]; omega),zz,zbO,zz,zfs (i:=1) (by omega)]
 refine (show _=zfm (97+L'+1+1+1) (xA .u8 (a++b)) [[V.sl 1 (xA .u8 a)],[V.sl 1 (xA .u8 b)]] ((2:Nat):Int) ((2:Nat):Int) (fun p3 p6 p7 p8=>zjF (97+L'+1+1+1) _ (97+L') p3 p6 p7 p8) (fun p3=>zhq (97+L'+1+1+1) p3 k) from rfl).trans ?_
 unfold zfm
 rw [xB (by decide)]
 unfold zhq
 exact Eq.trans rfl rfl
end
section
def init0:List Int:=gk_sha_initial.map fun v=>match v with | .sc (.int _ n)=>n | _=>0
theorem zGD:init0.length=8:=rfl
def zP4:Nat→Nat→List Int→List Int→List Int
 | 0,_,_,h=>h
 | m+1,i,p,h=>zP4 m (i+1) p (zLx h ((p.drop (64*i)).take 64))
theorem zSN:∀ (m i:Nat) (p h:List Int),h.length=8→(zP4 m i p h).length=8
 | 0,_,_,_,hh=>hh
 | m+1,i,p,h,hh=>by rw [zP4]; exact zSN m _ _ _ (zuB _ _)
theorem zQb(k:IntKind):∀ l:List Int,List.flatten (xA k l)=row k l
 | []=>rfl
 | x::l=>by
  have:=zQb k l
  simp only [xA,row] at this
  simp only [xA,row,QW,WL,this,List.singleton_append]
theorem zDt{p:List Int}{i:Nat}(h:64*(i+1)≤p.length):((p.drop (64*i)).take 64).length=64:=by
 rw [List.length_take,XZ]; omega
theorem z5i{p:List Int}(hp:∀ x∈p,0≤x∧x≤255)(i:Nat):∀ x∈(p.drop (64*i)).take 64,0≤x∧x≤255:=
 fun x hx=>hp x (WU (WV hx))
theorem z2y(p:List Int)(n:Nat):XL ((xA .u8 p).length-n) (XO n (xA .u8 p))=xA .u8 (p.drop n):=by
 rw [z5r,XE (by rw [zN,zN,XZ]; omega)]
theorem z6Z{β:Type}{L:Nat}(hL:100≤L){p:List Int}(hp:∀ x∈p,0≤x∧x≤255)(hs:p.length≤1000000000){N i:Nat}(hi:i<N)(hN:64*(i+1)≤p.length)(b2:List V){h:List Int}(hh:h.length=8)(kh:Ls→Int→Int→List V→List V→Option β)(kx:List V→List V→Option β):zkI zG xE xq L (xA .u8 p) (N:Int) (i:Int) b2 (row .u32 h) kh kx=kh (xA .u8 p) (N:Int) ((i+1:Nat):Int) b2 (row .u32 (zLx h ((p.drop (64*i)).take 64))):=by
 unfold zkI
 have e9:QG .i64 ((64:Int)*(i:Int))=((64*i:Nat):Int):=by rw [zbj (by omega) (by omega)]; omega
 have e8:XL 8 (row .u32 h)=row .u32 h:=XE (by rw [xy]; omega)
 have ec:XL 64 (row .u8 ((p.drop (64*i)).take 64))=row .u8 ((p.drop (64*i)).take 64):=XE (by rw [xy,zDt hN]; omega)
 rw [yA (by omega:(i:Int)<(N:Int)),xi (by rw [xy]; omega),zz,e9,XV,z2y,zX8,zQb,e8,ec]
 rw [xi ⟨by omega,by rw [zN]; omega⟩,xi (by rw [zN,XZ]; omega)]
 refine (z19 hL hh (zDt hN) (z5i hp i) _).trans ?_
 rw [xi ⟨by rw [xy,zuB],by rw [xy]; omega⟩,zz,zz,zdd (by rw [xy,xy,zuB,hh]),zfs (by omega)]
theorem z0o{β:Type}{L:Nat}(hL:100≤L){p:List Int}(hp:∀ x∈p,0≤x∧x≤255)(hs:p.length≤1000000000){N:Nat}(hN:64*N≤p.length)(b2:List V)(kx:List V→List V→Option β):∀ (f m i:Nat) (h:List Int),h.length=8→i+m=N→m<f→zii zG xE xq L kx f (xA .u8 p) (N:Int) (i:Int) b2 (row .u32 h)=kx b2 (row .u32 (zP4 m i p h))
 | 0,m,i,h,_,_,hf=>by omega
 | f+1,0,i,h,hh,h1,h2=>by
  unfold zii zkI
  rw [xB (by omega)]; exact Eq.trans rfl rfl
 | f+1,m+1,i,h,hh,h1,h2=>by
  unfold zii
  rw [z6Z hL hp hs (by omega) (by omega) b2 hh]
  exact z0o hL hp hs hN b2 kx f m (i+1) _ (zuB _ _) (by omega) (by omega)
theorem z4L{β:Type}{L:Nat}(hL:100≤L){p:List Int}(hp:∀ x∈p,0≤x∧x≤255)(hs:p.length≤1000000000){i:Nat}(hN:64*(i+1)≤p.length)(b2:List V){h:List Int}(hh:h.length=8)(kh:Ls→Int→List V→List V→Option β)(kx:List V→List V→Option β):ziK xx yo xm L (xA .u8 p) ((64*i:Nat):Int) b2 (row .u32 h) kh kx=kh (xA .u8 p) ((64*(i+1):Nat):Int) b2 (row .u32 (zLx h ((p.drop (64*i)).take 64))):=by
 unfold ziK
 have e9:QG .i64 (((64*i:Nat):Int)+(64:Int))=((64*(i+1):Nat):Int):=by rw [zbj (by omega) (by omega)]; omega
 have e8:XL 8 (row .u32 h)=row .u32 h:=XE (by rw [xy]; omega)
 have em:min (xA .u8 (p.drop (64*i))).length 64=64:=by rw [zN,XZ]; omega
 have er:zq (We 64 (Qa (0:Int))) 0 (row .u8 ((p.drop (64*i)).take 64))=row .u8 ((p.drop (64*i)).take 64):=zdd (by rw [xy,zDt hN,XX])
 have ec:XL 64 (row .u8 ((p.drop (64*i)).take 64))=row .u8 ((p.drop (64*i)).take 64):=XE (by rw [xy,zDt hN]; omega)
 rw [zz,e9,yA (by rw [zN]; omega),XV,z2y,em,zX8,zQb,er,e8,zz,ec]
 rw [xi ⟨by omega,by rw [zN]; omega⟩,xi (by rw [xy]; omega),xi (by rw [xy,zDt hN]; omega)]
 refine (z1K hL hh (zDt hN) (z5i hp i) _).trans ?_
 rw [xi ⟨by rw [xy,zuB],by rw [xy]; omega⟩,zz,zz,zdd (by rw [xy,xy,zuB,hh])]
theorem zYd{β:Type}{L:Nat}(hL:100≤L){p:List Int}(hp:∀ x∈p,0≤x∧x≤255)(hs:p.length≤1000000000){N:Nat}(hN:64*N=p.length)(b2:List V)(kx:List V→List V→Option β):∀ (f m i:Nat) (h:List Int),h.length=8→i+m=N→m<f→zgA xx yo xm L kx f (xA .u8 p) ((64*i:Nat):Int) b2 (row .u32 h)=kx b2 (row .u32 (zP4 m i p h))
 | 0,m,i,h,_,_,hf=>by omega
 | f+1,0,i,h,hh,h1,h2=>by
  unfold zgA ziK
  have e9:QG .i64 (((64*i:Nat):Int)+(64:Int))=((64*(i+1):Nat):Int):=by rw [zbj (by omega) (by omega)]; omega
  rw [zz,e9,xB (by rw [zN]; omega)]; exact Eq.trans rfl rfl
 | f+1,m+1,i,h,hh,h1,h2=>by
  unfold zgA
  rw [z4L hL hp hs (by omega) b2 hh]
  exact zYd hL hp hs hN b2 kx f m (i+1) _ (zuB _ _) (by omega) (by omega)
def ob(h:List Int)(i:Nat):Int:=QG .u8 (zdB .u32 (h.getD (i / 4) 0) ((24-i % 4*8:Nat):Int))
def zBq(h:List Int):List Int:=(List.range 32).map (ob h)
theorem zMg(h:List Int):(zBq h).length=32:=by simp [zBq]
theorem z5V(h:List Int){i:Nat}(hi:i<32):(zBq h).getD i 0=ob h i:=by
 simp [zBq,Ws,hi]
theorem z8b(h:List Int):∀ x∈zBq h,0≤x∧x≤255:=by
 intro x hx
 rw [zBq,Xx] at hx
 obtain ⟨i,_,rfl⟩:=hx
 exact ztB _
theorem z7m{l m:List Int}(h:l.length=m.length)(hg:∀ i,i<l.length→l.getD i 0=m.getD i 0):l=m:=by
 apply List.ext_getElem h
 intro i h1 h2
 have:=hg i h1
 rwa [Ws,Ws,Wc h1,Wc h2] at this
theorem z2Y{h z:List Int}(hz:z.length=32)(hg:∀ j,j<32→z.getD j 0=ob h j):z=zBq h:=
 z7m (by rw [hz,zMg]) fun i hi=>by rw [z5V h (by omega)]; exact hg i (by omega)
theorem z4p{β:Type}(L:Nat){i:Nat}(hi:i<32)(b2:List V){h z:List Int}(hh:h.length=8)(hz:z.length=32)(kh:Int→List V→List V→List V→Option β)(kx:List V→List V→Option β):ziC zG xE xq L (i:Int) b2 (row .u32 h) (row .u8 z) kh kx=kh ((i+1:Nat):Int) b2 (row .u32 h) (row .u8 (z.set i (ob h i))):=by
 unfold ziC
 have e1:QG .i64 (Yf (i:Int) (4:Int))=((i / 4:Nat):Int):=by
  rw [show Yf (i:Int) (4:Int)=((i / 4:Nat):Int) from (Int.ofNat_tdiv i 4).symm,zbj (by omega) (by omega)]
 have e2:Ye (i:Int) (4:Int)=((i % 4:Nat):Int):=(X6 i 4).symm
 have e3:QG .i64 (((i % 4:Nat):Int)*(8:Int))=((i % 4*8:Nat):Int):=by rw [zbj (by omega) (by omega)]; omega
 have e4:QG .i64 ((24:Int)-((i % 4*8:Nat):Int))=((24-i % 4*8:Nat):Int):=by rw [zbj (by omega) (by omega)]; omega
 have c1:0≤((i / 4:Nat):Int)∧((i / 4:Nat):Int)<((8:Nat):Int):=by omega
 have c2:0≤(i:Int)∧(i:Int)<((32:Nat):Int):=by omega
 have c3:0≤((24-i % 4*8:Nat):Int):=by omega
 have cl:True∧i+1≤32:=⟨trivial,by omega⟩
 rw [yA (by omega:(i:Int)<32)]
 simp only [zz,e1,e2,e3,e4,xi c1,xi c2,xi c3,XV,X0,WB,zas (show i / 4<h.length by omega),xy,hz,zkM (show i<z.length by omega),zfs (show i≤1000000000 by omega)]
 rw [xi cl]
 exact Eq.trans rfl rfl
theorem zYy{β:Type}(L:Nat)(b2:List V){h:List Int}(hh:h.length=8)(kx:List V→List V→Option β):∀ (f m i:Nat) (z:List Int),z.length=32→i+m=32→m<f→(∀ j,j<i→z.getD j 0=ob h j)→zgx zG xE xq L kx f (i:Int) b2 (row .u32 h) (row .u8 z)=kx b2 (row .u8 (zBq h))
 | 0,m,i,z,_,_,hf,_=>by omega
 | f+1,0,i,z,hz,h1,h2,hg=>by
  unfold zgx ziC
  rw [xB (by omega),z2Y hz fun j hj=>hg j (by omega)]
 | f+1,m+1,i,z,hz,h1,h2,hg=>by
  unfold zgx
  rw [z4p L (by omega) b2 hh hz]
  refine zYy L b2 hh kx f m (i+1) _ (by simpa using hz) (by omega) (by omega) fun j hj=>?_
  by_cases he:i=j
  ·subst he; exact zjB (by omega) _
  ·rw [getD_set_ne he]; exact hg j (by omega)
theorem yah(v:Int):zdB .u32 v ((0:Nat):Int)=v:=by
 unfold zdB
 rw [show min (Int.toNat ((0:Nat):Int)) (XH .u32)=0 from rfl,show (2:Int) ^ 0=1 from rfl,Int.fdiv_one]
theorem z3s{β:Type}(L:Nat){i:Nat}(hi:i<8)(b2:List V){h z:List Int}(hh:h.length=8)(hz:z.length=32)(kh:List V→Int→List V→List V→Option β)(kx:List V→List V→Option β):zhb xx yo xm L (row .u32 h) (i:Int) b2 (row .u8 z) kh kx=kh (row .u32 h) ((i+1:Nat):Int) b2 (row .u8 ((((z.set (4*i) (ob h (4*i))).set (4*i+1) (ob h (4*i+1))).set (4*i+2) (ob h (4*i+2))).set (4*i+3) (ob h (4*i+3)))):=by
 unfold zhb
 have e4:QG .i64 ((4:Int)*(i:Int))=((4*i:Nat):Int):=z3q (by omega)
 have e1:QG .i64 (((4*i:Nat):Int)+(1:Int))=((4*i+1:Nat):Int):=zSw (b:=1) (by omega) (by omega)
 have e2:QG .i64 (((4*i:Nat):Int)+(2:Int))=((4*i+2:Nat):Int):=zSw (b:=2) (by omega) (by omega)
 have e3:QG .i64 (((4*i:Nat):Int)+(3:Int))=((4*i+3:Nat):Int):=zSw (b:=3) (by omega) (by omega)
 have c0:0≤(i:Int)∧(i:Int)<((8:Nat):Int):=by omega
 have c4:0≤((4*i:Nat):Int)∧((4*i:Nat):Int)<((32:Nat):Int):=by omega
 have c1:0≤((4*i+1:Nat):Int)∧((4*i+1:Nat):Int)<((32:Nat):Int):=by omega
 have c2:0≤((4*i+2:Nat):Int)∧((4*i+2:Nat):Int)<((32:Nat):Int):=by omega
 have c3:0≤((4*i+3:Nat):Int)∧((4*i+3:Nat):Int)<((32:Nat):Int):=by omega
 have l0:True∧4*i+1≤32:=⟨trivial,by omega⟩
 have l1:True∧4*i+1+1≤32:=⟨trivial,by omega⟩
 have l2:True∧4*i+2+1≤32:=⟨trivial,by omega⟩
 have l3:True∧4*i+3+1≤32:=⟨trivial,by omega⟩
 have o0:QG .u8 (zdB .u32 (h.getD i 0) (24:Int))=ob h (4*i):=by
  unfold ob; rw [show 4*i / 4=i by omega,show 24-4*i % 4*8=24 by omega]; exact Eq.trans rfl rfl
 have o1:QG .u8 (zdB .u32 (h.getD i 0) (16:Int))=ob h (4*i+1):=by
  unfold ob; rw [show (4*i+1) / 4=i by omega,show 24-(4*i+1) % 4*8=16 by omega]; exact Eq.trans rfl rfl
 have o2:QG .u8 (zdB .u32 (h.getD i 0) (8:Int))=ob h (4*i+2):=by
  unfold ob; rw [show (4*i+2) / 4=i by omega,show 24-(4*i+2) % 4*8=8 by omega]; exact Eq.trans rfl rfl
 have o3:QG .u8 (h.getD i 0)=ob h (4*i+3):=by
  unfold ob; rw [show (4*i+3) / 4=i by omega,show 24-(4*i+3) % 4*8=0 by omega,yah]
 rw [yA (by omega:(i:Int)<8)]
 simp only [zz,e4,e1,e2,e3,xi c0,xi c4,xi c1,xi c2,xi c3,XV,X0,WB,zas (show i<h.length by omega),o0,o1,o2,o3,xy]
 rw [zkM (by omega),zkM (by rw [QI]; omega),zkM (by rw [QI,QI]; omega),zkM (by rw [QI,QI,QI]; omega)]
 simp only [xy,QI,hz,zfs (show i≤1000000000 by omega)]
 rw [xi l0,xi l1,xi l2,xi l3]
theorem zUP{β:Type}(L:Nat)(b2:List V){h:List Int}(hh:h.length=8)(kx:List V→List V→Option β):∀ (f m i:Nat) (z:List Int),z.length=32→i+m=8→m<f→(∀ j,j<4*i→z.getD j 0=ob h j)→zeH xx yo xm L kx f (row .u32 h) (i:Int) b2 (row .u8 z)=kx b2 (row .u8 (zBq h))
 | 0,m,i,z,_,_,hf,_=>by omega
 | f+1,0,i,z,hz,h1,h2,hg=>by
  unfold zeH zhb
  rw [xB (by omega),z2Y hz fun j hj=>hg j (by omega)]
 | f+1,m+1,i,z,hz,h1,h2,hg=>by
  unfold zeH
  rw [z3s L (by omega) b2 hh hz]
  refine zUP L b2 hh kx f m (i+1) _ (by simpa using hz) (by omega) (by omega) fun j hj=>?_
  by_cases h3:4*i+3=j
  ·subst h3; exact zjB (by simp; omega) _
  rw [getD_set_ne h3]
  by_cases h2:4*i+2=j
  ·subst h2; exact zjB (by simp; omega) _
  rw [getD_set_ne h2]
  by_cases h1:4*i+1=j
  ·subst h1; exact zjB (by simp; omega) _
  rw [getD_set_ne h1]
  by_cases h0:4*i=j
  ·subst h0; exact zjB (by omega) _
  rw [getD_set_ne h0]
  exact hg j (by omega)
def zyt(l:List Int):List Int:=zBq (zP4 ((l++zhN l.length).length / 64) 0 (l++zhN l.length) init0)
theorem zbt(l:List Int):(zyt l).length=32:=zMg _
theorem zQH(l:List Int):∀ x∈zyt l,0≤x∧x≤255:=z8b _
theorem z2A(l:List Int):64*((l++zhN l.length).length / 64)=(l++zhN l.length).length:=by
 have:=z5f l.length
 rw [Wm,zEw]; omega
theorem z5J{l:List Int}(h:∀ x∈l,0≤x∧x≤255):∀ x∈l++zhN l.length,0≤x∧x≤255:=by
 intro x hx
 rcases QD.1 hx with hx | hx
 ·exact h x hx
 ·exact z8H _ x hx
theorem z3c{β:Type}{w:List Int}(hw:w.length=32)(z:List Int)(hz:z.length=32)(k:List V→Option β) :
  chk (0+32≤(XK (row .u8 w))) (chk ((XK (XL 32 (row .u8 w)))=32∧0+32≤(XK (row .u8 z))) (
   lt (zq (row .u8 z) 0 (XL 32 (row .u8 w))) fun r41=>chk (0=0∧(XK r41)=32∧32≠0) (k r41)))=k (row .u8 w):=by
 have e:XL 32 (row .u8 w)=row .u8 w:=XE (by rw [xy]; omega)
 rw [zz,e,zdd (by rw [xy,xy]; omega)]
 rw [xi (by rw [xy]; omega),xi ⟨by rw [xy]; omega,by rw [xy]; omega⟩,xi ⟨rfl,by rw [xy]; omega,by decide⟩]
theorem zV2{β:Type}{L:Nat}{l:List Int}(hL:l.length+200≤L)(hl:l.length≤100000000)(hb:∀ x∈l,0≤x∧x≤255)(k:List V→Option β):zaq β L (xA .u8 l) k=k (row .u8 (zyt l)):=by
 unfold zaq zHR zOQ
 have z64:=zVI l.length
 have hm:=z2A l
 have hlen:(l++zhN l.length).length=l.length+(9+zs l.length):=by rw [Wm,zEw]
 have e0:QG .u64 (((xA .u8 l).length:Nat):Int)=(l.length:Int):=by rw [zN,zca (by omega) (by omega)]
 rw [zz,e0]
 refine (z9J (by omega) hl _ _).trans ?_
 refine (z4m (by omega) (by omega) (by rw [zEw]; omega) _).trans ?_
 have e1:zq [V.sc (.int .u32 (0:Int)),V.sc (.int .u32 (0:Int)),V.sc (.int .u32 (0:Int)),V.sc (.int .u32 (0:Int)),V.sc (.int .u32 (0:Int)),V.sc (.int .u32 (0:Int)),V.sc (.int .u32 (0:Int)),V.sc (.int .u32 (0:Int))] 0 (XL 8 gk_sha_initial)=row .u32 init0:=(zdd rfl).trans rfl
 have e2:QG .i64 (Yf (((xA .u8 (l++zhN l.length)).length:Nat):Int) (64:Int))=(((l++zhN l.length).length / 64:Nat):Int):=by
  rw [zN,show Yf (((l++zhN l.length).length:Nat):Int) (64:Int)=(((l++zhN l.length).length / 64:Nat):Int) from (Int.ofNat_tdiv _ 64).symm,zbj (by omega) (by omega)]
 rw [xi ⟨rfl,by decide⟩,zz,e1,zz,e2]
 refine (z0o (by omega) (z5J hb) (by omega) (by omega) _ _ L ((l++zhN l.length).length / 64) 0 _ zGD (by omega) (by omega)).trans ?_
 unfold zkB zsK
 rw [zza]
 refine (zYy L _ (zSN _ _ _ _ zGD) _ L 32 0 _ XX rfl (by omega) (fun j hj=>by omega)).trans ?_
 unfold zo0
 exact z3c (zMg _) _ XX k
theorem z34{β:Type}(L:Nat)(k:List V→Option β):yo β L k=k (row .u32 init0):=by
 unfold yo zwV
 rw [zz]
 exact (xi ⟨rfl,rfl,by decide⟩ _).trans rfl
theorem zQF{β:Type}{L:Nat}{l:List Int}(hL:l.length+200≤L)(hl:l.length≤100000000)(hb:∀ x∈l,0≤x∧x≤255)(k:List V→Option β):zY β L (xA .u8 l) k=k (row .u8 (zyt l)):=by
 unfold zY zzk zI3
 have z64:=zVI l.length
 have hm:=z2A l
 have hlen:(l++zhN l.length).length=l.length+(9+zs l.length):=by rw [Wm,zEw]
 have e0:QG .u64 (((xA .u8 l).length:Nat):Int)=(l.length:Int):=by rw [zN,zca (by omega) (by omega)]
 rw [xi (by simp [zN,xo]; omega),zz,XR,zz,e0]
 refine (z8p (by omega) hl _).trans ?_
 rw [xi (by simp [zN,zEw,xo]; omega),zz,zbO]
 refine (z34 L _).trans ?_
 have e1:zq [V.sc (.int .u32 (0:Int)),V.sc (.int .u32 (0:Int)),V.sc (.int .u32 (0:Int)),V.sc (.int .u32 (0:Int)),V.sc (.int .u32 (0:Int)),V.sc (.int .u32 (0:Int)),V.sc (.int .u32 (0:Int)),V.sc (.int .u32 (0:Int))] 0 (row .u32 init0)=row .u32 init0:=zdd rfl
 rw [xi ⟨rfl,by decide⟩,zz,e1]
 refine (zYd (by omega) (z5J hb) (by omega) hm _ _ L ((l++zhN l.length).length / 64) 0 _ zGD (by omega) (by omega)).trans ?_
 unfold zjw zoP
 have hb8:=zSN ((l++zhN l.length).length / 64) 0 (l++zhN l.length) init0 zGD
 rw [xi (by rw [xy,hb8]; omega),XE (by rw [xy,hb8]; omega),zza]
 refine (zUP L _ hb8 _ L 8 0 _ XX rfl (by omega) (fun j hj=>by omega)).trans ?_
 unfold zma
 exact z3c (zMg _) _ XX k
def zQa(l:List Int):List Int:=zyt (zyt l)
theorem zLv(l:List Int):(zQa l).length=32:=zbt _
theorem z8J(l:List Int):∀ x∈zQa l,0≤x∧x≤255:=zQH _
theorem zrv{w:List Int}(hw:w.length=32):zq (We 32 (Qa (0:Int))) 0 (row .u8 w)=row .u8 w:=zdd (by rw [xy,hw,XX])
theorem z2B{w:List Int}(hw:w.length=32):List.isEmpty (row .u8 w)=false:=by
 rw [List.isEmpty_eq_false_iff]; intro h
 have:=congrArg XK h
 rw [xy,hw] at this; cases this
theorem zYb{β:Type}{L:Nat}{l:List Int}(hL:l.length+300≤L)(hl:l.length≤100000000)(hb:∀ x∈l,0≤x∧x≤255)(k:List V→Option β):zaU β L (xA .u8 l) k=k (row .u8 (zQa l)):=by
 unfold zaU zEB
 have ec:xn 1 32 (row .u8 (zyt l))=xA .u8 (zyt l):=by
  rw [zDe _ _ _ (by rw [zbt]; omega),XE (by rw [zbt]; omega)]
 refine (zV2 (by omega) hl hb _).trans ?_
 rw [xi ⟨by rw [xy,zbt],by decide⟩,zz,zrv (zbt l),xi (by rw [xy,zbt]; omega),z2B (zbt l),zbH,ec]
 refine (zV2 (by rw [zbt]; omega) (by rw [zbt]; omega) (zQH l) _).trans ?_
 rw [xi ⟨by rw [xy,zbt],by decide⟩,zz,zrv (zbt _),xi ⟨rfl,by rw [xy,zbt],by decide⟩]
 exact Eq.trans rfl rfl
theorem zLC{β:Type}{L:Nat}{l:List Int}(hL:l.length+300≤L)(hl:l.length≤100000000)(hb:∀ x∈l,0≤x∧x≤255)(k:List V→Option β):yQ β L (xA .u8 l) k=k (row .u8 (zQa l)):=by
 unfold yQ zya
 have ec:xn 1 32 (row .u8 (zyt l))=xA .u8 (zyt l):=by
  rw [zDe _ _ _ (by rw [zbt]; omega),XE (by rw [zbt]; omega)]
 refine (zQF (by omega) hl hb _).trans ?_
 rw [xi ⟨by rw [xy,zbt],by decide⟩,zz,zrv (zbt l),xi (by rw [xy,zbt]; omega),z2B (zbt l),zbH,ec]
 refine (zQF (by rw [zbt]; omega) (by rw [zbt]; omega) (zQH l) _).trans ?_
 rw [xi ⟨by rw [xy,zbt],by decide⟩,zz,zrv (zbt _),xi ⟨rfl,by rw [xy,zbt],by decide⟩]
 exact Eq.trans rfl rfl
end
section
variable {β:Type}
theorem zmF{a b:List Int}(ha:zda a)(hb:zda b):zda (a++b):=by
 intro x hx
 rcases QD.1 hx with h | h
 ·exact ha x h
 ·exact hb x h
theorem zTS{α:Type}{l:List α}{f:α→List Int}(h:∀ x∈l,zda (f x)):zda (l.flatMap f):=by
 intro x hx
 obtain ⟨y,hy,hx⟩:=List.mem_flatMap.1 hx
 exact h y hy x hx
theorem zEZ{a:Int}{l:List Int}(ha:0≤a∧a≤255)(hl:zda l):zda (a::l):=by
 intro x hx
 rcases Q9.1 hx with rfl | h
 ·exact ha
 ·exact hl x h
theorem zXm:zda []:=fun x hx=>by cases hx
theorem zqi(n:Int)(w:Nat):zda (zh1 n w):=by
 intro x hx
 rw [zh1,Xx] at hx
 obtain ⟨i,_,rfl⟩:=hx
 exact ztB _
theorem zVC(n:Int):zda (szB n):=by
 unfold szB
 split
 ·exact zEZ (ztB _) zXm
 ·split
  ·exact zEZ ⟨by decide,by decide⟩ (zqi _ _)
  ·split
   ·exact zEZ ⟨by decide,by decide⟩ (zqi _ _)
   ·exact zEZ ⟨by decide,by decide⟩ (zqi _ _)
theorem z5t{s:List Int}(h:zda s):zda (bsB s):=zmF (zVC _) h
theorem z5Z{x:Inp}(h:InpOk x):zda (zw9 x):=by
 unfold zw9
 have b:=h.by_
 repeat' (first | exact zXm | refine zEZ (b _ (by decide)) ?_)
theorem zXB{t:TxT}(h:TxOk t)(w:Bool):zda (zmI t w):=by
 unfold zmI
 refine zmF (zmF (zmF (zmF (zmF (zmF (zqi _ _) (zVC _)) (zTS fun x hx=>?_)) (zVC _)) (zTS fun x hx=>?_)) (zqi _ _)) ?_
 ·exact zmF (zmF (z5Z (h.ins x hx)) (zqi _ _)) (zqi _ _)
 ·exact zmF (zqi _ _) (z5t (h.outs x hx).scr)
 ·cases w
  ·exact zXm
  ·exact zTS fun x hx=>zmF (zVC _) (zTS fun y hy=>z5t ((h.ins x hx).wit y hy).1)
theorem zEs{t:TxT}(h:KeptP t)(w:Bool):(zmI t w).length≤3000000:=by
 obtain ⟨q1,q2,q3⟩:=h.lens
 have s1:=zij (t.ins.length:Int)
 have s2:=zij (t.outs.length:Int)
 cases w <;> simp only [zmI,Wm,zbu,if_true,WP,if_false,XY] <;> omega
theorem z1m{L:Nat}(hL:2000≤L){t:TxT}(h:KeptP t)(w:Bool)(k:Ls→Int→Option β):xD β L (zav t) w k=if za6 t=true then k (xA .u8 (zmI t w)) 0 else k (xA .u8 []) 4:=by
 simp only [xD,zJd,zbd,zbv]
 rw [z1s hL h,zYq hL h]
 cases za6 t <;> rfl
def zfJ(t:TxT)(w:Bool):List Int:=if za6 t=true then zQa (zmI t w) else We 32 0
theorem zqQ(t:TxT)(w:Bool):(zfJ t w).length=32:=by
 unfold zfJ; split
 ·exact zLv _
 ·exact XX
theorem zS3(k:List V→Option β):(lt (We 32 (Qa (0:Int))) fun r2=>chk (0=0∧(XK r2)=32∧32≠0) (k r2))=k (row .u8 (We 32 0)):=by
 rw [zz,zza,xi ⟨rfl,by rw [xy,XX],by decide⟩]
theorem zy9{w:List Int}(hw:w.length=32)(k:List V→Option β):chk ((XK (row .u8 w))=32∧0+32≤32) (lt (zq (We 32 (Qa (0:Int))) 0 (row .u8 w)) fun r4=>chk (0=0∧(XK r4)=32∧32≠0) (k r4))=k (row .u8 w):=by
 rw [zz,zrv hw,xi ⟨by rw [xy,hw],by decide⟩,xi ⟨rfl,by rw [xy,hw],by decide⟩]
theorem z0E{L:Nat}(hL:4000000≤L){t:TxT}(ht:TxOk t)(h:KeptP t)(w:Bool)(k:List V→Option β):zag β L (zav t) w k=k (row .u8 (zfJ t w)):=by
 have hl:=zEs h w
 unfold zag zI2
 rw [zbd,zbv,z1m (by omega) h]
 unfold zfJ
 split
 ·rw [zrj,if_pos rfl,zYb (by omega) (by omega) (zXB ht w),zy9 (zLv _)]
 ·rw [zrj,if_neg (by decide),zS3]
theorem yaY{L:Nat}(hL:4000000≤L){t:TxT}(ht:TxOk t)(h:KeptP t)(k:List V→Option β):xk β L (zav t) k=k (row .u8 (zfJ t false)):=by
 unfold xk zW2
 rw [zbd,zbv,z0E hL ht h,zy9 (zqQ _ _)]
theorem z94{L:Nat}(hL:4000000≤L){t:TxT}(ht:TxOk t)(h:KeptP t)(k:List V→Option β):yV β L (zav t) k=k (row .u8 (zfJ t true)):=by
 unfold yV zPK
 rw [zbd,zbv,z0E hL ht h,zy9 (zqQ _ _)]
theorem yaH{L:Nat}(hL:4000000≤L){t:TxT}(ht:TxOk t)(h:KeptP t)(k:List V→Option β):yn β L (zav t) k=k (row .u8 (zfJ t false)):=by
 have hl:=zEs h false
 unfold yn zMr
 rw [zbd,zbv,zAw (by omega) h]
 unfold zfJ
 cases za6 t
 ·rw [if_neg (by decide)]
  exact zS3 k
 ·rw [if_pos rfl]
  rw [Xh,zbH,zbd,zDa (by omega) h,zLC (by omega) (by omega) (zXB ht false),zy9 (zLv _)]
theorem z8A{L:Nat}(hL:4000000≤L){t:TxT}(ht:TxOk t)(h:KeptP t)(k:List V→Option β):yK β L (zav t) k=k (row .u8 (zfJ t true)):=by
 have hl:=zEs h true
 unfold yK zEJ
 rw [zbd,zbv,zAw (by omega) h]
 unfold zfJ
 cases za6 t
 ·rw [if_neg (by decide)]
  exact zS3 k
 ·rw [if_pos rfl]
  rw [Xh,zbH,zbd,zDa (by omega) h,zLC (by omega) (by omega) (zXB ht true),zy9 (zLv _)]
end
section
variable {β:Type}
def znT:List Outp→Int
 | []=>0
 | o::l=>o.val+znT l
theorem zJj:∀ {l:List Outp},(∀ o∈l,0≤o.val)→0≤znT l
 | [],_=>Int.le_refl 0
 | o::l,h=>by
  have h1:=h o (by simp)
  have h2:=zJj (l:=l) (fun x hx=>h x (by simp [hx]))
  simp only [znT]; omega
theorem zZV{l:List Outp}{i:Nat}(h:i<l.length):znT (l.drop i)=l[i].val+znT (l.drop (i+1)):=by
 rw [WQ h]; rfl
theorem zUU{L:Nat}(kr:Bool→Option β)(kx:Option β)(l:List Outp)(hl:l.length≤1000000)(hv:∀ o∈l,0≤o.val):∀ (n i:Nat) (s:Int),i≤l.length→l.length-i<n→0≤s→s≤2100000000000000 →
  zk3 L kr kx n s (l.map zgH) (l.length:Int) (i:Int)=ifb (decide (s+znT (l.drop i)≤2100000000000000)) kx (kr false)
 | 0,i,s,h1,h2,h3,h4=>by omega
 | n+1,i,s,h1,h2,h3,h4=>by
  simp only [zk3,zxi,zz]
  by_cases h:i<l.length
  ·have h5:=hv l[i] (W2 h)
   have h6:=zJj (l:=l.drop (i+1)) (fun x hx=>hv x (WU hx))
   rw [yA (by omega),xT (zuo h)]
   rw [zuE,zm3,zt7]
   simp only [zyw]
   rw [zbj (n:=2100000000000000-s) (by omega) (by omega),zZV h]
   by_cases hb:l[i].val>2100000000000000-s
   ·rw [yA hb,xB (by omega)]
   ·rw [xB hb,zbj (n:=s+l[i].val) (by omega) (by omega),up (by omega),zUU kr kx l hl hv n (i+1) _ (by omega) (by omega) (by omega) (by omega),Int.add_assoc]
  ·rw [xB (by omega),WK (by omega),yA (by simp [znT]; omega)]
theorem z8D{L:Nat}(hL:2000≤L){l:List Outp}(hl:l.length≤1000)(hv:∀ o∈l,0≤o.val)(k:Bool→Option β):zM β L (l.map zgH) k=k (decide (znT l≤2100000000000000)):=by
 simp only [zM,zDf,zLw,QB,zqq,zr3]
 have:=zUU (L:=L) (fun p=>k p) (k true) l (by omega) hv L 0 0 (by omega) (by omega) (by omega) (by omega)
 simp only [XQ,Yd] at this
 refine Eq.trans this ?_
 by_cases h:znT l≤2100000000000000
 ·rw [yA h]; simp [h]
 ·rw [xB h]; simp [h]
def zmg(l:List Inp):Lm:=l.map fun x=>(V.agg (zcW x),V.sc (.bool true))
theorem zT4(x:Inp):∀ (l:List Inp),zrA (V.agg (zcW x)) (zmg l)=some (if l.any (eqP x)=true then some (V.sc (.bool true)) else none)
 | []=>rfl
 | y::l=>by
  have ih:=zT4 x l
  simp only [zmg] at ih
  simp only [zmg,QW,zrA,zkA,zhl,if_true,zFr,X7]
  by_cases hb:eqP x y=true
  ·simp only [hb]; rfl
  ·simp only [Bool.not_eq_true] at hb
   simp only [hb]
   simpa using ih
theorem zUK:∀ (l:List Inp),zrA (V.agg nullrow) (zmg l)=some (if l.any eqN=true then some (V.sc (.bool true)) else none)
 | []=>rfl
 | y::l=>by
  have ih:=zUK l
  simp only [zmg] at ih
  simp only [zmg,QW,zrA,zkA,zhl,zIk,if_true,zFg _ _ _ (z0l y),X7]
  by_cases hb:eqN y=true
  ·simp only [hb]; rfl
  ·simp only [Bool.not_eq_true] at hb
   simp only [hb]
   simpa using ih
theorem zYJ(x:Inp):∀ (l:List Inp),l.any (eqP x)=false→zLz (V.agg (zcW x)) (V.sc (.bool true)) (zmg l)=some (zmg (l++[x]))
 | [],_=>rfl
 | y::l,h=>by
  simp only [X7,Bool.or_eq_false_iff] at h
  have ih:=zYJ x l h.2
  simp only [zmg] at ih
  simp only [zmg,QW,zLz,zkA,zhl,if_true,zFr,h.1,ih,QN,X4]
theorem zVk(x:Inp):zjh 35 (V.agg (zcW x))=true:=by simp [zjh,zhl]
theorem z3h:zjh 35 (V.agg nullrow)=true:=by simp [zjh,zIk]
theorem z1M(x:Inp)(l:List Inp)(k:Bool→Option β):(mAt 35 (V.agg (zcW x)) (zmg l) fun q=>aB (XP q (V.sc (.bool false))) k)=k (l.any (eqP x)):=by
 simp only [mAt,zVk,zT4]
 cases l.any (eqP x) <;> rfl
theorem z6t(l:List Inp)(k:Bool→Option β):(mAt 35 (V.agg nullrow) (zmg l) fun q=>aB (XP q (V.sc (.bool false))) k)=k (l.any eqN):=by
 simp only [mAt,z3h,zUK]
 cases l.any eqN <;> rfl
theorem zX9{x:Inp}{l:List Inp}(h:l.any (eqP x)=false)(k:Lm→Option β):zI1 35 (V.agg (zcW x)) (V.sc (.bool true)) (zmg l) k=k (zmg (l++[x])):=by
 simp only [zI1,zVk,zYJ x l h]
def za8:List Inp→List Inp→Bool
 | _,[]=>false
 | pre,x::l=>pre.any (eqP x)||za8 (pre++[x]) l
theorem z0V{l:List Inp}{i:Nat}(h:i<l.length):za8 (l.take i) (l.drop i)=((l.take i).any (eqP l[i])||za8 (l.take (i+1)) (l.drop (i+1))):=by
 rw [WQ h,za8,XU h]
theorem z4n{L:Nat}(kr:Int→Lm→Option β)(kx:List V→Lm→Option β)(l:List Inp)(hl:l.length≤1000000)(b1:List V)(R:Option β)(hr:∀ m,kr 91 m=R):∀ (n i:Nat),i≤l.length→l.length-i<n →
  zh7 zJ zM zf L kr kx n (l.map zcF) (l.length:Int) (i:Int) b1 (zmg (l.take i))=ifb (za8 (l.take i) (l.drop i)) R (kx b1 (zmg l)):=by
 intro n
 induction n with
 | zero=>intro i h1 h2; omega
 | succ n ih=>
  intro i h1 h2
  simp only [zh7,zrh,zz]
  by_cases h:i<l.length
  ·rw [yA (by omega),xT (zgw h)]
   rw [zeB,zdT,zgs]
   simp only [zuj,zQp,zqu]
   rw [z1M,z0V h]
   cases hd:(l.take i).any (eqP l[i])
   ·rw [zX9 hd,← XU h,up (by omega),ih (i+1) (by omega) (by omega)]
    rfl
   ·rw [hr]; rfl
  ·rw [xB (by omega),WK (by omega),XE (by omega)]; rfl
def zPW(o:Outp):Bool:=decide (o.val>2100000000000000)
theorem zyT{α:Type}{l:List α}{p:α→Bool}{i:Nat}(h:i<l.length):(l.drop i).any p=(p l[i]||(l.drop (i+1)).any p):=by
 rw [WQ h]; rfl
theorem z1W{L:Nat}(kr:Int→Option β)(kx:Int→List V→Option β)(l:List Outp)(hl:l.length≤1000)(hv:∀ o∈l,0≤o.val)(b1:List V):∀ (n i:Nat) (s:Int),i≤l.length→l.length-i<n→0≤s→s≤i*2100000000000000 →
  zgi xb ye za L kr kx n s (l.map zgH) (l.length:Int) (i:Int) b1=ifb ((l.drop i).any zPW) (kr 90) (kx (s+znT (l.drop i)) b1):=by
 intro n
 induction n with
 | zero=>intro i s h1 h2 h3 h4; omega
 | succ n ih=>
  intro i s h1 h2 h3 h4
  simp only [zgi,znJ,zz]
  by_cases h:i<l.length
  ·have h5:=hv l[i] (W2 h)
   rw [yA (by omega),xT (zuo h)]
   rw [zuE,zm3,zt7]
   simp only [zyw]
   rw [zZV h,zyT h]
   by_cases hb:l[i].val>2100000000000000
   ·have hb':zPW l[i]=true:=by simp [zPW,hb]
    rw [yA hb,hb']; rfl
   ·have hb':zPW l[i]=false:=by simp [zPW]; omega
    rw [xB hb,zbj (n:=s+l[i].val) (by omega) (by omega),up (by omega),ih (i+1) _ (by omega) (by omega) (by omega) (by omega),Int.add_assoc,hb']
    rfl
  ·rw [xB (by omega),WK (by omega)]
   simp [znT,ifb]
theorem z22:∀ {l:List Outp},(∀ o∈l,0≤o.val)→l.any zPW=true→znT l>2100000000000000
 | [],_,h=>by simp at h
 | o::l,hv,h=>by
  have h1:=hv o (by simp)
  have h2:=zJj (l:=l) (fun x hx=>hv x (by simp [hx]))
  simp only [X7,Bool.or_eq_true] at h
  simp only [znT]
  rcases h with h | h
  ·simp [zPW] at h; omega
  ·have:=z22 (l:=l) (fun x hx=>hv x (by simp [hx])) h
   omega
theorem z20{L:Nat}(kr:Int→Option β)(kx:Int→Int→List V→Option β)(t:TxT)(hl:t.ins.length≤1000000){i:Nat}(hi:i<t.ins.length)(p42 p43:Int):∀ (n k:Nat),k≤i→i-k<n →
  zb6 xb ye za L kr kx n (i:Int) (k:Int) p42 p43 (zav t)=ifb (((t.ins.take i).drop k).any (eqP t.ins[i])) (kr 91) (kx p42 p43 (zav t))
 | 0,k,h1,h2=>by omega
 | n+1,k,h1,h2=>by
  simp only [zb6,zf0,zz]
  by_cases h:k<i
  ·have hk:k<(t.ins.take i).length:=by simp; omega
   have e:(t.ins.take i)[k]=t.ins[k]'(by omega):=List.getElem_take
   rw [yA (by omega)]
   simp only [zch]
   rw [xT (zgw hi),xT (zgw (i:=k) (by omega)),zqu,zqu,z1N,zyT hk,e]
   cases hq:eqP t.ins[i] (t.ins[k]'(by omega))
   ·rw [up (by omega),z20 kr kx t hl hi p42 p43 n (k+1) (by omega) (by omega)]
    rfl
   ·rfl
  ·rw [xB (by omega),WK (by simp; omega)]; rfl
theorem zYi{L:Nat}(hL:2000≤L)(kr:Int→Option β)(kx:List V→Option β)(t:TxT)(hl:t.ins.length≤1000):∀ (n i:Nat),i≤t.ins.length→t.ins.length-i<n →
  ze0 xb ye za L kx kr n (t.ins.length:Int) (i:Int) (zav t)=ifb (za8 (t.ins.take i) (t.ins.drop i)) (kr 91) (kx (zav t))
 | 0,i,h1,h2=>by omega
 | n+1,i,h1,h2=>by
  simp only [ze0,zgS,zlx,zz]
  by_cases h:i<t.ins.length
  ·rw [yA (by omega),show ((0:Int))=((0:Nat):Int) from rfl,z20 _ _ t (by omega) h _ _ L 0 (by omega) (by omega),z0V h,XQ]
   simp only [ze2,zfk,zz]
   rw [up (by omega),zYi hL kr kx t hl n (i+1) (by omega) (by omega)]
   cases (t.ins.take i).any (eqP t.ins[i]) <;> rfl
  ·rw [xB (by omega),WK (by omega)]; rfl
theorem z3i{L:Nat}(kr:Int→Option β)(kx:Option β)(t:TxT)(hl:t.ins.length≤1000000):∀ (n i:Nat),i≤t.ins.length→t.ins.length-i<n →
  zen xb ye za L kr kx n (t.ins.map zcF) (t.ins.length:Int) (i:Int) (zav t)=ifb ((t.ins.drop i).any eqN&&!(cbB t)) (kr 92) kx:=by
 intro n
 induction n with
 | zero=>intro i h1 h2; omega
 | succ n ih=>
  intro i h1 h2
  simp only [zen,zkx,zz]
  by_cases h:i<t.ins.length
  ·rw [yA (by omega),xT (zgw h)]
   rw [zeB,zdT,zgs]
   simp only [zuj,zQp,zqu]
   rw [z2z,zbd,zbv,zRP,zyT h,up (by omega),ih (i+1) (by omega) (by omega)]
   cases eqN t.ins[i] <;> cases cbB t <;> cases (t.ins.drop (i+1)).any eqN <;> rfl
  ·rw [xB (by omega),WK (by omega)]; rfl
def zeW(t:TxT):Int:=if za6 t=true then (if t.ins.length=0 then 93 else if t.outs.length=0 then 93 else if znT t.outs≤2100000000000000 then (if za8 [] t.ins=true then 91 else if (t.ins.any eqN&&!(cbB t))=true then 92 else 0) else 90) else 4
theorem zZ3{t:TxT}(h:za6 t=true):∀ o∈t.outs,0≤o.val:=by
 simp only [za6,Bool.and_eq_true,List.all_eq_true,okO,decide_eq_true_eq] at h
 exact fun o ho=>(h.1.1.2 o ho).1
theorem z7S{L:Nat}(hL:2000≤L){t:TxT}(hp:KeptP t)(k:Int→Option β):zx β L (zav t) k=k (zeW t):=by
 have hi:=hp.ni
 have ho:=hp.no
 simp only [zx,zDq,zMt]
 rw [zbd,zbv,z1s hL hp]
 simp only [zch,zeI,QB]
 cases hf:za6 t with
 | false=>simp only [zeW,hf]; rfl
 | true=>
  rw [zWn]
  by_cases h1:t.ins.length=0
  ·rw [ze4 (by omega)]; simp [zeW,hf,h1]
  ·rw [zfU (by omega)]
   by_cases h2:t.outs.length=0
   ·rw [ze4 (by omega)]; simp [zeW,hf,h2]
   ·rw [zfU (by omega),z8D hL (by omega) (zZ3 hf)]
    by_cases h3:znT t.outs≤2100000000000000
    ·rw [show decide (znT t.outs≤2100000000000000)=true by simp [h3],zWn]
     rw [show ((0:Int))=((0:Nat):Int) from rfl]
     have:=z4n (β:=β) (L:=L) (fun p2 b23=>zmE zJ zM zf L p2 b23 k) (fun b1 b23=>ziV zJ zM zf L b1 b23 k) t.ins (by omega) (zav t) (k 91) (fun m=>rfl) L 0 (by omega) (by omega)
     refine Eq.trans this ?_
     simp only [X2,XQ]
     cases h4:za8 [] t.ins
     ·rw [zbH]
      simp only [ziV]
      have e:(We 32 (Qa (0:Int))++[(Qc (4294967295:Int))])=nullrow:=by unfold nullrow; rfl
      rw [e,z6t,zbd,zbv,zVp]
      simp only [zeW,hf,h1,h2,h3,h4,if_true,if_false,WP]
      cases t.ins.any eqN <;> cases cbB t <;> rfl
     ·rw [zfj]; simp [zeW,hf,h1,h2,h3,h4]
    ·rw [show decide (znT t.outs≤2100000000000000)=false by simp [h3],z5I]
     simp [zeW,hf,h1,h2,h3]
theorem z6W{L:Nat}(hL:2000≤L){t:TxT}(hp:KeptP t)(k:Int→Option β):yh β L (zav t) k=k (zeW t):=by
 have hi:=hp.ni
 have ho:=hp.no
 simp only [yh,ztI,zBu]
 rw [zbd,zbv,zAw hL hp]
 simp only [zch,zeI,QB]
 cases hf:za6 t with
 | false=>simp only [zeW,hf]; rfl
 | true=>
  rw [zWn]
  by_cases h1:t.ins.length=0
  ·rw [ze4 (by omega)]; simp [zeW,hf,h1]
  ·rw [zfU (by omega)]
   by_cases h2:t.outs.length=0
   ·rw [ze4 (by omega)]; simp [zeW,hf,h2]
   ·rw [zfU (by omega)]
    have hv:=zZ3 hf
    have:=z1W (β:=β) (L:=L) (fun p2=>zgP xb ye za L p2 k) (fun p3 b1=>zeo xb ye za L p3 b1 k) t.outs (by omega) hv (zav t) L 0 0 (by omega) (by omega) (by omega) (by omega)
    refine Eq.trans this ?_
    simp only [XQ,Yd]
    cases h5:t.outs.any zPW
    ·rw [zbH]
     simp only [zeo,zlm,zch,QB]
     by_cases h3:znT t.outs≤2100000000000000
     ·rw [xB (by omega),show ((0:Int))=((0:Nat):Int) from rfl,zYi hL _ _ t (by omega) L 0 (by omega) (by omega)]
      simp only [X2,XQ]
      cases h4:za8 [] t.ins
      ·rw [zbH]
       simp only [zfL,zjR,zch,QB]
       rw [show ((0:Int))=((0:Nat):Int) from rfl,z3i _ _ t (by omega) L 0 (by omega) (by omega),XQ]
       simp only [zip,zjv,zeW,hf,h1,h2,h3,h4,if_true,if_false,WP]
       cases t.ins.any eqN <;> cases cbB t <;> rfl
      ·rw [zfj]
       simp only [zi5,zeW,hf,h1,h2,h3,h4,if_true,if_false]
     ·rw [yA (by omega)]
      simp [zeW,hf,h1,h2,h3]
    ·have h3:=z22 hv h5
     have h3':¬ znT t.outs≤2100000000000000:=by omega
     rw [zfj]
     simp only [zgP,zeW,hf,h1,h2,h3',if_true,if_false]
end
section
variable {β:Type}
structure HdT where
 ver:Int
 prev:List Int
 root:List Int
 tm:Int
 bits:Int
 nonce:Int
def hrow(h:HdT):List V:=V.sc (.int .u32 h.ver)::(row .u8 h.prev++(row .u8 h.root++[V.sc (.int .u32 h.tm),V.sc (.int .u32 h.bits),V.sc (.int .u32 h.nonce)]))
structure HdOk (h:HdT):Prop where
 pl:h.prev.length=32
 rl:h.root.length=32
 pb:zda h.prev
 rb:zda h.root
 ver:0≤h.ver∧h.ver≤4294967295
 tm:0≤h.tm∧h.tm≤4294967295
 bits:0≤h.bits∧h.bits≤4294967295
 nonce:0≤h.nonce∧h.nonce≤4294967295
structure BkT where
 hd:HdT
 txs:List TxT
def zeY(b:BkT):List V:=hrow b.hd++[V.sl 4 (b.txs.map zav)]
theorem zls{h:HdT}(ho:HdOk h):(hrow h).length=68:=by
 simp only [hrow,XW,Wm,xy,ho.pl,ho.rl,XY]
theorem znb{b:BkT}(ho:HdOk b.hd):(zeY b).length=69:=by
 simp only [zeY,Wm,zls ho,XW,XY]
theorem z6B{b:BkT}(ho:HdOk b.hd):(zeY b)[68]?=some (V.sl 4 (b.txs.map zav)):=by
 unfold zeY
 rw [Wt (by rw [zls ho]; omega),zls ho]; rfl
theorem zkS{b:BkT}(ho:HdOk b.hd)(k:Ls→Option β):cLd 4 (zeY b) 68 k=k (b.txs.map zav):=zD6 (z6B ho) k
theorem zX3{b:BkT}(ho:HdOk b.hd):XL 68 (zeY b)=hrow b.hd:=by
 unfold zeY
 rw [← zls ho,List.take_left]
theorem z8m(k:IntKind)(l:List Int):(row k l).map V.dem=row k l:=by
 simp only [row,List.map_map]; rfl
theorem z6a(h:HdT):(hrow h).map V.dem=hrow h:=by
 simp only [hrow,QW,List.map_append,z8m]; rfl
theorem zy0{b:BkT}(ho:HdOk b.hd):List.map V.dem (XL 69 (zeY b))=zeY b:=by
 rw [XE (by rw [znb ho]; omega)]
 simp only [zeY,List.map_append,z6a]; rfl
theorem zmi{b:BkT}(ho:HdOk b.hd)(k:Option β):chk (0+69≤(XK (zeY b))) k=k:=xi (by rw [znb ho]; omega) k
theorem z2o{b:BkT}(ho:HdOk b.hd)(k:Option β):chk (0+68≤(XK (zeY b))) k=k:=xi (by rw [znb ho]; omega) k
theorem zYI{h:HdT}(ho:HdOk h):XL 32 (XO 1 (hrow h))=row .u8 h.prev:=by
 simp only [hrow,X9,XQ]
 exact List.take_left' (by rw [xy,ho.pl])
theorem zPf{h:HdT}(ho:HdOk h):XL 32 (XO 33 (hrow h))=row .u8 h.root:=by
 simp only [hrow,X9]
 rw [List.drop_left' (by rw [xy,ho.pl])]
 exact List.take_left' (by rw [xy,ho.rl])
theorem zX7{b:BkT}(ho:HdOk b.hd):XL 32 (XO 33 (zeY b))=row .u8 b.hd.root:=by
 unfold zeY
 rw [List.drop_append_of_le_length (by rw [zls ho]; omega),List.take_append_of_le_length (by rw [XZ,zls ho]; omega),zPf ho]
theorem z4r(h:HdT)(k:Int→Option β):cI .u32 (hrow h) 0 k=k h.ver:=zjD rfl k
theorem zSq{h:HdT}(ho:HdOk h)(j:Nat):(hrow h)[65+j]?=[V.sc (.int .u32 h.tm),V.sc (.int .u32 h.bits),V.sc (.int .u32 h.nonce)][j]?:=by
 unfold hrow
 rw [show 65+j=(64+j)+1 by omega,List.getElem?_cons_succ,Wt (by rw [xy,ho.pl]; omega),xy,ho.pl,
  Wt (by rw [xy,ho.rl]; omega),xy,ho.rl]
 congr 1; omega
theorem z5H{h:HdT}(ho:HdOk h)(k:Int→Option β):cI .u32 (hrow h) 65 k=k h.tm:=zjD (zSq ho 0) k
theorem z42{h:HdT}(ho:HdOk h)(k:Int→Option β):cI .u32 (hrow h) 66 k=k h.bits:=zjD (zSq ho 1) k
theorem z4X{h:HdT}(ho:HdOk h)(k:Int→Option β):cI .u32 (hrow h) 67 k=k h.nonce:=zjD (zSq ho 2) k
theorem zlC(kd:IntKind):∀ (l:List Int) (n:Nat),l.length=n→xn 1 n (row kd l)=xA kd l
 | [],_,h=>by subst h; rfl
 | x::l,n,h=>by
  obtain ⟨m,rfl⟩:∃ m,n=m+1:=⟨n-1,by simp at h; omega⟩
  have:=zlC kd l m (by simpa using h)
  simp only [row,QW,xn,xA] at this ⊢
  simp [this]
theorem z5u{kd:IntKind}{l:List Int}(h:l≠[]):(row kd l).isEmpty=false:=by
 cases l with
 | nil=>exact absurd rfl h
 | cons x l=>rfl
def hdB(h:HdT):List Int:=zBi h.ver++h.prev++h.root++zBi h.tm++zBi h.bits++zBi h.nonce
theorem zQG{h:HdT}(ho:HdOk h):(hdB h).length=80:=by simp [hdB,zbu,ho.pl,ho.rl]
theorem z2L{L:Nat}{b h:List Int}(hh:h.length=32)(hb:b.length≤900000000000)(k:Ls→Option β):xI β L (xA .u8 b) (row .u8 h) k=k (xA .u8 (b++h)):=by
 simp only [xI,zk4]
 rw [xi (by rw [xy,hh]; omega),z5u (by intro e; rw [e] at hh; cases hh),zbH,zlC _ _ _ hh,zs3 (by omega)]
theorem z0c{L:Nat}{b h:List Int}(hh:h.length=32)(hb:b.length≤900000000000)(k:Ls→Option β):xp β L (xA .u8 b) (row .u8 h) k=k (xA .u8 (b++h)):=by
 simp only [xp,zk0]
 rw [xi (by rw [xy,hh]; omega),z5u (by intro e; rw [e] at hh; cases hh),zbH,zlC _ _ _ hh,zjH (by omega)]
theorem z4x{L:Nat}(hL:20≤L){h:HdT}(ho:HdOk h)(k:Ls→Option β):yq β L (hrow h) k=k (xA .u8 (hdB h)):=by
 have e1:=zbu h.ver
 have e2:=zbu h.tm
 have e3:=zbu h.bits
 simp only [yq,znO]
 rw [z4r,zhf .u8,zDk hL (by simp),XR,xi (by rw [zls ho]; omega),zYI ho,z2L ho.pl (by omega),xi (by rw [zls ho]; omega),zPf ho,z2L ho.rl (by rw [Wm,ho.pl]; omega),
  z5H ho,zDk hL (by simp only [Wm,ho.pl,ho.rl]; omega),z42 ho,zDk hL (by simp only [Wm,ho.pl,ho.rl]; omega),z4X ho,zDk hL (by simp only [Wm,ho.pl,ho.rl]; omega)]
 rfl
theorem z3B{L:Nat}(hL:20≤L){h:HdT}(ho:HdOk h)(k:Ls→Option β):xu β L (hrow h) k=k (xA .u8 (hdB h)):=by
 have e1:=zbu h.ver
 have e2:=zbu h.tm
 have e3:=zbu h.bits
 obtain ⟨m,rfl⟩:∃ m,L=m+4:=⟨L-4,by omega⟩
 simp only [xu,zjt,znB]
 rw [z4r,zhf .u8,zz1 (by omega) (by simp),XR,xi (by rw [zls ho]; omega),zYI ho,z0c ho.pl (by omega),xi (by rw [zls ho]; omega),zPf ho,z0c ho.rl (by rw [Wm,ho.pl]; omega),
  z5H ho,z42 ho,z4X ho]
 have up0:QG .i64 ((0:Int)+1)=1:=rfl
 have up1:QG .i64 ((1:Int)+1)=2:=rfl
 have up2:QG .i64 ((2:Int)+1)=3:=rfl
 have c0:∀ (x y z:Int) (k:Int→Option β),(idx (xn 1 3 [V.sc (.int .u32 x),V.sc (.int .u32 y),V.sc (.int .u32 z)]) 0 fun c7=>cI .u32 c7 0 k)=k x:=fun x y z k=>(zrg (by omega) rfl _).trans (zjD rfl _)
 have c1:∀ (x y z:Int) (k:Int→Option β),(idx (xn 1 3 [V.sc (.int .u32 x),V.sc (.int .u32 y),V.sc (.int .u32 z)]) 1 fun c7=>cI .u32 c7 0 k)=k y:=fun x y z k=>(zrg (by omega) rfl _).trans (zjD rfl _)
 have c2:∀ (x y z:Int) (k:Int→Option β),(idx (xn 1 3 [V.sc (.int .u32 x),V.sc (.int .u32 y),V.sc (.int .u32 z)]) 2 fun c7=>cI .u32 c7 0 k)=k z:=fun x y z k=>(zrg (by omega) rfl _).trans (zjD rfl _)
 have n3:∀ (x y z:Int),(((xn 1 3 [V.sc (.int .u32 x),V.sc (.int .u32 y),V.sc (.int .u32 z)]).length:Nat):Int)=3:=fun x y z=>rfl
 rw [n3]
 rw [zbw,zbZ,yA (by omega),c0,zz1 (by omega) (by simp only [Wm,ho.pl,ho.rl]; omega),zz,up0]
 rw [zbw,zbZ,yA (by omega),c1,zz1 (by omega) (by simp only [Wm,ho.pl,ho.rl]; omega),zz,up1]
 rw [zbw,zbZ,yA (by omega),c2,zz1 (by omega) (by simp only [Wm,ho.pl,ho.rl]; omega),zz,up2]
 rw [zbw,zbZ,xB (by omega)]
 rfl
structure BkOk (b:BkT):Prop where
 hd:HdOk b.hd
 n:b.txs.length≤10000
 tx:∀ t∈b.txs,TxOk t∧KeptP t
def zSu(b:BkT):List Int:=hdB b.hd++szB (b.txs.length:Int)++b.txs.flatMap fun t=>zmI t true
def okK(b:BkT):Bool:=decide (b.txs.length≤256)&&b.txs.all za6&&decide ((zSu b).length≤100000)
theorem zgC{l:List TxT}{i:Nat}(h:i<l.length):(l.map zav)[i]?=some (zav l[i]):=by simp [h]
theorem zcG(x:TxT):XL 4 (zav x)=zav x:=by simp [zav]
theorem zet(x:TxT):zq [(Qc (0:Int)),(V.gs 35 ([]:Ls)),(V.gs 2 ([]:Ls)),(Qc (0:Int))] 0 (zav x)=zav x:=zdd (by rw [zjX]; rfl)
theorem zew(x:TxT)(k:Option β):chk ((XK (XL 4 (zav x)))=4∧0+4≤4) k=k:=xi ⟨by rw [zcG,zjX],by decide⟩ k
theorem z3V{L:Nat}(hL:2000≤L)(kr:Ls→Int→Option β)(kx:Ls→Option β)(l:List TxT)(hl:l.length≤10000)(hk:∀ t∈l,KeptP t):∀ (n i:Nat) (acc:List Int),i≤l.length→l.length-i<n→acc.length≤100+i*3000000 →
  zgg yq ya xD L kr kx n (xA .u8 acc) (l.map zav) (l.length:Int) (i:Int)=ifb ((l.drop i).all za6) (kx (xA .u8 (acc++(l.drop i).flatMap fun t=>zmI t true))) (kr (xA .u8 []) 4):=by
 intro n
 induction n with
 | zero=>intro i acc h1 h2; omega
 | succ n ih=>
  intro i acc h1 h2 h3
  simp only [zgg,zns,zz]
  by_cases h:i<l.length
  ·have hki:=hk l[i] (W2 h)
   have hlen:=zEs hki true
   rw [yA (by omega),xT (zgC h),zew,zcG,zet,zbd,zbv,z1m hL hki,ziq h]
   cases hf:za6 l[i]
   ·rw [if_neg (by decide),zrj,if_neg (by decide)]; rfl
   ·rw [if_pos rfl,zrj,if_pos rfl,xi (by simp only [zN]; unfold xo; omega),zbO,up (by omega),ih (i+1) _ (by omega) (by omega) (by rw [Wm]; omega),zeK h,Wu]
    rfl
  ·rw [xB (by omega),WK (by omega)]
   simp [ifb]
theorem z57{L:Nat}(hL:20000≤L){b:BkT}(ho:BkOk b)(k:Ls→Int→Option β):zn β L (zeY b) k=if okK b=true then k (xA .u8 (zSu b)) 0 else k (xA .u8 []) 4:=by
 have hn:=ho.n
 have hk:∀ t∈b.txs,KeptP t:=fun t ht=>(ho.tx t ht).2
 simp only [zn,zrB,zyW]
 simp only [zkS ho.hd,QB]
 by_cases h1:b.txs.length≤256
 ·rw [xB (by omega),z2o ho.hd,zX3 ho.hd,z4x (by omega) ho.hd,zz,zca (by omega) (by omega),zJm (by omega) (by rw [zQG ho.hd]; omega) (by omega)]
  have hs:=zij (b.txs.length:Int)
  rw [show ((0:Int))=((0:Nat):Int) from rfl,z3V (by omega) _ _ b.txs hn hk L 0 _ (by omega) (by omega) (by rw [Wm,zQG ho.hd]; omega),XQ]
  simp only [zku,zll]
  rw [show hdB b.hd++szB (b.txs.length:Int)++(b.txs.flatMap fun t=>zmI t true)=zSu b from rfl]
  simp only [zN]
  cases hf:b.txs.all za6
  ·rw [zbH,if_neg (by simp [okK,hf])]
  ·rw [zfj]
   by_cases h2:(zSu b).length≤100000
   ·rw [xB (by omega),if_pos (by simp [okK,hf,h1,h2])]; rfl
   ·rw [yA (by omega),if_neg (by simp [okK,h2])]; rfl
 ·rw [yA (by omega),if_neg (by simp [okK,h1])]; rfl
theorem z7l{L:Nat}(hL:2000≤L){t:TxT}(h:KeptP t)(w:Bool)(k:Ls→Int→Option β):yH β L (zav t) w k=if za6 t=true then k (xA .u8 (zmI t w)) 0 else k (xA .u8 []) 4:=by
 unfold yH zyy
 have l4:=zjX t
 rw [xi (by omega),zbv,zAw hL h,zDa hL h]
 cases hf:za6 t with
 | true=>rw [if_pos rfl,Xh,zbH,xi (by omega)]
 | false=>rfl
theorem z3J{L:Nat}(hL:2000≤L)(kx:Ls→Option β)(l:List TxT)(hl:l.length≤10000)(hk:∀ t∈l,KeptP t)(hf:l.all za6=true):∀ (n i:Nat) (acc:List Int),i≤l.length→l.length-i<n→acc.length≤100+i*3000000 →
  zg9 xu xa yH L kx n (xA .u8 acc) (l.map zav) (l.length:Int) (i:Int)=kx (xA .u8 (acc++(l.drop i).flatMap fun t=>zmI t true)):=by
 intro n
 induction n with
 | zero=>intro i acc h1 h2; omega
 | succ n ih=>
  intro i acc h1 h2 h3
  simp only [zg9,zoV,zz]
  by_cases h:i<l.length
  ·have hki:=hk l[i] (W2 h)
   have hlen:=zEs hki true
   rw [yA (by omega),xT (zgC h),zew,zcG,zet,zbd,zbv,z7l hL hki,if_pos (List.all_eq_true.1 hf _ (W2 h)),xi (by simp only [zN]; unfold xo; omega),zbO,up (by omega),ih (i+1) _ (by omega) (by omega) (by rw [Wm]; omega),zeK h,Wu]
  ·rw [xB (by omega),WK (by omega)]
   simp
theorem z5l{L:Nat}(hL:20000≤L){b:BkT}(ho:BkOk b)(hf:b.txs.all za6=true)(k:Ls→Option β):zD β L (zeY b) k=k (xA .u8 (zSu b)):=by
 have hn:=ho.n
 have hk:∀ t∈b.txs,KeptP t:=fun t ht=>(ho.tx t ht).2
 have hs:=zij (b.txs.length:Int)
 simp only [zD,zrm,zyI]
 simp only [zkS ho.hd,QB]
 rw [z2o ho.hd,zX3 ho.hd,z3B (by omega) ho.hd,zz,zca (by omega) (by omega),zFy (by omega) (by rw [zQG ho.hd]; omega) (by omega)]
 rw [show ((0:Int))=((0:Nat):Int) from rfl,z3J (by omega) _ b.txs hn hk hf L 0 _ (by omega) (by omega) (by rw [Wm,zQG ho.hd]; omega),XQ]
 rfl
theorem z1Y{L:Nat}(hL:2000≤L)(kr:Bool→Option β)(kx:List V→Option β)(l:List TxT)(hl:l.length≤10000)(hk:∀ t∈l,KeptP t)(b1:List V):∀ (n i:Nat),i≤l.length→l.length-i<n →
  ziL xb zD L kr kx n (l.map zav) (l.length:Int) (i:Int) b1=ifb ((l.drop i).all za6) (kx b1) (kr false):=by
 intro n
 induction n with
 | zero=>intro i h1 h2; omega
 | succ n ih=>
  intro i h1 h2
  simp only [ziL,zsb,zz]
  by_cases h:i<l.length
  ·have hki:=hk l[i] (W2 h)
   rw [yA (by omega),xT (zgC h),zew,zcG,zet,zbd,zbv,zAw hL hki,ziq h,up (by omega),ih (i+1) (by omega) (by omega)]
   cases za6 l[i] <;> rfl
  ·rw [xB (by omega),WK (by omega)]; rfl
theorem z9R{L:Nat}(hL:20000≤L){b:BkT}(ho:BkOk b)(k:Bool→Option β):zj β L (zeY b) k=k (okK b):=by
 have hn:=ho.n
 have hk:∀ t∈b.txs,KeptP t:=fun t ht=>(ho.tx t ht).2
 simp only [zj,zxb,zEc]
 simp only [zkS ho.hd,QB]
 by_cases h1:b.txs.length≤256
 ·rw [xB (by omega),show ((0:Int))=((0:Nat):Int) from rfl,z1Y (by omega) _ _ b.txs hn hk _ L 0 (by omega) (by omega),XQ]
  simp only [znX,zoW]
  rw [zmi ho.hd,zy0 ho.hd]
  cases hf:b.txs.all za6
  ·rw [zbH]; simp [okK,hf]
  ·rw [zfj,z5l hL ho hf]
   have e:decide ((((xA .u8 (zSu b)).length:Nat):Int)≤100000)=decide ((zSu b).length≤100000):=by
    rw [decide_eq_decide,zN]; omega
   rw [e]
   simp only [okK,hf,h1,decide_true,Bool.true_and]
 ·rw [yA (by omega)]; simp [okK,h1]
end
section
variable {β:Type}
def zQv(a b:List Int):List Int:=zyt ([1]++a++b)
theorem zkW(a b:List Int):(zQv a b).length=32:=zbt _
theorem z6v(a b:List Int):zda (zQv a b):=zQH _
def H32(h:List Int):Prop:=h.length=32∧zda h
theorem z8P(a b:List Int):H32 (zQv a b):=⟨zkW a b,z6v a b⟩
theorem z7v{a b:List Int}(ha:H32 a)(hb:H32 b):∀ x∈[1]++a++b,0≤x∧x≤255:=by
 intro x hx
 simp only [QD,Q9,List.not_mem_nil,or_false] at hx
 rcases hx with (rfl | h) | h
 ·decide
 ·exact ha.2 x h
 ·exact hb.2 x h
theorem z21:xn 1 1 [(Qa (1:Int))]=xA .u8 [1]:=rfl
theorem z0k{w:List Int}(hw:w.length=32)(k:List V→Option β):chk ((XK (row .u8 w))=32∧0+32≤32) (lt (zq (We 32 (Qa (0:Int))) 0 (row .u8 w)) fun r3=>chk (0=0∧(XK r3)=32∧32≠0) (k r3))=k (row .u8 w):=zy9 hw k
theorem z30{L:Nat}(hL:300≤L){a b:List Int}(ha:H32 a)(hb:H32 b)(k:List V→Option β):yt β L (row .u8 a) (row .u8 b) k=k (row .u8 (zQv a b)):=by
 have la:=ha.1
 have lb:=hb.1
 simp only [yt,zAG,zz]
 rw [xi (by rw [xy,la]; omega),zlC _ _ _ la,z21,xi (by simp only [zN,la]; unfold xo; simp),zbO,xi (by rw [xy,lb]; omega),zlC _ _ _ lb,xi (by simp only [zN,Wm,la,lb]; unfold xo; simp),zbO,
  zV2 (by simp [la,lb]; omega) (by simp [la,lb]) (z7v ha hb)]
 exact z0k (zkW a b) k
theorem z4V{L:Nat}(kx:Ls→Option β)(w:List (List Int))(hw:w.length≤1000000)(hs:w.flatten.length≤1000000):∀ (n i:Nat) (acc:List Int),i≤w.length→w.length-i<n→acc.length+((w.drop i).flatten).length≤10000000 →
  ziG zh L kx n (xA .u8 acc) (zj5 w) (w.length:Int) (i:Int)=kx (xA .u8 (acc++(w.drop i).flatten)):=by
 intro n
 induction n with
 | zero=>intro i acc h1 h2; omega
 | succ n ih=>
  intro i acc h1 h2 h3
  simp only [ziG,zsD,zz]
  by_cases h:i<w.length
  ·have e:=WQ h
   rw [e,WL,Wm] at h3
   rw [yA (by omega),xT (zuX h),zoq rfl,zjH (by omega),up (by omega),ih (i+1) _ (by omega) (by omega) (by rw [Wm]; omega),e,WL,Wu]
  ·rw [xB (by omega),WK (by omega)]; simp
theorem yan{L:Nat}(hL:100≤L){a b c:List Int}(h:a.length+b.length+c.length≤100000)(k:Ls→Option β):zao β L (zj5 [a,b,c]) k=k (xA .u8 (a++b++c)):=by
 simp only [zao,zxf,zDD]
 have e:([a,b,c]:List (List Int)).flatten=a++b++c:=by simp
 have:=z4V (L:=L) (fun p=>k p) [a,b,c] (by simp) (by rw [e]; simp; omega) L 0 [] (by omega) (by simp; omega) (by rw [XQ,e]; simp; omega)
 rw [XQ,e,XR] at this
 exact this
theorem z7V{L:Nat}(hL:300≤L){a b:List Int}(ha:H32 a)(hb:H32 b)(k:List V→Option β):yv β L (row .u8 a) (row .u8 b) k=k (row .u8 (zQv a b)):=by
 have la:=ha.1
 have lb:=hb.1
 have key:yv β L (row .u8 a) (row .u8 b) k=chk (0+32*1≤(XK (row .u8 a))) (chk (0+32*1≤(XK (row .u8 b))) (zao β L (xn 1 3 [(V.sl 1 (xn 1 1 [(Qa (1:Int))])),(V.sl 1 (xn 1 32 (row .u8 a))),(V.sl 1 (xn 1 32 (row .u8 b)))]) (fun v6=>zY β L v6 (fun v7=>chk ((XK v7)=32∧0+32≤32) (lt (zq (We 32 (Qa (0:Int))) 0 v7) fun r8=>chk (0=0∧(XK r8)=32∧32≠0) (k r8)))))):=by
  cases a with
  | nil=>cases la
  | cons x xs=>cases b with
   | nil=>cases lb
   | cons y ys=>exact Eq.trans rfl rfl
 rw [key,xi (by rw [xy,la]; omega),xi (by rw [xy,lb]; omega),zlC _ _ _ la,zlC _ _ _ lb,z21]
 rw [show xn 1 3 [V.sl 1 (xA .u8 [1]),V.sl 1 (xA .u8 a),V.sl 1 (xA .u8 b)]=zj5 [[1],a,b] from rfl,yan (by omega) (by simp [la,lb])]
 rw [zQF (by simp [la,lb]; omega) (by simp [la,lb]) (z7v ha hb)]
 exact z0k (zkW a b) k
def zaA(l:List (List Int)):Ls:=l.map (row .u8)
theorem zex(l:List (List Int)):(zaA l).length=l.length:=by simp [zaA]
theorem znj{l:List (List Int)}{i:Nat}(h:i<l.length):(zaA l)[i]?=some (row .u8 l[i]):=by simp [zaA,h]
theorem zux(l m:List (List Int)):zaA l++zaA m=zaA (l++m):=by simp [zaA]
def zdK:List (List Int)→List (List Int)
 | a::b::r=>zQv a b::zdK r
 | l=>l
theorem zG3:∀ l:List (List Int),(zdK l).length=(l.length+1) / 2
 | []=>rfl
 | [_]=>by simp [zdK]
 | a::b::r=>by simp only [zdK,XW,zG3 r]; omega
theorem zMK:∀ {l:List (List Int)},(∀ h∈l,H32 h)→∀ h∈zdK l,H32 h
 | [],h=>by simp [zdK]
 | [_],h=>by simpa [zdK] using h
 | a::b::r,h=>fun x hx=>by
  simp only [zdK] at hx
  rcases Q9.1 hx with rfl | hx
  ·exact z8P a b
  ·exact zMK (l:=r) (fun y hy=>h y (by simp [hy])) x hx
def ziY:Nat→List (List Int)→List (List Int)
 | 0,l=>l
 | n+1,l=>if l.length≤1 then l else ziY n (zdK l)
theorem zHw:∀ (n:Nat) (l:List (List Int)),l.length≤n+1→l≠[]→(ziY n l).length=1
 | 0,l,h,h0=>by have:=WY.2 h0; simp only [ziY]; omega
 | n+1,l,h,h0=>by
  have:=WY.2 h0
  simp only [ziY]
  split
  ·omega
  ·have e:=zG3 l
   exact zHw n (zdK l) (by omega) (fun e0=>by rw [e0] at e; simp at e; omega)
theorem zMx:∀ (n:Nat) {l:List (List Int)},(∀ h∈l,H32 h)→∀ h∈ziY n l,H32 h
 | 0,_,h=>h
 | n+1,l,h=>by
  simp only [ziY]
  split
  ·exact h
  ·exact zMx n (zMK h)
theorem zem{a:List Int}(h:a.length=32):XL 32 (row .u8 a)=row .u8 a:=XE (by rw [xy,h]; omega)
theorem zLo{a:List Int}(h:a.length=32):zq (We 32 (Qa (0:Int))) 0 (row .u8 a)=row .u8 a:=zrv h
theorem zyO{a:List Int}(h:a.length=32):xn 32 1 (row .u8 a)=zaA [a]:=by
 simp only [xn,zem h]; rfl
theorem up2{i:Nat}(h:i≤1000000000):QG .i64 ((i:Int)+2)=((i+2:Nat):Int):=by
 rw [zbj (by omega) (by omega)]; omega
theorem z0m{l:List (List Int)}{i:Nat}(h:i+1<l.length):l.drop i=l[i]'(by omega)::l[i+1]::l.drop (i+2):=by
 rw [WQ (by omega),WQ h]
theorem zYF{l:List (List Int)}{i:Nat}(h:i<l.length)(h2:¬ i+1<l.length):l.drop i=[l[i]]:=by
 rw [WQ h,WK (by omega)]
theorem z9C{L:Nat}(hL:300≤L)(kx:Ls→Ls→Option β)(l:List (List Int))(hl:l.length≤100000)(hk:∀ h∈l,H32 h)(p3:Ls):∀ (n i:Nat) (acc:List (List Int)),i≤l.length+1→l.length+1-i<n→acc.length≤i →
  zcU yt L kx n (zaA l) p3 (zaA acc) (i:Int)=kx p3 (zaA (acc++zdK (l.drop i))):=by
 intro n
 induction n with
 | zero=>intro i acc h1 h2; omega
 | succ n ih=>
  intro i acc h1 h2 h3
  simp only [zcU,zis,zz,zex]
  by_cases h:i<l.length
  ·have hi:=hk l[i] (W2 h)
   rw [yA (by omega),up (by omega)]
   by_cases h':i+1<l.length
   ·have hj:=hk l[i+1] (W2 h')
    rw [yA (by omega),xT (znj h),xT (znj h'),zem hi.1,zem hj.1,z30 hL hi hj,xi ⟨by rw [xy,zkW],by omega⟩,zLo (zkW _ _),zyO (zkW _ _),xi (by simp only [zex,XW,XY]; unfold xo; omega),zux,up2 (by omega)]
    rw [ih (i+2) _ (by omega) (by omega) (by simp; omega),z0m h']
    simp [zdK]
   ·rw [xB (by omega),xT (znj h),zem hi.1,xi ⟨by rw [xy,hi.1],by omega⟩,zLo hi.1,zyO hi.1,xi (by simp only [zex,XW,XY]; unfold xo; omega),zux,up2 (by omega)]
    rw [ih (i+2) _ (by omega) (by omega) (by simp; omega),zYF h h',WK (by omega)]
    simp [zdK]
  ·rw [xB (by omega),WK (by omega)]
   simp [zdK]
theorem z2w{L:Nat}(hL:300000≤L):∀ (n:Nat) (l:List (List Int)) (pre:Ls),l.length≤n+1→l.length≤100000→(∀ h∈l,H32 h)→pre.length+n≤200000→∀ N,n<N →
  ∃ pre',pre'.length≤200000∧∀ kx:Ls→Option β,zde yt L kx N (zaA l) (pre++[[V.sl 32 (zaA l)]])=kx (pre'++[[V.sl 32 (zaA (ziY n l))]])
 | n,l,pre,h1,h2,h3,h4,0,hN=>by omega
 | n,l,pre,h1,h2,h3,h4,N+1,hN=>by
  by_cases h:l.length≤1
  ·refine ⟨pre,by omega,fun kx=>?_⟩
   simp only [zde,zgb,zkg,zex]
   rw [xB (by omega)]
   have:ziY n l=l:=by cases n <;> simp [ziY,h]
   rw [this]
  ·obtain ⟨m,rfl⟩:∃ m,n=m+1:=⟨n-1,by omega⟩
   have e:=zG3 l
   obtain ⟨pre',hpl,hp⟩:=z2w hL m (zdK l) (pre++[[V.sl 32 (zaA l)]]) (by omega) (by omega) (zMK h3) (by simp; omega) N (by omega)
   refine ⟨pre',hpl,fun kx=>?_⟩
   simp only [zde,zgb,zkg,zex]
   rw [yA (by omega)]
   have:=z9C (L:=L) (by omega) (fun p3 p4=>zek yt L p3 p4 (fun p0 p3=>zde yt L kx N p0 p3)) l h2 h3 (pre++[[V.sl 32 (zaA l)]]) L 0 [] (by omega) (by omega) (by simp)
   refine Eq.trans this ?_
   simp only [zek,XQ,XR,zz]
   rw [xi (by rw [show (xn 1 1 [V.sl 32 (zaA (zdK l))]).length=1 from rfl]; simp only [Wm,XW,XY]; unfold xo; omega)]
   have q:ziY (m+1) l=ziY m (zdK l):=by simp only [ziY]; rw [if_neg h]
   rw [q,show xn 1 1 [V.sl 32 (zaA (zdK l))]=[[V.sl 32 (zaA (zdK l))]] from rfl]
   exact hp kx
def zru(l:List (List Int)):List Int:=if l.length=0 then We 32 0 else if l.length>1024 then We 32 0 else (ziY l.length l).headD []
theorem z2n(pre:Ls)(x:List V):(pre++[x])[pre.length]?=some x:=by simp
theorem zLA:We 32 (Qa (0:Int))=row .u8 (We 32 0):=zza 32 .u8 0
theorem z7X{l:List (List Int)}(h:∀ x∈l,H32 x):H32 (zru l):=by
 have z:H32 (We 32 (0:Int)):=⟨by simp,fun x hx=>by rw [(Yb.1 hx).2]; decide⟩
 unfold zru
 split
 ·exact z
 ·split
  ·exact z
  ·have h1:=zHw l.length l (by omega) (fun e=>by simp_all)
   obtain ⟨x,hx⟩:=X3.1 h1
   rw [hx]
   exact zMx l.length h x (by rw [hx]; simp)
theorem yal{L:Nat}(hL:300000≤L){l:List (List Int)}(h:∀ x∈l,H32 x)(hl:l.length≤100000)(k:List V→Option β):zI β L (zaA l) k=k (row .u8 (zru l)):=by
 simp only [zI,zAD,zex]
 by_cases h0:l.length=0
 ·rw [ze4 (by omega),zz,xi (by simp),zLA]; simp [zru,h0]
 ·rw [zfU (by omega)]
  by_cases h1:l.length>1024
  ·rw [yA (by omega),zz,xi (by simp),zLA]; simp [zru,h0,h1]
  ·rw [xB (by omega)]
   have o1:=zHw l.length l (by omega) (fun e=>by simp_all)
   obtain ⟨x,hx⟩:=X3.1 o1
   have hx32:H32 x:=zMx l.length h x (by rw [hx]; simp)
   obtain ⟨pre',hpl,hp⟩:=z2w (β:=β) hL l.length l [] (by omega) hl h (by simp; omega) L (by omega)
   simp only [zaK,zpr,zw7,zmA]
   refine Eq.trans (hp _) ?_
   rw [hx]
   simp only [zz,Wm,XW,XY]
   rw [show QG .i64 ((((pre'.length+(0+1):Nat)):Int)-1)=((pre'.length:Nat):Int) by
    rw [zbj (by omega) (by omega)]; omega,xT (z2n pre' _),zoq rfl,zrg (by omega) rfl,zem hx32.1,xi ⟨by rw [xy,hx32.1],by omega⟩,zLo hx32.1,xi (by rw [xy,hx32.1]; simp)]
   simp [zru,h0,h1,hx]
theorem z9h{L:Nat}(hL:300≤L)(kx:Ls→Ls→Option β)(l:List (List Int))(hl:l.length≤100000)(hk:∀ h∈l,H32 h)(p3:Ls):∀ (n i:Nat) (acc:List (List Int)),i≤l.length+1→l.length+1-i<n→acc.length≤i →
  zdm yv L kx n (zaA l) p3 (zaA acc) (i:Int)=kx p3 (zaA (acc++zdK (l.drop i))):=by
 intro n
 induction n with
 | zero=>intro i acc h1 h2; omega
 | succ n ih=>
  intro i acc h1 h2 h3
  simp only [zdm,zi7,zz,zex]
  by_cases h:i<l.length
  ·have hi:=hk l[i] (W2 h)
   rw [yA (by omega),up (by omega)]
   by_cases h':i+1<l.length
   ·have hj:=hk l[i+1] (W2 h')
    rw [yA (by omega),xT (znj h),xT (znj h'),zem hi.1,zem hj.1,z7V hL hi hj,xi ⟨by rw [xy,zkW],by omega⟩,zLo (zkW _ _),zyO (zkW _ _),xi (by simp only [zex,XW,XY]; unfold xo; omega),zux,up2 (by omega)]
    rw [ih (i+2) _ (by omega) (by omega) (by simp; omega),z0m h']
    simp [zdK]
   ·rw [xB (by omega),xT (znj h),zem hi.1,xi ⟨by rw [xy,hi.1],by omega⟩,zLo hi.1,zyO hi.1,xi (by simp only [zex,XW,XY]; unfold xo; omega),zux,up2 (by omega)]
    rw [ih (i+2) _ (by omega) (by omega) (by simp; omega),zYF h h',WK (by omega)]
    simp [zdK]
  ·rw [xB (by omega),WK (by omega)]
   simp [zdK]
theorem z2O{L:Nat}(hL:300000≤L):∀ (n:Nat) (l:List (List Int)) (pre:Ls),l.length≤n+1→l.length≤100000→(∀ h∈l,H32 h)→pre.length+n≤200000→∀ N,n<N →
  ∃ pre',pre'.length≤200000∧∀ kx:Ls→Option β,zdO yv L kx N (zaA l) (pre++[[V.sl 32 (zaA l)]])=kx (pre'++[[V.sl 32 (zaA (ziY n l))]])
 | n,l,pre,h1,h2,h3,h4,0,hN=>by omega
 | n,l,pre,h1,h2,h3,h4,N+1,hN=>by
  by_cases h:l.length≤1
  ·refine ⟨pre,by omega,fun kx=>?_⟩
   simp only [zdO,zha,zkE,zex]
   rw [xB (by omega)]
   have:ziY n l=l:=by cases n <;> simp [ziY,h]
   rw [this]
  ·obtain ⟨m,rfl⟩:∃ m,n=m+1:=⟨n-1,by omega⟩
   have e:=zG3 l
   obtain ⟨pre',hpl,hp⟩:=z2O hL m (zdK l) (pre++[[V.sl 32 (zaA l)]]) (by omega) (by omega) (zMK h3) (by simp; omega) N (by omega)
   refine ⟨pre',hpl,fun kx=>?_⟩
   simp only [zdO,zha,zkE,zex]
   rw [yA (by omega)]
   have:=z9h (L:=L) (by omega) (fun p3 p4=>zey yv L p3 p4 (fun p0 p3=>zdO yv L kx N p0 p3)) l h2 h3 (pre++[[V.sl 32 (zaA l)]]) L 0 [] (by omega) (by omega) (by simp)
   refine Eq.trans this ?_
   simp only [zey,XQ,XR,zz]
   rw [xi (by rw [show (xn 1 1 [V.sl 32 (zaA (zdK l))]).length=1 from rfl]; simp only [Wm,XW,XY]; unfold xo; omega)]
   have q:ziY (m+1) l=ziY m (zdK l):=by simp only [ziY]; rw [if_neg h]
   rw [q,show xn 1 1 [V.sl 32 (zaA (zdK l))]=[[V.sl 32 (zaA (zdK l))]] from rfl]
   exact hp kx
theorem yaL{L:Nat}(hL:300000≤L){l:List (List Int)}(h:∀ x∈l,H32 x)(hl:l.length≤100000)(k:List V→Option β):xK β L (zaA l) k=k (row .u8 (zru l)):=by
 simp only [xK,zEr,zex]
 by_cases h0:l.length=0
 ·rw [ze4 (by omega),zz,xi (by simp),zLA]; simp [zru,h0]
 ·rw [zfU (by omega)]
  by_cases h1:l.length>1024
  ·rw [yA (by omega),zz,xi (by simp),zLA]; simp [zru,h0,h1]
  ·rw [xB (by omega)]
   have o1:=zHw l.length l (by omega) (fun e=>by simp_all)
   obtain ⟨x,hx⟩:=X3.1 o1
   have hx32:H32 x:=zMx l.length h x (by rw [hx]; simp)
   obtain ⟨pre',hpl,hp⟩:=z2O (β:=β) hL l.length l [] (by omega) hl h (by simp; omega) L (by omega)
   simp only [za0,zrs,zyl,znG]
   refine Eq.trans (hp _) ?_
   rw [hx]
   simp only [zz,Wm,XW,XY]
   rw [show QG .i64 ((((pre'.length+(0+1):Nat)):Int)-1)=((pre'.length:Nat):Int) by
    rw [zbj (by omega) (by omega)]; omega,xT (z2n pre' _),zoq rfl,zrg (by omega) rfl,zem hx32.1,xi ⟨by rw [xy,hx32.1],by omega⟩,zLo hx32.1,xi (by rw [xy,hx32.1]; simp)]
   simp [zru,h0,h1,hx]
end
section
variable {β:Type}
theorem zIl(kd:IntKind):∀ (a b:List Int),a.length=b.length→zbX (row kd a) (row kd b)=some (decide (a=b))
 | [],[],_=>rfl
 | [],y::b,h=>by cases h
 | x::a,[],h=>by cases h
 | x::a,y::b,h=>by
  have ih:=zIl kd a b (by simpa using h)
  simp only [row,QW] at ih ⊢
  simp only [zbX,if_true,ih,QN,Option.some.injEq]
  rw [Bool.eq_iff_iff]
  simp
def zgd:List (List Int)→List Int→Nat→Option Nat
 | [],_,_=>none
 | x::l,h,n=>if x=h then some n else zgd l h (n+1)
def zga:List (List Int)→Nat→Lm
 | [],_=>[]
 | x::l,n=>(V.agg (row .u8 x),V.sc (.int .i64 (n:Int)))::zga l (n+1)
theorem z2q{h:List Int}(hh:h.length=32):∀ (l:List (List Int)) (n:Nat),(∀ x∈l,H32 x)→zrA (V.agg (row .u8 h)) (zga l n)=some ((zgd l h n).map fun j=>V.sc (.int .i64 (j:Int)))
 | [],_,_=>rfl
 | x::l,n,hl=>by
  have hx:=(hl x (by simp)).1
  have ih:=z2q hh l (n+1) (fun y hy=>hl y (by simp [hy]))
  simp only [zga,zrA,zkA,xy,hh,hx,if_true,zIl _ h x (by rw [hh,hx]),zgd]
  by_cases e:x=h
  ·subst e; simp
  ·rw [if_neg e,show decide (h=x)=false by simp [Ne.symm e]]
   exact ih
theorem z5s{h:List Int}(hh:h.length=32):∀ (l:List (List Int)) (n:Nat),(∀ x∈l,H32 x)→zgd l h n=none→zLz (V.agg (row .u8 h)) (Qe ((n+l.length:Nat):Int)) (zga l n)=some (zga (l++[h]) n)
 | [],n,_,_=>rfl
 | x::l,n,hl,hp=>by
  have hx:=(hl x (by simp)).1
  simp only [zgd] at hp
  by_cases e:x=h
  ·rw [if_pos e] at hp; cases hp
  ·rw [if_neg e] at hp
   have ih:=z5s hh l (n+1) (fun y hy=>hl y (by simp [hy])) hp
   rw [show n+1+l.length=n+(x::l).length by simp; omega] at ih
   simp only [zga,X4,zLz,zkA,xy,hh,hx,if_true,zIl _ h x (by rw [hh,hx]),show decide (h=x)=false by simp [Ne.symm e],ih,QN]
theorem zYx{h:List Int}(hh:h.length=32):zjh 34 (V.agg (row .u8 h))=true:=by simp [zjh,xy,hh]
theorem z7E{h:List Int}(hh:h.length=32){l:List (List Int)}(hl:∀ x∈l,H32 x)(k:Bool→Option β)(k2:Int→Option β) :
  (mAt 34 (V.agg (row .u8 h)) (zga l 0) fun q=>aI .i64 (XP q (Qe (0:Int))) fun v=>ifb (Option.isSome q) (k2 v) (k false))=match zgd l h 0 with
   | some j=>k2 (j:Int)
   | none=>k false:=by
 simp only [mAt,zYx hh,z2q hh l 0 hl]
 cases zgd l h 0 with
 | none=>simp only [Option.map_none,Option.getD_none,z7w,XG]; rfl
 | some j=>simp only [QN,Option.getD_some,z7w,Xz]; rfl
theorem z8Z{h:List Int}(hh:h.length=32){l:List (List Int)}(hl:∀ x∈l,H32 x)(hp:zgd l h 0=none){i:Nat}(hi:i=l.length)(k:Lm→Option β):zI1 34 (V.agg (row .u8 h)) (Qe (i:Int)) (zga l 0) k=k (zga (l++[h]) 0):=by
 subst hi
 have:=z5s hh l 0 hl hp
 rw [WB] at this
 simp only [zI1,zYx hh,this]
def zMa:List (List Int)→List (List Int)→Bool
 | _,[]=>false
 | pre,x::l=>(zgd pre x 0).isSome||zMa (pre++[x]) l
def zdj(l:List TxT):List (List Int):=l.map fun t=>zfJ t false
theorem z2R{t:TxT}(h:TxOk t)(w:Bool):H32 (zfJ t w):=by
 refine ⟨zqQ t w,fun x hx=>?_⟩
 unfold zfJ at hx
 split at hx
 ·exact z8J _ x hx
 ·rw [(Yb.1 hx).2]; decide
theorem zZI{l:List TxT}(h:∀ t∈l,TxOk t):∀ x∈zdj l,H32 x:=fun x hx=>by
 obtain ⟨t,ht,rfl⟩:=Xx.1 hx
 exact z2R (h t ht) false
theorem zDu(l:List TxT):(zdj l).length=l.length:=by simp [zdj]
theorem zQt{l:List TxT}{i:Nat}(h:i<l.length):(zdj l)[i]'(by rw [zDu]; exact h)=zfJ l[i] false:=by simp [zdj]
theorem zYe{l:List (List Int)}{i:Nat}(h:i<l.length):zMa (l.take i) (l.drop i)=((zgd (l.take i) l[i] 0).isSome||zMa (l.take (i+1)) (l.drop (i+1))):=by
 rw [WQ h,zMa,XU h]
theorem z52{L:Nat}(hL:4000000≤L)(kr:Int→Lm→Option β)(kx:Ls→Lm→Option β)(l:List TxT)(hl:l.length≤10000)(hk:∀ t∈l,TxOk t∧KeptP t)(p0:Ls)(R:Option β)(hr:∀ m,kr 91 m=R):∀ (n i:Nat),i≤l.length→l.length-i<n →
  zft xk L kr kx n p0 (l.map zav) (l.length:Int) (i:Int) (zga ((zdj l).take i) 0)=ifb (zMa ((zdj l).take i) ((zdj l).drop i)) R (kx p0 (zga (zdj l) 0)):=by
 intro n
 induction n with
 | zero=>intro i h1 h2; omega
 | succ n ih=>
  intro i h1 h2
  simp only [zft,zp5,zz]
  by_cases h:i<l.length
  ·obtain ⟨ht,hki⟩:=hk l[i] (W2 h)
   have h':i<(zdj l).length:=by rw [zDu]; exact h
   have hn:=zqQ l[i] false
   have hh:∀ x∈(zdj l).take i,H32 x:=fun x hx=>zZI (fun t ht=>(hk t ht).1) x (WV hx)
   rw [yA (by omega),xT (zgC h),zew,zcG,zet,zbd,zbv,yaY hL ht hki,xi ⟨by rw [xy,hn],by omega⟩,zrv hn,xi (by rw [xy,hn]; omega),zem hn]
   refine Eq.trans (z7E hn hh (fun _=>chk (0+32≤(XK (row .u8 (zfJ l[i] false)))) (zI1 34 (V.agg (row .u8 (zfJ l[i] false))) (Qe (i:Int)) (zga ((zdj l).take i) 0) fun m6=>zft xk L kr kx n p0 (l.map zav) (l.length:Int) (QG .i64 ((i:Int)+1)) m6)) (fun _=>kr 91 (zga ((zdj l).take i) 0))) ?_
   rw [zYe h',zQt h]
   cases hp:zgd ((zdj l).take i) (zfJ l[i] false) 0 with
   | some j=>simp only [Xz,Bool.true_or]; rw [hr]; rfl
   | none=>
    simp only [XG,Ya]
    rw [xi (by rw [xy,hn]; omega),z8Z hn hh hp (by rw [List.length_take]; omega),up (by omega)]
    have e:(zdj l).take i++[zfJ l[i] false]=(zdj l).take (i+1):=by rw [XU h',zQt h]
    rw [e]
    exact ih (i+1) (by omega) (by omega)
  ·have h':¬ i<(zdj l).length:=by rw [zDu]; exact h
   rw [xB (by omega),WK (by omega),XE (by omega)]; rfl
def zId(ids:List (List Int))(i:Nat)(x:Inp):Bool:=match zgd ids (zw9 x) 0 with
 | some p=>decide (i≤p)
 | none=>false
def zor(ids:List (List Int)):List TxT→Nat→Bool
 | [],_=>false
 | t::l,i=>t.ins.any (zId ids i)||zor ids l (i+1)
theorem z1E{ids:List (List Int)}{l:List TxT}{i:Nat}(h:i<l.length):zor ids (l.drop i) i=(l[i].ins.any (zId ids i)||zor ids (l.drop (i+1)) (i+1)):=by
 rw [WQ h]; rfl
theorem zYs(x:Inp):XL 32 (zcF x)=row .u8 (zw9 x):=by rfl
theorem z2Q(x:Inp)(k:Option β):chk (0+32≤(XK (zcF x))) k=k:=xi (by rw [zuj]; omega) k
theorem z8S{L:Nat}(kr:Int→Lm→Option β)(kx:Ls→Ls→Int→Int→Lm→Option β)(ids:List (List Int))(hh:∀ x∈ids,H32 x)(xs:List Inp)(hl:xs.length≤1000000)(p0 p41:Ls)(i:Nat)(p42 p43:Int):∀ (n j:Nat),j≤xs.length→xs.length-j<n →
  zbf xk L kr kx n p0 (i:Int) p41 p42 p43 (xs.map zcF) (xs.length:Int) (j:Int) (zga ids 0)=ifb ((xs.drop j).any (zId ids i)) (kr 101 (zga ids 0)) (kx p0 p41 p42 p43 (zga ids 0)):=by
 intro n
 induction n with
 | zero=>intro j h1 h2; omega
 | succ n ih=>
  intro j h1 h2
  simp only [zbf,zhT,zz]
  by_cases h:j<xs.length
  ·rw [yA (by omega),xT (zgw h),zeB,zdT,zgs,z2Q,zYs]
   refine Eq.trans (z7E (zqm xs[j]) hh (fun _=>zbf xk L kr kx n p0 (i:Int) p41 p42 p43 (xs.map zcF) (xs.length:Int) (QG .i64 ((j:Int)+1)) (zga ids 0)) (fun v=>ifb (decide (v≥(i:Int))) (kr 101 (zga ids 0)) (zbf xk L kr kx n p0 (i:Int) p41 p42 p43 (xs.map zcF) (xs.length:Int) (QG .i64 ((j:Int)+1)) (zga ids 0)))) ?_
   rw [zyT h,up (by omega),ih (j+1) (by omega) (by omega)]
   unfold zId
   cases hp:zgd ids (zw9 xs[j]) 0 with
   | none=>simp only [Ya]
   | some p=>
    simp only
    by_cases hc:i≤p
    ·rw [yA (by omega),show decide (i≤p)=true by simp [hc],Bool.true_or]; rfl
    ·rw [xB (by omega),show decide (i≤p)=false by simp [hc],Ya]
  ·rw [xB (by omega),WK (by omega)]; rfl
theorem z7j{L:Nat}(hL:2000≤L)(kx:Ls→Lm→Option β)(kr:Int→Lm→Option β)(ids:List (List Int))(hh:∀ x∈ids,H32 x)(l:List TxT)(hl:l.length≤10000)(hk:∀ t∈l,KeptP t)(p0:Ls):∀ (n i:Nat),i≤l.length→l.length-i<n →
  zg7 xk L kx kr n p0 (l.map zav) (l.length:Int) (i:Int) (zga ids 0)=ifb (zor ids (l.drop i) i) (kr 101 (zga ids 0)) (kx p0 (zga ids 0)):=by
 intro n
 induction n with
 | zero=>intro i h1 h2; omega
 | succ n ih=>
  intro i h1 h2
  simp only [zg7,ziX,zoS,zz]
  by_cases h:i<l.length
  ·have hki:=hk l[i] (W2 h)
   have hni:=hki.ni
   rw [yA (by omega),xT (zgC h),zew,zcG,zet]
   simp only [zch,QB]
   rw [show ((0:Int))=((0:Nat):Int) from rfl,z8S _ _ ids hh l[i].ins (by omega) p0 (l.map zav) i _ _ L 0 (by omega) (by omega),XQ]
   simp only [zgn,zgG,zz]
   rw [up (by omega),ih (i+1) (by omega) (by omega),z1E h]
   cases l[i].ins.any (zId ids i) <;> rfl
  ·rw [xB (by omega),WK (by omega)]; rfl
def zgM(l:List TxT):List Inp:=l.flatMap TxT.ins
theorem zIw:∀ (a b pre:List Inp),za8 pre (a++b)=(za8 pre a||za8 (pre++a) b)
 | [],b,pre=>by simp [za8]
 | x::a,b,pre=>by
  simp only [X4,za8]
  rw [zIw a b (pre++[x]),Bool.or_assoc,Wu]; rfl
theorem zYH{l pre:List Inp}{i:Nat}(h:i<l.length):za8 (pre++l.take i) (l.drop i)=((pre++l.take i).any (eqP l[i])||za8 (pre++l.take (i+1)) (l.drop (i+1))):=by
 rw [WQ h,za8,XU h,Wu]
theorem zQK(x:Inp)(k:Option β):chk (0+33≤(XK (zcF x))) k=k:=xi (by rw [zuj]; omega) k
theorem yae{L:Nat}(kr:Int→Lm→Lm→Option β)(kx:Ls→Int→Int→Lm→Lm→Option β)(pre xs:List Inp)(hl:xs.length≤1000000)(p72:Ls)(p73 p74:Int)(b20:Lm)(R:Option β)(hr:∀ m,kr 91 b20 m=R):∀ (n j:Nat),j≤xs.length→xs.length-j<n →
  zcj xk L kr kx n p72 p73 p74 (xs.map zcF) (xs.length:Int) (j:Int) b20 (zmg (pre++xs.take j))=ifb (za8 (pre++xs.take j) (xs.drop j)) R (kx p72 p73 p74 b20 (zmg (pre++xs))):=by
 intro n
 induction n with
 | zero=>intro j h1 h2; omega
 | succ n ih=>
  intro j h1 h2
  simp only [zcj,zgL,zz]
  by_cases h:j<xs.length
  ·rw [yA (by omega),xT (zgw h),zeB,zdT,zgs,zQK,zqu,z1M,zYH h]
   cases hd:(pre++xs.take j).any (eqP xs[j])
   ·rw [zQK,zX9 hd,Wu,← XU h,up (by omega),ih (j+1) (by omega) (by omega)]
    rfl
   ·rw [hr]; rfl
  ·rw [xB (by omega),WK (by omega),XE (by omega)]; rfl
theorem zMb{l:List TxT}{i:Nat}(h:i<l.length):zgM (l.take i)++l[i].ins=zgM (l.take (i+1)):=by
 rw [XU h,zgM,zgM,List.flatMap_append,List.flatMap_cons,List.flatMap_nil,X5]
theorem z1C{l:List TxT}{i:Nat}(h:i<l.length):zgM (l.drop i)=l[i].ins++zgM (l.drop (i+1)):=by
 rw [WQ h]; rfl
theorem z7Y{L:Nat}(hL:2000≤L)(kx:Lm→Lm→Option β)(kr:Int→Lm→Lm→Option β)(l:List TxT)(hl:l.length≤10000)(hk:∀ t∈l,KeptP t)(b20:Lm)(R:Option β)(hr:∀ m,kr 91 b20 m=R):∀ (n i:Nat),i≤l.length→l.length-i<n →
  zdE xk L kx kr n (l.map zav) (l.length:Int) (i:Int) b20 (zmg (zgM (l.take i)))=ifb (za8 (zgM (l.take i)) (zgM (l.drop i))) R (kx b20 (zmg (zgM l))):=by
 intro n
 induction n with
 | zero=>intro i h1 h2; omega
 | succ n ih=>
  intro i h1 h2
  simp only [zdE,zhC,zmo,zz]
  by_cases h:i<l.length
  ·have hki:=hk l[i] (W2 h)
   have hni:=hki.ni
   rw [yA (by omega),xT (zgC h),zew,zcG,zet]
   simp only [zch,QB]
   have q:=yae (L:=L) (fun p2 b20 b71=>zes xk L p2 b20 b71 kr) (fun p72 p73 p74 b20 b71=>zcX xk L p72 p73 p74 b20 b71 (fun p72 p73 p74 b20 b71=>zdE xk L kx kr n p72 p73 p74 b20 b71)) (zgM (l.take i)) l[i].ins (by omega) (l.map zav) (l.length:Int) (i:Int) b20 R (fun m=>hr m) L 0 (by omega) (by omega)
   rw [X2,X5,XQ] at q
   refine Eq.trans q ?_
   rw [zMb h,z1C h,zIw,zMb h]
   simp only [zcX,zz]
   rw [up (by omega),ih (i+1) (by omega) (by omega)]
   cases za8 (zgM (l.take i)) l[i].ins <;> rfl
  ·rw [xB (by omega),WK (by omega),XE (by omega)]; rfl
def zmv(l:List TxT):Int:=if zMa [] (zdj l)=true then 91 else if zor (zdj l) l 0=true then 101 else if za8 [] (zgM l)=true then 91 else 0
theorem z6N{L:Nat}(hL:4000000≤L){l:List TxT}(hl:l.length≤10000)(hk:∀ t∈l,TxOk t∧KeptP t)(k:Int→Option β):yp β L (l.map zav) k=k (zmv l):=by
 have hk2:∀ t∈l,KeptP t:=fun t ht=>(hk t ht).2
 have hh:∀ x∈zdj l,H32 x:=zZI fun t ht=>(hk t ht).1
 simp only [yp,ztQ,zBa,QB]
 have q1:=z52 (L:=L) hL (fun p2 b20=>zmm xk L p2 b20 k) (fun p0 b20=>zfA xk L p0 b20 k) l hl hk (l.map zav) (k 91) (fun m=>rfl) L 0 (by omega) (by omega)
 rw [X2,XQ] at q1
 refine Eq.trans q1 ?_
 unfold zmv
 cases h1:zMa [] (zdj l)
 ·rw [zbH,if_neg (by decide)]
  simp only [zfA,znd,QB]
  rw [show ((0:Int))=((0:Nat):Int) from rfl,z7j (by omega) _ _ (zdj l) hh l hl hk2 _ L 0 (by omega) (by omega),XQ]
  cases h2:zor (zdj l) l 0
  ·rw [zbH,if_neg (by decide)]
   simp only [zhE,zml,QB]
   have q3:=z7Y (L:=L) (by omega) (fun b20 b71=>zkk xk L b20 b71 k) (fun p2 b20 b71=>ziv xk L p2 b20 b71 k) l hl hk2 (zga (zdj l) 0) (k 91) (fun m=>rfl) L 0 (by omega) (by omega)
   rw [X2,XQ] at q3
   refine Eq.trans q3 ?_
   show ifb (za8 [] (zgM l)) (k 91) (k 0)=_
   cases za8 [] (zgM l) <;> rfl
  ·rw [zfj,if_pos rfl]; rfl
 ·rw [zfj,if_pos rfl]
end
end Go.Proofs.YtgmhijonllockaaGreatDoor
