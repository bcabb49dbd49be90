/- Part 13 of the proof of BkA: an abstract machine over plain values, its soundness, and the functions of the program on plain values. -/
import Derived.Test.YtgmhijonllockaaGreatDoorMBkA12
namespace Go.Proofs.YtgmhijonllockaaGreatDoor
set_option maxRecDepth 100000
set_option linter.unusedVariables false
set_option linter.unusedSimpArgs false
open List renaming getD_eq_getElem?_getD->Ws,replicate->We,map_cons->QW,getD_cons_succ->X4,getElem?_eq_getElem->Wc,map_nil->X6,mem_cons->Q9,getElem?_eq_none->Q3,getD_cons_zero->Yb,mem_replicate->Yc
open Nat renaming add->X0,mod->X1,shiftRight->X2,xor->X3,le_of_ble_eq_true->X5,land->X7,shiftLeft->X8,mul->X9
open IntKind renaming wrap->QG
open Int renaming toNat->XM,toNat_natCast->XQ,natCast_emod->Ya
section
def frc{α:Type}(n:Nat)(k:Nat→α):α:=Nat.casesOn (motive:=fun _=>α) n (k 0) (fun m=>k (Nat.succ m))
theorem zo1{α:Type}(n:Nat)(k:Nat→α):frc n k=k n:=by cases n <;> rfl
def zra(a n:Nat):Nat:=Nat.lor (X1 (X8 a (Nat.sub 32 n)) 4294967296) (X2 a n)
def s2N(a b c d:Nat):Nat:=X1 (X0 (X1 (X0 (X1 (X0 a (X3 (X3 (zra b 7) (zra b 18)) (X2 b 3))) 4294967296) c) 4294967296) (X3 (X3 (zra d 17) (zra d 19)) (X2 d 10))) 4294967296
def t1N(e f g h kk ww:Nat):Nat:=X1 (X0 (X1 (X0 (X1 (X0 (X1 (X0 h (X3 (X3 (zra e 6) (zra e 11)) (zra e 25))) 4294967296) (X3 (X7 e f) (X7 (X3 4294967295 e) g))) 4294967296) kk) 4294967296) ww) 4294967296
def t2N(a b c:Nat):Nat:=X1 (X0 (X3 (X3 (zra a 2) (zra a 13)) (zra a 22)) (X3 (X3 (X7 a b) (X7 a c)) (X7 b c))) 4294967296
def zp7:Nat→Nat→List Nat→List Nat
 | 0,_,w=>w
 | m+1,t,w=>frc (s2N (w.getD (t-16) 0) (w.getD (t-15) 0) (w.getD (t-7) 0) (w.getD (t-2) 0)) fun x=>zp7 m (t+1) (w.set t x)
def zyo(l:List Nat)(t:Nat):Nat:=X0 (X9 (X0 (X9 (X0 (X9 (l.getD (4*t) 0) 256) (l.getD (4*t+1) 0)) 256) (l.getD (4*t+2) 0)) 256) (l.getD (4*t+3) 0)
def zsr:Nat→Nat→List Nat→List Nat→List Nat
 | 0,_,_,w=>w
 | m+1,t,l,w=>frc (zyo l t) fun x=>zsr m (t+1) l (w.set t x)
def zhR(l:List Nat):List Nat:=zp7 48 16 (zsr 16 0 l (We 64 0))
def kcN:List Nat:=[1116352408,1899447441,3049323471,3921009573,961987163,1508970993,2453635748,2870763221,3624381080,310598401,607225278,1426881987,1925078388,2162078206,2614888103,3248222580,3835390401,4022224774,264347078,604807628,770255983,1249150122,1555081692,1996064986,2554220882,2821834349,2952996808,3210313671,3336571891,3584528711,113926993,338241895,666307205,773529912,1294757372,1396182291,1695183700,1986661051,2177026350,2456956037,2730485921,2820302411,3259730800,3345764771,3516065817,3600352804,4094571909,275423344,430227734,506948616,659060556,883997877,958139571,1322822218,1537002063,1747873779,1955562222,2024104815,2227730452,2361852424,2428436474,2756734187,3204031479,3329325298]
def zDv(w:List Nat):List Nat→Nat→Nat→Nat→Nat→Nat→Nat→Nat→Nat→Nat→List Nat
 | kk::ks,t,a,b,c,d,e,f,g,h=>frc (t1N e f g h kk (w.getD t 0)) fun x=>frc (X1 (X0 x (t2N a b c)) 4294967296) fun y=>frc (X1 (X0 d x) 4294967296) fun z=>zDv w ks (t+1) y a b c z e f g
 | [],_,a,b,c,d,e,f,g,h=>[a,b,c,d,e,f,g,h]
def zTp:List Nat→List Nat→List Nat
 | x::xs,y::ys=>frc (X1 (X0 x y) 4294967296) fun z=>z::zTp xs ys
 | _,_=>[]
def zQW(hs l:List Nat):List Nat:=zTp hs (zDv (zhR l) kcN 0 (hs.getD 0 0) (hs.getD 1 0) (hs.getD 2 0) (hs.getD 3 0) (hs.getD 4 0) (hs.getD 5 0) (hs.getD 6 0) (hs.getD 7 0))
def goN:List Nat→Nat→Nat→Nat→Nat→Nat→Nat→Nat→Nat→Nat→Nat→Nat→Nat→Nat→Nat→Nat→Nat→Nat→Nat→Nat→Nat→Nat→Nat→Nat→Nat→List Nat
 | [],_,_,_,_,_,_,_,_,_,_,_,_,_,_,_,_,a,b,c,d,e,f,g,h=>[a,b,c,d,e,f,g,h]
 | kk::ks,w0,w1,w2,w3,w4,w5,w6,w7,w8,w9,w10,w11,w12,w13,w14,w15,a,b,c,d,e,f,g,h=>frc (t1N e f g h kk w0) fun x=>frc (X1 (X0 x (t2N a b c)) 4294967296) fun y=>frc (X1 (X0 d x) 4294967296) fun z=>frc (s2N w0 w1 w9 w14) fun v=>goN ks w1 w2 w3 w4 w5 w6 w7 w8 w9 w10 w11 w12 w13 w14 w15 v y a b c z e f g
def zO9:List Nat→List Nat
 | a::b::c::d::r=>frc (X0 (X9 (X0 (X9 (X0 (X9 a 256) b) 256) c) 256) d) fun w=>w::zO9 r
 | _=>[]
def zQO(hs l:List Nat):List Nat:=match hs with
 | a::b::c::d::e::f::g::h::_=>(match zO9 l with
  | w0::w1::w2::w3::w4::w5::w6::w7::w8::w9::w10::w11::w12::w13::w14::w15::_=>zTp hs (goN kcN w0 w1 w2 w3 w4 w5 w6 w7 w8 w9 w10 w11 w12 w13 w14 w15 a b c d e f g h)
  | _=>[])
 | _=>[]
def zQP:Nat→Nat→List Nat→List Nat→List Nat
 | 0,_,_,h=>h
 | m+1,i,p,h=>zQP m (i+1) p (zQO h ((p.drop (64*i)).take 64))
def init0N:List Nat:=[1779033703,3144134277,1013904242,2773480762,1359893119,2600822924,528734635,1541459225]
def zj3(x i:Nat):Nat:=X1 (X2 x i) 256
def zQ7:List Nat→List Nat
 | []=>[]
 | x::xs=>zj3 x 24::zj3 x 16::zj3 x 8::zj3 x 0::zQ7 xs
def z8R(n:Nat):List Nat:=[zj3 (8*n) 56,zj3 (8*n) 48,zj3 (8*n) 40,zj3 (8*n) 32,zj3 (8*n) 24,zj3 (8*n) 16,zj3 (8*n) 8,zj3 (8*n) 0]
def zDB(n:Nat):List Nat:=(128::We (zs n) 0)++z8R n
def zs5(l:List Nat):List Nat:=zQ7 (zQP ((l++zDB l.length).length / 64) 0 (l++zDB l.length) init0N)
def yY(l:List Nat):List Int:=l.map fun (n:Nat)=>(n:Int)
def zj6(l:List Nat):Prop:=∀ x∈l,x<4294967296
theorem z1I(n:Nat):QG .u32 (n:Int)=((X1 n 4294967296:Nat):Int):=by
 show (n:Int) % ((4294967296:Nat):Int)=_
 rw [← Ya]; rfl
theorem zQN(n:Nat)(h:n<4294967296):QG .u32 (n:Int)=(n:Int):=by
 rw [z1I]; congr 1; exact Nat.mod_eq_of_lt h
theorem zTC{a:Nat}(h:a<4294967296):(BitVec.ofInt (IntKind.bits .u32) (a:Int)).toNat=a:=by
 rw [BitVec.toNat_ofInt]
 show ((a:Int) % ((2 ^ 32:Nat):Int)).toNat=_
 rw [← Ya,XQ,Nat.mod_eq_of_lt (by omega)]
theorem zvw{a b:Nat}(ha:a<4294967296)(hb:b<4294967296):X3 a b<4294967296:=Nat.xor_lt_two_pow (n:=32) ha hb
theorem z9n{a b:Nat}(ha:a<4294967296)(hb:b<4294967296):Nat.lor a b<4294967296:=Nat.or_lt_two_pow (n:=32) ha hb
theorem zzD{a b:Nat}(ha:a<4294967296):X7 a b<4294967296:=Nat.lt_of_le_of_lt Nat.and_le_left ha
theorem zpI{a b:Nat}(ha:a<4294967296)(hb:b<4294967296):zdL .u32 (a:Int) (b:Int)=((X3 a b:Nat):Int):=by
 unfold zdL
 rw [BitVec.toNat_xor,zTC ha,zTC hb]
 exact zQN _ (zvw ha hb)
theorem yb7{a b:Nat}(ha:a<4294967296)(hb:b<4294967296):ior .u32 (a:Int) (b:Int)=((Nat.lor a b:Nat):Int):=by
 unfold ior
 rw [BitVec.toNat_or,zTC ha,zTC hb]
 exact zQN _ (z9n ha hb)
theorem zPd{a b:Nat}(ha:a<4294967296)(hb:b<4294967296):zgx .u32 (a:Int) (b:Int)=((X7 a b:Nat):Int):=by
 unfold zgx
 rw [BitVec.toNat_and,zTC ha,zTC hb]
 exact zQN _ (zzD ha)
theorem ybB{a:Nat}(ha:a<4294967296):z1F .u32 (a:Int)=((X3 4294967295 a:Nat):Int):=by
 unfold z1F
 rw [BitVec.toNat_xor,zTC ha]
 exact zQN _ (zvw (by decide) ha)
theorem ybm(a n:Nat)(hn:n≤32):zgr .u32 (a:Int) (n:Int)=((X1 (X8 a n) 4294967296:Nat):Int):=by
 unfold zgr
 have:min (XM (n:Int)) (IntKind.bits .u32)=n:=by
  rw [XQ]; exact Nat.min_eq_left hn
 rw [this,show ((a:Int)*2 ^ n)=((X8 a n:Nat):Int) by
  rw [show X8 a n=a <<< n from rfl,Nat.shiftLeft_eq,Int.natCast_mul,Int.natCast_pow]; rfl]
 exact z1I _
theorem zWk(k:IntKind)(a n:Nat)(hn:n≤k.bits):zcN k (a:Int) (n:Int)=((X2 a n:Nat):Int):=by
 unfold zcN
 have:min (XM (n:Int)) k.bits=n:=by
  rw [XQ]; exact Nat.min_eq_left hn
 rw [this,show X2 a n=a >>> n from rfl,Nat.shiftRight_eq_div_pow]
 rw [show ((2:Int) ^ n)=((2 ^ n:Nat):Int) by rw [Int.natCast_pow]; rfl]
 rw [Int.fdiv_eq_ediv_of_nonneg _ (Int.natCast_nonneg _)]
 exact Int.natCast_ediv a (2 ^ n) |>.symm
theorem m32(n:Nat):X1 n 4294967296<4294967296:=Nat.mod_lt _ (by decide)
theorem zUr{a:Nat}(h:a<4294967296)(n:Nat):X2 a n<4294967296:=Nat.lt_of_le_of_lt (Nat.shiftRight_le a n) h
theorem zem{a:Nat}(h:a<4294967296)(n:Nat):zra a n<4294967296:=z9n (m32 _) (zUr h n)
def rk(n:Nat):Prop:=zgx .u64 (QG .u64 (QG .i64 (0-(n:Int)))) 31=((Nat.sub 32 n:Nat):Int)∧QG .u64 (32-((Nat.sub 32 n:Nat):Int))=(n:Int)∧n≤32
theorem z5M{a n:Nat}(ha:a<4294967296)(hk:rk n):zgq (a:Int) (n:Int)=((zra a n:Nat):Int):=by
 obtain ⟨h1,h2,h3⟩:=hk
 unfold zgq zra
 rw [h1,h2,ybm _ _ (by show 32-n≤32; omega),zWk .u32 _ _ h3,yb7 (m32 _) (zUr ha n)]
theorem rk7:rk 7:=by unfold rk; decide +kernel
theorem yc1:rk 18:=by unfold rk; decide +kernel
theorem ycD:rk 17:=by unfold rk; decide +kernel
theorem ycx:rk 19:=by unfold rk; decide +kernel
theorem rk6:rk 6:=by unfold rk; decide +kernel
theorem ycM:rk 11:=by unfold rk; decide +kernel
theorem ycW:rk 25:=by unfold rk; decide +kernel
theorem rk2:rk 2:=by unfold rk; decide +kernel
theorem ycZ:rk 13:=by unfold rk; decide +kernel
theorem ycv:rk 22:=by unfold rk; decide +kernel
theorem zvh(a b:Nat):QG .u32 ((a:Int)+(b:Int))=((X1 (X0 a b) 4294967296:Nat):Int):=by
 rw [← Int.natCast_add]; exact z1I _
theorem zzm(l:List Nat)(i:Nat):(yY l).getD i 0=((l.getD i 0:Nat):Int):=by
 simp only [yY,Ws,List.getElem?_map]
 cases l[i]? <;> rfl
theorem zWT{l:List Nat}(h:zj6 l)(i:Nat):l.getD i 0<4294967296:=by
 rw [Ws]
 by_cases hi:i<l.length
 ·rw [Wc hi]; exact h _ (List.getElem_mem hi)
 ·rw [Q3 (by omega)]; simp
theorem ycz{w:List Nat}(h:zj6 w)(t:Nat):s2 (yY w) t=((s2N (w.getD (t-16) 0) (w.getD (t-15) 0) (w.getD (t-7) 0) (w.getD (t-2) 0):Nat):Int):=by
 have r:∀ {a n:Nat},a<4294967296→rk n→zgq (a:Int) (n:Int)=((zra a n:Nat):Int):=z5M
 have h1:=zWT h (t-15)
 have h2:=zWT h (t-2)
 unfold s2 s2N
 simp only [zzm]
 generalize w.getD (t-16) 0=a at *
 generalize w.getD (t-15) 0=b at *
 generalize w.getD (t-7) 0=c at *
 generalize w.getD (t-2) 0=d at *
 rw [show zgq (b:Int) 7=_ from r h1 rk7,show zgq (b:Int) 18=_ from r h1 yc1,show zgq (d:Int) 17=_ from r h2 ycD,show zgq (d:Int) 19=_ from r h2 ycx,
  show zcN .u32 (b:Int) 3=_ from zWk .u32 b 3 (by decide),show zcN .u32 (d:Int) 10=_ from zWk .u32 d 10 (by decide),
  zpI (zem h1 _) (zem h1 _),zpI (zvw (zem h1 _) (zem h1 _)) (zUr h1 _),zpI (zem h2 _) (zem h2 _),zpI (zvw (zem h2 _) (zem h2 _)) (zUr h2 _),
  zvh,zvh,zvh]
theorem yc2{e f g h kk ww:Nat}(he:e<4294967296)(hf:f<4294967296)(hg:g<4294967296):t1 (e:Int) (f:Int) (g:Int) (h:Int) (kk:Int) (ww:Int)=((t1N e f g h kk ww:Nat):Int):=by
 have r:∀ {a n:Nat},a<4294967296→rk n→zgq (a:Int) (n:Int)=((zra a n:Nat):Int):=z5M
 unfold t1 t1N
 rw [show zgq (e:Int) 6=_ from r he rk6,show zgq (e:Int) 11=_ from r he ycM,show zgq (e:Int) 25=_ from r he ycW,
  zpI (zem he _) (zem he _),zpI (zvw (zem he _) (zem he _)) (zem he _),zPd he hf,ybB he,zPd (zvw (by decide) he) hg,zpI (zzD he) (zzD (zvw (by decide) he)),
  zvh,zvh,zvh,zvh]
theorem ycF{a b c:Nat}(ha:a<4294967296)(hb:b<4294967296)(hc:c<4294967296):t2 (a:Int) (b:Int) (c:Int)=((t2N a b c:Nat):Int):=by
 have r:∀ {a n:Nat},a<4294967296→rk n→zgq (a:Int) (n:Int)=((zra a n:Nat):Int):=z5M
 unfold t2 t2N
 rw [show zgq (a:Int) 2=_ from r ha rk2,show zgq (a:Int) 13=_ from r ha ycZ,show zgq (a:Int) 22=_ from r ha ycv,
  zpI (zem ha _) (zem ha _),zpI (zvw (zem ha _) (zem ha _)) (zem ha _),zPd ha hb,zPd ha hc,zPd hb hc,zpI (zzD ha) (zzD ha),zpI (zvw (zzD ha) (zzD ha)) (zzD hb),
  zvh]
theorem z2p(l:List Nat)(i x:Nat):(yY l).set i (x:Int)=yY (l.set i x):=by simp only [yY,List.map_set]
theorem zZs{l:List Nat}(h:zj6 l)(i:Nat){x:Nat}(hx:x<4294967296):zj6 (l.set i x):=fun y hy=>by
 rcases List.mem_or_eq_of_mem_set hy with h' | rfl
 ·exact h y h'
 ·exact hx
theorem z7e:∀ (m t:Nat) (w:List Nat),zj6 w→zOL m t (yY w)=yY (zp7 m t w)∧zj6 (zp7 m t w)
 | 0,_,_,h=>⟨rfl,h⟩
 | m+1,t,w,h=>by
  simp only [zOL,zp7,zo1]
  rw [ycz h,z2p]
  exact z7e m (t+1) _ (zZs h _ (m32 _))
theorem ybH(l:List Nat)(t:Nat):zMU (yY l) t=((zyo l t:Nat):Int):=by
 unfold zMU zyo
 simp only [zzm]
 simp only [show ∀ a b:Nat,X0 a b=a+b from fun _ _=>rfl,show ∀ a b:Nat,X9 a b=a*b from fun _ _=>rfl]
 omega
def zfl(l:List Nat):Prop:=∀ x∈l,x≤255
theorem zB7{l:List Nat}(h:zfl l)(i:Nat):l.getD i 0≤255:=by
 rw [Ws]
 by_cases hi:i<l.length
 ·rw [Wc hi]; exact h _ (List.getElem_mem hi)
 ·rw [Q3 (by omega)]; simp
theorem z9g{l:List Nat}(h:zfl l)(t:Nat):zyo l t<4294967296:=by
 have h0:=zB7 h (4*t)
 have h1:=zB7 h (4*t+1)
 have h2:=zB7 h (4*t+2)
 have h3:=zB7 h (4*t+3)
 unfold zyo
 simp only [show ∀ a b:Nat,X0 a b=a+b from fun _ _=>rfl,show ∀ a b:Nat,X9 a b=a*b from fun _ _=>rfl]
 omega
theorem z6j{l:List Nat}(hl:zfl l):∀ (m t:Nat) (w:List Nat),zj6 w→zQA m t (yY l) (yY w)=yY (zsr m t l w)∧zj6 (zsr m t l w)
 | 0,_,_,h=>⟨rfl,h⟩
 | m+1,t,w,h=>by
  simp only [zQA,zsr,zo1]
  rw [ybH,z2p]
  exact z6j hl m (t+1) _ (zZs h _ (z9g hl t))
theorem z7v(n:Nat):zj6 (We n 0):=fun x hx=>by rw [(Yc.1 hx).2]; decide
theorem yar{l:List Nat}(hl:zfl l):zsm (yY l)=yY (zhR l)∧zj6 (zhR l):=by
 unfold zsm zhR
 have e:We 64 (0:Int)=yY (We 64 0):=by simp [yY]
 obtain ⟨h1,h2⟩:=z6j hl 16 0 _ (z7v 64)
 rw [e,h1]
 exact z7e 48 16 _ h2
theorem ycQ:kc=yY kcN:=by kernel_rfl
def Sm8(a b c d e f g h:Nat):Prop:=a<4294967296∧b<4294967296∧c<4294967296∧d<4294967296∧e<4294967296∧f<4294967296∧g<4294967296∧h<4294967296
theorem z3Q{w:List Nat}(hs:List Int):∀ (ks:List Nat) (t a b c d e f g h:Nat),kcN.drop t=ks→t+ks.length=64→Sm8 a b c d e f g h →
  ∃ a' b' c' d' e' f' g' h',zDv w ks t a b c d e f g h=[a',b',c',d',e',f',g',h']∧zCj (yY w) (zCc hs) ks.length t (a:Int) b c d e f g h=zCc hs a' b' c' d' e' f' g' h'
 | [],t,a,b,c,d,e,f,g,h,_,_,_=>⟨a,b,c,d,e,f,g,h,rfl,rfl⟩
 | kk::ks,t,a,b,c,d,e,f,g,h,hk,hl,hs8=>by
  obtain ⟨ha,hb,hc,hd,he,hf,hg,hh⟩:=hs8
  have hlt:t<kcN.length:=by show t<64; simp at hl; omega
  have hd':=List.drop_eq_getElem_cons hlt
  rw [hk] at hd'
  have hkk:kcN.getD t 0=kk:=by
   rw [Ws,Wc hlt]
   exact (List.cons.inj hd').1.symm
  simp only [zDv,zo1,List.length_cons,zCj]
  rw [show kc.getD t 0=(kk:Int) by rw [ycQ,zzm,hkk],zzm,yc2 he hf hg,ycF ha hb hc,zvh,zvh]
  exact z3Q hs ks (t+1) _ a b c _ e f g (List.cons.inj hd').2.symm (by simp at hl; omega) ⟨m32 _,ha,hb,hc,m32 _,he,hf,hg⟩
theorem z5D{l:List Nat}(h:l.length=8):∃ a b c d e f g i,l=[a,b,c,d,e,f,g,i]:=by
 match l,h with
 | [a,b,c,d,e,f,g,i],_=>exact ⟨a,b,c,d,e,f,g,i,rfl⟩
theorem yal{hs l:List Nat}(h8:hs.length=8)(hsm:zj6 hs)(hl:zfl l):zLu (yY hs) (yY l)=yY (zQW hs l)∧(zQW hs l).length=8∧zj6 (zQW hs l):=by
 obtain ⟨a,b,c,d,e,f,g,h,rfl⟩:=z5D h8
 unfold zLu zQW
 rw [(yar hl).1]
 have sm:Sm8 a b c d e f g h:=⟨hsm _ (by simp),hsm _ (by simp),hsm _ (by simp),hsm _ (by simp),hsm _ (by simp),hsm _ (by simp),hsm _ (by simp),hsm _ (by simp)⟩
 obtain ⟨a',b',c',d',e',f',g',h',e1,e2⟩:=z3Q (w:=zhR l) (yY [a,b,c,d,e,f,g,h]) kcN 0 a b c d e f g h rfl rfl sm
 simp only [Yb,X4,yY,QW,X6] at e2 ⊢
 refine ⟨?_,?_,?_⟩
 ·refine Eq.trans e2 ?_
  rw [e1]
  simp only [zCc,zTp,zo1,Yb,X4,zvh,QW,X6]
 ·rw [e1]; simp only [zTp,zo1]; rfl
 ·rw [e1]; simp only [zTp,zo1]
  intro x hx
  simp only [Q9,List.not_mem_nil,or_false] at hx
  rcases hx with rfl | rfl | rfl | rfl | rfl | rfl | rfl | rfl <;> exact m32 _
theorem zSA{w:List Nat}{t:Nat}(h:t<w.length)(x:Nat):(w.set t x).getD t 0=x:=by
 simp [Ws,h]
theorem zSv{w:List Nat}{t i:Nat}(h:t≠i)(x:Nat):(w.set t x).getD i 0=w.getD i 0:=by
 simp [Ws,List.getElem?_set_ne h]
theorem zPT:∀ (m t:Nat) (w:List Nat),w.length=64→16≤t→t+m≤64→(∀ i,i<t→(zp7 m t w).getD i 0=w.getD i 0) ∧
  ∀ i,t≤i→i<t+m→(zp7 m t w).getD i 0=s2N ((zp7 m t w).getD (i-16) 0) ((zp7 m t w).getD (i-15) 0) ((zp7 m t w).getD (i-7) 0) ((zp7 m t w).getD (i-2) 0)
 | 0,t,w,_,_,_=>⟨fun _ _=>rfl,fun i h1 h2=>by omega⟩
 | m+1,t,w,hw,h16,hm=>by
  simp only [zp7,zo1]
  obtain ⟨g1,g2⟩:=zPT m (t+1) (w.set t (s2N (w.getD (t-16) 0) (w.getD (t-15) 0) (w.getD (t-7) 0) (w.getD (t-2) 0))) (by simpa using hw) (by omega) (by omega)
  have low:∀ i,i<t→(zp7 m (t+1) (w.set t (s2N (w.getD (t-16) 0) (w.getD (t-15) 0) (w.getD (t-7) 0) (w.getD (t-2) 0)))).getD i 0=w.getD i 0:=fun i hi=>by
   rw [g1 i (by omega),zSv (by omega)]
  refine ⟨low,fun i h1 h2=>?_⟩
  by_cases e:i=t
  ·subst e
   rw [low (i-16) (by omega),low (i-15) (by omega),low (i-7) (by omega),low (i-2) (by omega),g1 i (by omega),zSA (by omega)]
  ·exact g2 i (by omega) (by omega)
theorem zZb(l:List Nat):∀ (m t:Nat) (w:List Nat),w.length=64→t+m≤64→(∀ i,i<t→(zsr m t l w).getD i 0=w.getD i 0)∧∀ i,t≤i→i<t+m→(zsr m t l w).getD i 0=zyo l i
 | 0,t,w,_,_=>⟨fun _ _=>rfl,fun i h1 h2=>by omega⟩
 | m+1,t,w,hw,hm=>by
  simp only [zsr,zo1]
  obtain ⟨g1,g2⟩:=zZb l m (t+1) (w.set t (zyo l t)) (by simpa using hw) (by omega)
  refine ⟨fun i hi=>by rw [g1 i (by omega),zSv (by omega)],fun i h1 h2=>?_⟩
  by_cases e:i=t
  ·subst e; rw [g1 i (by omega),zSA (by omega)]
  ·exact g2 i (by omega) (by omega)
theorem zPc(l:List Nat):∀ (m t:Nat) (w:List Nat),(zsr m t l w).length=w.length
 | 0,_,_=>rfl
 | m+1,t,w=>by simp only [zsr,zo1]; rw [zPc]; simp
theorem z5i(l:List Nat){i:Nat}(h:i<16):(zhR l).getD i 0=zyo l i:=by
 unfold zhR
 have hl:(zsr 16 0 l (We 64 0)).length=64:=by rw [zPc]; simp
 rw [(zPT 48 16 _ hl (by omega) (by omega)).1 i h]
 exact (zZb l 16 0 _ (by simp) (by omega)).2 i (by omega) (by omega)
theorem z3d(l:List Nat){i:Nat}(h1:16≤i)(h2:i<64):(zhR l).getD i 0=s2N ((zhR l).getD (i-16) 0) ((zhR l).getD (i-15) 0) ((zhR l).getD (i-7) 0) ((zhR l).getD (i-2) 0):=by
 have hl:(zsr 16 0 l (We 64 0)).length=64:=by rw [zPc]; simp
 exact (zPT 48 16 _ hl (by omega) (by omega)).2 i h1 (by omega)
theorem zVw:∀ (n:Nat) (l:List Nat),l.length=4*n→(zO9 l).length=n∧∀ i,i<n→(zO9 l).getD i 0=zyo l i
 | 0,l,h=>by
  have:l=[]:=List.length_eq_zero_iff.1 (by omega)
  subst this
  exact ⟨rfl,fun i hi=>by omega⟩
 | n+1,l,h=>by
  match l,h with
  | a::b::c::d::r,h=>
   obtain ⟨g1,g2⟩:=zVw n r (by simp at h; omega)
   simp only [zO9,zo1]
   refine ⟨by simp [g1],fun i hi=>?_⟩
   match i with
   | 0=>rfl
   | i+1=>
    rw [X4,g2 i (by omega)]
    unfold zyo
    rw [show 4*(i+1)+1=(4*i+1)+1+1+1+1 by omega,show 4*(i+1)+2=(4*i+2)+1+1+1+1 by omega,show 4*(i+1)+3=(4*i+3)+1+1+1+1 by omega,show 4*(i+1)=4*i+1+1+1+1 by omega]
    simp only [X4]
theorem z6y(l:List Nat):∀ (ks:List Nat) (t w0 w1 w2 w3 w4 w5 w6 w7 w8 w9 w10 w11 w12 w13 w14 w15 a b c d e f g h:Nat),t+ks.length=64→(∀ i,i<16→t+i<64→([w0,w1,w2,w3,w4,w5,w6,w7,w8,w9,w10,w11,w12,w13,w14,w15]:List Nat).getD i 0=(zhR l).getD (t+i) 0)→goN ks w0 w1 w2 w3 w4 w5 w6 w7 w8 w9 w10 w11 w12 w13 w14 w15 a b c d e f g h=zDv (zhR l) ks t a b c d e f g h
 | [],t,w0,w1,w2,w3,w4,w5,w6,w7,w8,w9,w10,w11,w12,w13,w14,w15,a,b,c,d,e,f,g,h,_,_=>rfl
 | kk::ks,t,w0,w1,w2,w3,w4,w5,w6,w7,w8,w9,w10,w11,w12,w13,w14,w15,a,b,c,d,e,f,g,h,ht,hw=>by
  simp only [List.length_cons] at ht
  simp only [goN,zDv,zo1]
  rw [show (zhR l).getD t 0=w0 from (hw 0 (by omega) (by omega)).symm]
  refine z6y l ks (t+1) _ _ _ _ _ _ _ _ _ _ _ _ _ _ _ _ _ _ _ _ _ _ _ _ (by omega) fun i hi hlt=>?_
  have e:∀ v:Nat,([w1,w2,w3,w4,w5,w6,w7,w8,w9,w10,w11,w12,w13,w14,w15,v]:List Nat).getD i 0=(([w0,w1,w2,w3,w4,w5,w6,w7,w8,w9,w10,w11,w12,w13,w14,w15]:List Nat)++[v]).getD (i+1) 0:=fun v=>rfl
  rw [e]
  by_cases h15:i<15
  ·rw [Ws,List.getElem?_append_left (by show i+1<16; omega),← Ws,hw (i+1) (by omega) (by omega),show t+(i+1)=t+1+i by omega]
  ·have:i=15:=by omega
   subst this
   show s2N w0 w1 w9 w14=_
   rw [show t+1+15=t+16 by omega,z3d l (by omega) (by omega)]
   rw [show t+16-16=t+0 by omega,show t+16-15=t+1 by omega,show t+16-7=t+9 by omega,show t+16-2=t+14 by omega]
   rw [← hw 0 (by omega) (by omega),← hw 1 (by omega) (by omega),← hw 9 (by omega) (by omega),← hw 14 (by omega) (by omega)]
   rfl
theorem ya6{l:List Nat}(h:l.length=16):∃ w0 w1 w2 w3 w4 w5 w6 w7 w8 w9 w10 w11 w12 w13 w14 w15,l=[w0,w1,w2,w3,w4,w5,w6,w7,w8,w9,w10,w11,w12,w13,w14,w15]:=by
 match l,h with
 | [w0,w1,w2,w3,w4,w5,w6,w7,w8,w9,w10,w11,w12,w13,w14,w15],_=>exact ⟨w0,w1,w2,w3,w4,w5,w6,w7,w8,w9,w10,w11,w12,w13,w14,w15,rfl⟩
theorem z9e{hs l:List Nat}(h8:hs.length=8)(hl:l.length=64):zQO hs l=zQW hs l:=by
 obtain ⟨a,b,c,d,e,f,g,h,rfl⟩:=z5D h8
 obtain ⟨g1,g2⟩:=zVw 16 l (by omega)
 obtain ⟨w0,w1,w2,w3,w4,w5,w6,w7,w8,w9,w10,w11,w12,w13,w14,w15,hw⟩:=ya6 g1
 unfold zQO zQW
 simp only [hw]
 refine congrArg (zTp [a,b,c,d,e,f,g,h]) (?_:goN kcN w0 w1 w2 w3 w4 w5 w6 w7 w8 w9 w10 w11 w12 w13 w14 w15 a b c d e f g h=zDv (zhR l) kcN 0 a b c d e f g h)
 refine z6y l kcN 0 _ _ _ _ _ _ _ _ _ _ _ _ _ _ _ _ _ _ _ _ _ _ _ _ rfl fun i hi _=>?_
 rw [Nat.zero_add,z5i l hi,← g2 i hi,hw]
theorem ya3{hs l:List Nat}(h8:hs.length=8)(hsm:zj6 hs)(hl:zfl l)(h64:l.length=64):zLu (yY hs) (yY l)=yY (zQO hs l)∧(zQO hs l).length=8∧zj6 (zQO hs l):=by
 rw [z9e h8 h64]; exact yal h8 hsm hl
theorem z5S(l:List Nat)(n m:Nat):((yY l).drop n).take m=yY ((l.drop n).take m):=by simp only [yY,List.map_drop,List.map_take]
theorem z6P{l:List Nat}(h:zfl l)(n m:Nat):zfl ((l.drop n).take m):=fun x hx=>h x (List.mem_of_mem_drop (List.mem_of_mem_take hx))
theorem z6M{p:List Nat}(hp:zfl p):∀ (m i:Nat) (h:List Nat),64*(i+m)≤p.length→h.length=8→zj6 h→zPn m i (yY p) (yY h)=yY (zQP m i p h)∧(zQP m i p h).length=8∧zj6 (zQP m i p h)
 | 0,_,_,_,h1,h2=>⟨rfl,h1,h2⟩
 | m+1,i,h,hl,h1,h2=>by
  simp only [zPn,zQP]
  obtain ⟨e1,e2,e3⟩:=ya3 h1 h2 (z6P hp (64*i) 64) (by rw [List.length_take,List.length_drop]; omega)
  rw [z5S,e1]
  exact z6M hp m (i+1) _ (by omega) e2 e3
theorem z6C:init0=yY init0N∧init0N.length=8:=⟨by kernel_rfl,rfl⟩
theorem z5K:zj6 init0N:=by
 have:init0N.all (fun x=>decide (x<4294967296))=true:=by kernel_rfl
 intro x hx
 simpa using List.all_eq_true.1 this x hx
theorem z7k(k:IntKind)(x i:Nat)(hi:i≤k.bits):QG .u8 (zcN k (x:Int) ((i:Nat):Int))=((zj3 x i:Nat):Int):=by
 rw [zWk k _ _ hi]
 show ((X2 x i:Nat):Int) % ((256:Nat):Int)=_
 rw [← Ya]; rfl
theorem ybq{h:List Nat}(h8:h.length=8):zAb (yY h)=yY (zQ7 h):=by
 obtain ⟨a,b,c,d,e,f,g,i,rfl⟩:=z5D h8
 have q:∀ (x j:Nat),j≤32→QG .u8 (zcN .u32 (x:Int) ((j:Nat):Int))=((zj3 x j:Nat):Int):=fun x j hj=>z7k .u32 x j hj
 have r:List.range 32=[0,1,2,3,4,5,6,7,8,9,10,11,12,13,14,15,16,17,18,19,20,21,22,23,24,25,26,27,28,29,30,31]:=by kernel_rfl
 simp only [zAb,r,QW,X6,ob,zzm]
 simp only [zQ7,yY,QW,X6]
 rw [← q a 24 (by decide),← q a 16 (by decide),← q a 8 (by decide),← q a 0 (by decide),← q b 24 (by decide),← q b 16 (by decide),← q b 8 (by decide),← q b 0 (by decide),← q c 24 (by decide),← q c 16 (by decide),← q c 8 (by decide),← q c 0 (by decide),← q d 24 (by decide),← q d 16 (by decide),← q d 8 (by decide),← q d 0 (by decide),← q e 24 (by decide),← q e 16 (by decide),← q e 8 (by decide),← q e 0 (by decide),← q f 24 (by decide),← q f 16 (by decide),← q f 8 (by decide),← q f 0 (by decide),← q g 24 (by decide),← q g 16 (by decide),← q g 8 (by decide),← q g 0 (by decide),← q i 24 (by decide),← q i 16 (by decide),← q i 8 (by decide),← q i 0 (by decide)]
 rfl
theorem zDY(x i:Nat):zj3 x i≤255:=by
 have:zj3 x i<256:=Nat.mod_lt _ (by decide)
 omega
theorem zSq:∀ l:List Nat,zfl (zQ7 l)
 | []=>fun x hx=>by cases hx
 | y::ys=>fun x hx=>by
  simp only [zQ7,Q9] at hx
  rcases hx with rfl | rfl | rfl | rfl | h
  ·exact zDY _ _
  ·exact zDY _ _
  ·exact zDY _ _
  ·exact zDY _ _
  ·exact zSq ys x h
theorem zPU{n:Nat}(hn:n≤100000000)(i:Nat)(hi:i≤7):pb n i=((zj3 (8*n) (56-8*i):Nat):Int):=by
 unfold pb
 have:QG .u64 ((8:Int)*(n:Int))=((8*n:Nat):Int):=by
  show ((8:Int)*(n:Int)) % ((18446744073709551616:Nat):Int)=_
  omega
 rw [this]
 exact z7k .u64 _ _ (by show 56-8*i≤64; omega)
theorem ycl{n:Nat}(hn:n≤100000000):zgT n=yY (zDB n):=by
 unfold zgT zDB
 simp only [yY,List.map_append,QW,List.map_replicate]
 congr 1
 simp only [pbs,z8R,QW,X6]
 rw [zPU hn 0 (by decide),zPU hn 1 (by decide),zPU hn 2 (by decide),zPU hn 3 (by decide),zPU hn 4 (by decide),zPU hn 5 (by decide),zPU hn 6 (by decide),zPU hn 7 (by decide)]
theorem z4O(n:Nat):zfl (zDB n):=by
 intro x hx
 simp only [zDB,z8R,List.mem_append,Q9,List.not_mem_nil,or_false] at hx
 rcases hx with (rfl | h) | h
 ·decide
 ·rw [(Yc.1 h).2]; decide
 ·rcases h with rfl | rfl | rfl | rfl | rfl | rfl | rfl | rfl <;> exact zDY _ _
theorem z0E{l:List Nat}(hn:l.length≤100000000)(hl:zfl l):zxB (yY l)=yY (zs5 l)∧zfl (zs5 l):=by
 have e:yY l++zgT (yY l).length=yY (l++zDB l.length):=by
  rw [show (yY l).length=l.length by simp [yY],ycl hn]; simp [yY]
 have hb:zfl (l++zDB l.length):=fun x hx=>(List.mem_append.1 hx).elim (hl x) (z4O _ x)
 unfold zxB zs5
 rw [e,show (yY (l++zDB l.length)).length=(l++zDB l.length).length by simp [yY],z6C.1]
 obtain ⟨e1,e2,e3⟩:=z6M hb ((l++zDB l.length).length / 64) 0 init0N (by rw [Nat.zero_add]; exact Nat.mul_div_le _ _) z6C.2 z5K
 rw [e1,ybq e2]
 exact ⟨rfl,zSq _⟩
theorem zU8:∀ {l:List Int},(∀ x∈l,0≤x∧x≤255)→l=yY (l.map XM)
 | [],_=>rfl
 | x::l,h=>by
  have hx:=h x (by simp)
  simp only [yY,QW]
  rw [show ((x.toNat:Nat):Int)=x by omega]
  congr 1
  exact zU8 fun y hy=>h y (by simp [hy])
theorem z3m{l:List Int}(h:∀ x∈l,0≤x∧x≤255):zfl (l.map XM):=fun x hx=>by
 obtain ⟨y,hy,rfl⟩:=List.mem_map.1 hx
 have:=h y hy
 omega
def zDu(l:List Nat):List Nat:=zs5 (zs5 l)
theorem yb6{l:List Int}(hn:l.length≤100000000)(h:∀ x∈l,0≤x∧x≤255):zIF l=yY (zDu (l.map XM)):=by
 have e:=zU8 h
 have hb:=z3m h
 generalize hm:l.map XM=m at *
 have hlen:m.length≤100000000:=by rw [← hm]; simpa using hn
 subst e
 unfold zIF zDu
 obtain ⟨e1,e2⟩:=z0E hlen hb
 rw [e1]
 have h32:(zs5 m).length=32:=by
  have:=zbt (yY m)
  rw [e1] at this; simpa [yY] using this
 exact (z0E (by rw [h32]; decide) e2).1
end
section
theorem zD4{T:Nat→Option CF}{L g D:Nat}{d d':Dk}(h:FOk T L g d D)(hd:DK d' d):FOk T L g d' D:=fun n hn β args bor k r hr=>h n hn β args bor k r (hd _ _ _ _ _ hr)
def zUZ:Ls→Option (List Nat)
 | []=>some []
 | [.sc (.int .u8 (.ofNat n))]::r=>match Nat.ble n 255 with
  | true=>(zUZ r).map (n::·)
  | false=>none
 | _=>none
theorem zUS:∀ {es:Ls} {l:List Nat},zUZ es=some l→es=yq .u8 (yY l)∧zfl l
 | [],l,h=>by cases h; exact ⟨rfl,fun x hx=>by cases hx⟩
 | e::r,l,h=>by
  unfold zUZ at h
  split at h
  ·rename_i he; cases he
  ·rename_i n r' he
   cases he
   split at h
   ·rename_i hn
    rw [Option.map_eq_some_iff] at h
    obtain ⟨m,hm,rfl⟩:=h
    obtain ⟨e1,e2⟩:=zUS hm
    refine ⟨by rw [e1]; rfl,fun x hx=>?_⟩
    rcases Q9.1 hx with rfl | h'
    ·exact X5 hn
    ·exact e2 x h'
   ·cases h
  ·cases h
def z8X(l:List Nat):List V:=l.map fun n=>V.sc (.int .u8 (.ofNat n))
theorem yab(l:List Nat):z8X l=row .u8 (yY l):=by
 simp only [z8X,row,yY,List.map_map]; rfl
def zis(f:List Nat→List Nat)(L:Nat):Dk:=fun β a b k=>match a with
 | [.sl 1 es]=>(match b with
  | []=>(match zUZ es with
   | some l=>(match Nat.ble (l.length+300) L&&Nat.ble l.length 100000000 with
    | true=>k (.agg (z8X (f l))) []
    | false=>none)
   | none=>none)
  | _=>none)
 | _=>none
theorem zG5{f:List Nat→List Nat}{L:Nat}{β:Type}{a:List V}{b:Bor}{k:V→Bor→Option β}{r:β}(h:zis f L β a b k=some r):∃ l,a=[.sl 1 (yq .u8 (yY l))]∧b=[]∧zfl l∧l.length+300≤L∧l.length≤100000000∧k (.agg (row .u8 (yY (f l)))) []=some r:=by
 unfold zis at h
 split at h
 ·split at h
  ·split at h
   ·rename_i l hl
    split at h
    ·rename_i hc
     rw [Bool.and_eq_true] at hc
     obtain ⟨rfl,hb⟩:=zUS hl
     exact ⟨l,rfl,rfl,hb,X5 hc.1,X5 hc.2,by rw [← yab]; exact h⟩
    ·cases h
   ·cases h
  ·cases h
 ·cases h
theorem zjE(l:List Nat):(yY l).length=l.length:=by simp [yY]
theorem zE4{l:List Nat}(h:zfl l):∀ x∈yY l,0≤x∧x≤255:=fun x hx=>by
 obtain ⟨y,hy,rfl⟩:=List.mem_map.1 hx
 have:=h y hy
 omega
theorem z7J(l:List Nat):(yY l).map XM=l:=by
 simp only [yY,List.map_map]
 exact (List.map_congr_left fun x _=>(by simp:(XM ∘ fun (n:Nat)=>(n:Int)) x=id x)).trans (List.map_id l)
theorem z9A{l:List Nat}(hn:l.length≤100000000)(h:zfl l):zIF (yY l)=yY (zDu l):=by
 have:=yb6 (l:=yY l) (by rw [zjE]; exact hn) (zE4 h)
 rwa [z7J] at this
theorem zRV(L:Nat):DK (zis zDu L) (ziJ yJ L):=by
 intro β a b k r h
 obtain ⟨l,rfl,rfl,hb,h1,h2,hk⟩:=zG5 h
 show yJ β L (yq .u8 (yY l)) (fun p0=>k (V.agg p0) [])=some r
 rw [zLZ (by rw [zjE]; omega) (by rw [zjE]; omega) (zE4 hb),z9A h2 hb]; exact hk
theorem zW2(L:Nat):DK (zis zs5 L) (zr0 zX L):=by
 intro β a b k r h
 obtain ⟨l,rfl,rfl,hb,h1,h2,hk⟩:=zG5 h
 show zX β L (yq .u8 (yY l)) (fun p0=>k (V.agg p0) [])=some r
 rw [zQ1 (by rw [zjE]; omega) (by rw [zjE]; omega) (zE4 hb),(z0E h2 hb).1]; exact hk
theorem zVM(L:Nat):DK (zis zDu L) (zoU xX L):=by
 intro β a b k r h
 obtain ⟨l,rfl,rfl,hb,h1,h2,hk⟩:=zG5 h
 show xX β L (yq .u8 (yY l)) (fun p0=>k (V.agg p0) [])=some r
 rw [zOC (by rw [zjE]; omega) (by rw [zjE]; omega) (zE4 hb),z9A h2 hb]; exact hk
theorem z1V(L:Nat):DK (zis zs5 L) (zy7 zam L):=by
 intro β a b k r h
 obtain ⟨l,rfl,rfl,hb,h1,h2,hk⟩:=zG5 h
 show zam β L (yq .u8 (yY l)) (fun p0=>k (V.agg p0) [])=some r
 rw [zVd (by rw [zjE]; omega) (by rw [zjE]; omega) (zE4 hb),(z0E h2 hb).1]; exact hk
end
section
theorem z9O(β:Type)(n:Nat)(k:List V→Int→Option β):zS β (n+300) 545259519 k=k [.sc (.int .u64 0),.sc (.int .u64 0),.sc (.int .u64 0),.sc (.int .u64 9223370937343148032)] 0:=by kernel_rfl
def zVC(L:Nat):Dk:=dA (AI .u32) fun x=>d0 fun β k=>chk (x=545259519∧300≤L) (k (.tup [.agg [.sc (.int .u64 0),.sc (.int .u64 0),.sc (.int .u64 0),.sc (.int .u64 9223370937343148032)],.sc (.int .i64 0)]) [])
theorem zRp(L:Nat):DK (zVC L) (zk3 zS L):=by
 refine xv zbN fun x=>?_
 intro β a b k r h
 obtain ⟨rfl,rfl,h2⟩:=z1W h
 obtain ⟨hc,h3⟩:=xK h2
 obtain ⟨rfl,hL⟩:=hc
 obtain ⟨n,rfl⟩:∃ n,L=n+300:=⟨L-300,by omega⟩
 show zS β (n+300) 545259519 (fun p0 p1=>k (V.tup [V.agg p0,V.sc (.int .i64 p1)]) [])=some r
 rw [z9O]; exact h3
end
section
noncomputable section
def zJW:Hint:=⟨[],[],[none],[],[],false,false,[]⟩
def z2H:CF:=cfD zJW 148
def zQF(L:Nat):CBC:=noC
def zSt(L:Nat):Dk:=fun _=>yh (zj []) (zQF L) L z2H
def zE0:Hint:=⟨[(0,0)],[],[none],[],[],false,false,[]⟩
def zYl:CF:=cfD zE0 91
def zKx(L:Nat):CBC:=(xe 513 (zna zbq L) (xe 514 (zSt L) noC))
def zNp(L:Nat):Dk:=fun _=>yh (zj []) (zKx L) L zYl
def zDS(L:Nat):CBC:=(xe 528 (zdS yX L) (xe 527 (zVC L) (xe 553 (zdJ xJ L) noC)))
def zej(L:Nat):Dk:=fun _=>yh (zj []) (zDS L) L cf_ref13_Valid
def zHO(L:Nat):CBC:=(xe 454 (zis zDu L) (xe 455 (zdY xh L) noC))
def ziC(L:Nat):Dk:=fun _=>yh (zj []) (zHO L) L zz0
def zDW:Hint:=⟨[(0,0),(0,1)],[],[none,none,none],[],[],false,false,[]⟩
def zW7:CF:=cfD zDW 92
def zLh(L:Nat):CBC:=(xe 429 (ziC L) (xe 515 (zej L) noC))
def zNw(L:Nat):Dk:=fun _=>yh (zj []) (zLh L) L zW7
def zCS:Hint:=⟨[(0,0),(0,1)],[],[none,none,none],[],[],false,false,[]⟩
def zYo:CF:=cfD zCS 93
def zLa(L:Nat):CBC:=(xe 429 (ziC L) (xe 515 (zej L) noC))
def zND(L:Nat):Dk:=fun _=>yh (zj []) (zLa L) L zYo
def zGu:Hint:=⟨[(0,0),(1,2),(2,2),(2,5),(3,2),(3,5)],[],[none],[],[],false,false,[]⟩
def zZL:CF:=cfD zGu 52
def zNO(L:Nat):CBC:=(xe 469 (zND L) (xe 468 (zNw L) (xe 467 (zNp L) noC)))
def zPD(L:Nat):Dk:=fun _=>yh (zj []) (zNO L) L zZL
def zMX:Hint:=⟨[(0,0),(2,0),(3,5)],[],[none,none,none],[],[],false,false,[]⟩
def z3y:CF:=cfD zMX 182
def zSJ(L:Nat):CBC:=noC
def zVy(L:Nat):Dk:=fun _=>yh (zj []) (zSJ L) L z3y
def zDA:Hint:=⟨[(0,0),(1,4)],[],[none],[],[],false,false,[]⟩
def zYe:CF:=cfD zDA 132
def zKA(L:Nat):CBC:=noC
def zzY(L:Nat):Dk:=fun _=>yh (zj []) (zKA L) L zYe
def zFM:Hint:=⟨[(0,0),(0,1),(3,10),(7,1),(8,1)],[],[none,none],[],[],false,false,[]⟩
def zZD:CF:=cfD zFM 162
def zNP(L:Nat):CBC:=(xe 448 (zzY L) (xe 554 (zVy L) noC))
def zOM(L:Nat):Dk:=fun _=>yh (zj []) (zNP L) L zZD
def zN0(L:Nat):CBC:=(xe 454 (zis zDu L) (xe 149 (zeR yd L) (xe 148 (zeC yc L) noC)))
def zvq(L:Nat):Dk:=fun _=>yh (zj []) (zN0 L) L z3z
def zr6:Hint:=⟨[(0,0),(0,1),(0,2),(1,0),(3,3),(12,4),(14,5),(14,8),(15,0),(15,7),(16,4),(16,9),(20,3),(21,0),(21,12),(23,0),(23,2)],[],[none,some ((bl 3868 113),(bl 9411032330560892913360804356558847 113)),none,some ((bl 768 113),(bl 9411032330560892913360804356555751 113)),none,none,some ((bl 16156 113),(bl 9411032330560892913360806504054783 113)),none,some ((bl 3868 113),(bl 9411032330560892913360806504046591 113)),none,none,none,none,some ((bl 17331160549995323848588005148 113),(bl 9411038056094375076711524595040255 113)),none,some ((bl 3868 113),(bl 9411038056094375076711524594778111 113)),none,some ((bl 3868 113),(bl 9411032330560892913360806504046591 113)),none],[],[],false,false,[]⟩
def zMg:CF:=cfD zr6 129
def zvo(L:Nat):CBC:=(xe 517 (zvq L) (xe 516 (zOM L) noC))
def zwN(L:Nat):Dk:=fun _=>yh (zj []) (zvo L) L zMg
def zzl:Hint:=⟨[(0,0)],[],[none,none,none,some ((bl 96 31),(bl 2147483643 31)),none,some ((bl 32 31),(bl 2147483579 31)),none,none],[],[],false,false,[]⟩
def zTJ:CF:=cfD zzl 131
def zEJ(L:Nat):CBC:=(xe 515 (zej L) noC)
def zus(L:Nat):Dk:=fun _=>yh (zj []) (zEJ L) L zTJ
def zJt:Hint:=⟨[],[],[none],[],[],false,false,[]⟩
def z1z:CF:=cfD zJt 163
def zPt(L:Nat):CBC:=noC
def zSF(L:Nat):Dk:=fun _=>yh (zj []) (zPt L) L z1z
def zy3:Hint:=⟨[(0,0)],[],[none],[],[],false,false,[]⟩
def zTk:CF:=cfD zy3 130
def zDJ(L:Nat):CBC:=(xe 518 (zSF L) noC)
def zGN(L:Nat):Dk:=fun _=>yh (zj []) (zDJ L) L zTk
def zFW(L:Nat):CBC:=(xe 454 (zis zDu L) (xe 149 (zeR yd L) (xe 148 (zeC yc L) noC)))
def zKe(L:Nat):Dk:=fun _=>yh (zj []) (zFW L) L zAo
def zGI(L:Nat):CBC:=(xe 494 (zis zs5 L) (xe 453 (zfy zai L) noC))
def zKP(L:Nat):Dk:=fun _=>yh (zj []) (zGI L) L zAA
def zA3(L:Nat):CBC:=(xe 588 (zKP L) noC)
def zDe(L:Nat):Dk:=fun _=>yh (zj []) (zA3 L) L cf_ref07_levels
def zF9(L:Nat):CBC:=(xe 555 (zDe L) noC)
def zJE(L:Nat):Dk:=fun _=>yh (zj []) (zF9 L) L zzL
def zHG(L:Nat):CBC:=(xe 520 (zJE L) (xe 519 (zKe L) noC))
def zye(L:Nat):Dk:=fun _=>yh (zj []) (zHG L) L cf_ref11_Root
def zBP:Hint:=⟨[],[],[none],[],[],false,false,[]⟩
def zUh:CF:=cfD zBP 134
def zGd(L:Nat):CBC:=noC
def zKK(L:Nat):Dk:=fun _=>yh (zj []) (zGd L) L zUh
def zvF:Hint:=⟨[],[],[none],[],[],false,false,[]⟩
def zOY:CF:=cfD zvF 196
def zyS(L:Nat):CBC:=noC
def zBU(L:Nat):Dk:=fun _=>yh (zj []) (zyS L) L zOY
def zKQ:Hint:=⟨[(9,7),(10,7),(11,3)],[],[none,some ((bl 32892 71),(bl 2361183116363495866495 71)),none,some ((bl 112 71),(bl 2361183116363495866483 71)),none,none,some ((bl 295420 71),(bl 2361183116363495866879 71)),none,some ((bl 33276 71),(bl 2361183116363495866879 71)),none,none],[],[],false,false,[]⟩
def z1k:CF:=cfD zKQ 186
def zQt(L:Nat):CBC:=(xe 117 (zBU L) noC)
def zIR(L:Nat):Dk:=fun _=>yh (zj []) (zQt L) L z1k
def zKq:Hint:=⟨[(6,9)],[],[none,some ((bl 732 29),(bl 522190591 29)),none,some ((bl 208 29),(bl 522190579 29)),none,none],[],[],false,false,[]⟩
def z2f:CF:=cfD zKq 199
def zQs(L:Nat):CBC:=noC
def zse(L:Nat):Dk:=fun _=>yh (zj []) (zQs L) L z2f
def zJp:Hint:=⟨[(8,3),(12,3)],[],[none,none,none,some ((bl 752 61),(bl 2304855642529070071 61)),none,some ((bl 192 61),(bl 2304855642529069511 61)),none,none,none,none],[],[],false,false,[]⟩
def z0Z:CF:=cfD zJp 188
def zQn(L:Nat):CBC:=(xe 594 (zse L) (xe 593 (zrK xL L) (xe 552 (znf xp L) (xe 528 (zdS yX L) noC))))
def zyw(L:Nat):Dk:=fun _=>yh (zj []) (zQn L) L z0Z
def zy4:Hint:=⟨[],[],[none,none,none,some ((bl 10 40),(bl 1096816721899 40)),none,none,none,none,none,some ((bl 4 40),(bl 1096816721893 40))],[],[],false,false,[]⟩
def zTg:CF:=cfD zy4 189
def zDa(L:Nat):CBC:=(xe 565 (zrP zbJ L) (xe 528 (zdS yX L) (xe 513 (zna zbq L) (xe 566 (zym zbK L) (xe 553 (zdJ xJ L) noC)))))
def zG3(L:Nat):Dk:=fun _=>yh (zj []) (zDa L) L zTg
def zBX:Hint:=⟨[(0,0),(3,2),(10,4),(11,5)],[],[none,none,none,none,none,none,none,none],[],[],false,false,[]⟩
def zVj:CF:=cfD zBX 170
def zFS(L:Nat):CBC:=(xe 564 (zG3 L) (xe 553 (zdJ xJ L) (xe 528 (zdS yX L) (xe 563 (zyw L) (xe 561 (zIR L) (xe 562 (zcJ xY L) (xe 527 (zVC L) (xe 515 (zej L) noC))))))))
def zKg(L:Nat):Dk:=fun _=>yh (zj []) (zFS L) L zVj
def zHi:Hint:=⟨[(0,0),(0,1)],[],[none,none,none,none,none],[],[],false,false,[]⟩
def zZM:CF:=cfD zHi 143
def zM6(L:Nat):CBC:=(xe 526 (zKg L) (xe 515 (zej L) noC))
def zEk(L:Nat):Dk:=fun _=>yh (zj []) (zM6 L) L zZM
def zA8:Hint:=⟨[(1,0),(8,6),(8,11)],[],[none,some ((bl 904 48),(bl 281264523280287 48)),none,some ((bl 8 48),(bl 281264523280287 48)),none,none,some ((bl 1000 48),(bl 281474976677887 48)),none,some ((bl 1000 48),(bl 281474976677887 48)),none,none,none,none],[],[],false,false,[]⟩
def zVG:CF:=cfD zA8 145
def zGb(L:Nat):CBC:=noC
def zx4(L:Nat):Dk:=fun _=>yh (zj []) (zGb L) L zVG
def zCX(L:Nat):CBC:=(xe 528 (zdS yX L) (xe 529 (zee zaY L) (xe 527 (zVC L) noC)))
def zvX(L:Nat):Dk:=fun _=>yh (zj []) (zCX L) L zXs
def zKN:Hint:=⟨[(0,0),(0,1),(1,3)],[],[none,some ((bl 2816 45),(bl 29686813949839 45)),none,some ((bl 2304 45),(bl 29686813949839 45)),none,none,some ((bl 256 45),(bl 29686813947791 45)),none],[],[],false,false,[]⟩
def z1R:CF:=cfD zKN 133
def zPK(L:Nat):CBC:=(xe 485 (zvX L) (xe 429 (ziC L) (xe 486 (zx4 L) (xe 484 (zEk L) noC))))
def zSr(L:Nat):Dk:=fun _=>yh (zj []) (zPK L) L z1R
def zF3:Hint:=⟨[(0,0),(0,1),(0,2),(0,3),(1,4),(1,5),(2,18)],[],[none],[],[],false,false,[]⟩
def z0v:CF:=cfD zF3 87
def zNS(L:Nat):CBC:=(xe 473 (zSr L) (xe 475 (zKK L) (xe 474 (zye L) (xe 471 (zGN L) (xe 448 (zzY L) (xe 472 (zus L) (xe 470 (zwN L) noC)))))))
def zOH(L:Nat):Dk:=fun _=>yh (zj []) (zNS L) L z0v
def zCR(L:Nat):CBC:=(xe 474 (zye L) (xe 558 (zsA xF L) (xe 557 (zn9 zA L) (xe 556 (zmY xg L) (xe 517 (zvq L) (xe 132 (zm5 xE L) (xe 153 (zeO zb L) (xe 449 (zpz zz L) noC))))))))
def zHe(L:Nat):Dk:=fun _=>yh (zj []) (zCR L) L cf_ref11_Check
def zCO:Hint:=⟨[(0,0),(0,1),(0,2)],[],[none,none,none,none,none,none,none,none,none,none,none,none,none,none],[],[],false,false,[]⟩
def zXm:CF:=cfD zCO 135
def zI9(L:Nat):CBC:=(xe 134 (zsi zjx L) (xe 522 (zHe L) (xe 521 (zAi zm0 L) (xe 515 (zej L) noC))))
def zNR(L:Nat):Dk:=fun _=>yh (zj []) (zI9 L) L zXm
def zFR:Hint:=⟨[],[],[none,some ((bl 393 20),(bl 1048527 20)),none,some ((bl 0 20),(bl 1048519 20)),none,none,some ((bl 16 20),(bl 1048535 20)),none],[],[],false,false,[]⟩
def z0g:CF:=cfD zFR 139
def zNu(L:Nat):CBC:=noC
def zvR(L:Nat):Dk:=fun _=>yh (zj []) (zNu L) L z0g
def zwU:Hint:=⟨[(0,1)],[],[none],[],[],false,false,[]⟩
def zRZ:CF:=cfD zwU 166
def zBZ(L:Nat):CBC:=(xe 453 (zfy zai L) noC)
def zta(L:Nat):Dk:=fun _=>yh (zj []) (zBZ L) L zRZ
def zD3:Hint:=⟨[(0,0),(0,1),(0,2),(1,0),(4,2),(7,0),(8,0),(8,8),(12,2),(14,0),(16,0),(16,1)],[],[none,some ((bl 918554 57),(bl 144115067749616831 57)),none,some ((bl 1048 57),(bl 144115067749616831 57)),none,none,some ((bl 768 57),(bl 144115067749616559 57)),none,some ((bl 1924145349656 57),(bl 144115188075818175 57)),none,some ((bl 1024 57),(bl 144115188075818159 57)),none,none,some ((bl 768 57),(bl 144115188075818927 57)),none],[],[],false,false,[]⟩
def zYB:CF:=cfD zD3 136
def zKB(L:Nat):CBC:=(xe 441 (zta L) (xe 480 (zvR L) noC))
def zM3(L:Nat):Dk:=fun _=>yh (zj []) (zKB L) L zYB
def zJ6:Hint:=⟨[(0,0),(15,2),(24,2)],[],[none,none,none,none,none,some ((bl 100663302 81),(bl 2417851639229258349407055 81)),none,some ((bl 6 81),(bl 2417851639229258349407055 81)),none,none,some ((bl 48 81),(bl 2417851639229258349407099 81)),none,some ((bl 30786325577988 81),(bl 2417851639229258349407183 81)),none,some ((bl 260 81),(bl 2417851639229258349407183 81)),none,none,some ((bl 48 81),(bl 2417851639229258349406971 81)),none,none,none,some ((bl 1033017668127734890752 81),(bl 2417851639229258349407227 81)),none,some ((bl 256 81),(bl 2417851639229258349407227 81)),none,none,none,none],[],[],false,false,[]⟩
def z26:CF:=cfD zJ6 167
def zQe(L:Nat):CBC:=(xe 132 (zm5 xE L) noC)
def zSL(L:Nat):Dk:=fun _=>yh (zj []) (zQe L) L z26
def zBE:Hint:=⟨[],[],[none],[],[],false,false,[]⟩
def zWx:CF:=cfD zBE 193
def zHk(L:Nat):CBC:=(xe 494 (zis zs5 L) noC)
def zw9(L:Nat):Dk:=fun _=>yh (zj []) (zHk L) L zWx
def zyG:Hint:=⟨[(0,0),(0,1),(5,0),(5,1),(5,2),(8,2),(9,0),(9,5),(14,2),(15,0),(15,4),(17,3),(18,4),(19,4),(20,4),(21,4),(22,4),(23,0)],[],[none,none,none,none,none,some ((bl 30786325579626 98),(bl 316912650056978537380696797183 98)),none,some ((bl 1898 98),(bl 316912650056978537380696797183 98)),none,none,some ((bl 4035225266123966314 98),(bl 316912649614335492605146542079 98)),none,some ((bl 1898 98),(bl 316912649614335492605146542079 98)),none,none],[],[],false,false,[]⟩
def zS8:CF:=cfD zyG 184
def zC3(L:Nat):CBC:=(xe 589 (zw9 L) (xe 160 (zg1 zn L) (xe 494 (zis zs5 L) (xe 186 (zyp zi L) (xe 159 (zfN xa L) (xe 138 (zsD zf L) (xe 148 (zeC yc L) noC)))))))
def zGP(L:Nat):Dk:=fun _=>yh (zj []) (zC3 L) L zS8
def zEl:Hint:=⟨[(0,0)],[],[none,none,none,none,none,none,none,none,none,none,none],[],[],false,false,[]⟩
def zWX:CF:=cfD zEl 216
def zKM(L:Nat):CBC:=noC
def zM4(L:Nat):Dk:=fun _=>yh (zj []) (zKM L) L zWX
def zKL:Hint:=⟨[(0,0),(0,1),(3,2),(4,0),(4,2),(8,2),(10,5),(10,10),(13,2),(14,8),(14,14),(15,1),(15,5)],[],[none,none,none,none,none,none,none,none,none,none],[],[],false,false,[]⟩
def z0Y:CF:=cfD zKL 209
def zQb(L:Nat):CBC:=(xe 618 (zM4 L) (xe 453 (zfy zai L) noC))
def zSa(L:Nat):Dk:=fun _=>yh (zj []) (zQb L) L z0Y
def zEf:Hint:=⟨[(0,0),(2,0),(3,0),(5,2),(5,4),(5,6),(7,1),(8,0),(8,5),(9,0),(9,1)],[],[none,none,none,some ((bl 17 29),(bl 435220243 29)),none,some ((bl 16 29),(bl 435220242 29)),none,none,some ((bl 12 29),(bl 435220238 29)),none],[],[],false,false,[]⟩
def zXY:CF:=cfD zEf 200
def zJ0(L:Nat):CBC:=(xe 610 (zSa L) noC)
def zNL(L:Nat):Dk:=fun _=>yh (zj []) (zJ0 L) L zXY
def zBs:Hint:=⟨[(1,0),(4,2),(7,0),(7,3),(15,5)],[(7,2)],[none,some ((bl 456 51),(bl 2232953357844443 51)),none,some ((bl 8 51),(bl 2232953357844443 51)),none,none,none,none,none,some ((bl 4 51),(bl 2232953357844439 51)),none,none,some ((bl 4 51),(bl 2232953357844439 51)),none],[],[],false,false,[]⟩
def zV7:CF:=cfD zBs 201
def zHp(L:Nat):CBC:=noC
def zLi(L:Nat):Dk:=fun _=>yh (zj []) (zHp L) L zV7
def zGl:Hint:=⟨[],[],[none,none,none,some ((bl 1792 18),(bl 229355 18)),none,some ((bl 0 18),(bl 229355 18)),none,none,some ((bl 4 18),(bl 229359 18)),none],[],[],false,false,[]⟩
def zZV:CF:=cfD zGl 202
def zNq(L:Nat):CBC:=noC
def zQa(L:Nat):Dk:=fun _=>yh (zj []) (zNq L) L zZV
def zBK:Hint:=⟨[(0,0),(1,3),(5,0),(5,6),(7,0),(7,1)],[],[none,some ((bl 3592 23),(bl 6422495 23)),none,some ((bl 8 23),(bl 6422495 23)),none,none],[],[],false,false,[]⟩
def zWe:CF:=cfD zBK 203
def zG4(L:Nat):CBC:=(xe 453 (zfy zai L) noC)
def zJF(L:Nat):Dk:=fun _=>yh (zj []) (zG4 L) L zWe
def zBz:Hint:=⟨[],[],[none],[],[],false,false,[]⟩
def zVq:CF:=cfD zBz 204
def zFV(L:Nat):CBC:=noC
def zK6(L:Nat):Dk:=fun _=>yh (zj []) (zFV L) L zVq
def zDO:Hint:=⟨[(0,0)],[],[none,none,none,none,none,none,none,none],[],[],false,false,[]⟩
def zX8:CF:=cfD zDO 205
def zK1(L:Nat):CBC:=noC
def zNc(L:Nat):Dk:=fun _=>yh (zj []) (zK1 L) L zX8
def zCU:Hint:=⟨[(0,0)],[],[none,none,none,none,none,none,none,none,none,none,none,none,none,none,none,none,none,none],[],[],false,false,[]⟩
def zYg:CF:=cfD zCU 206
def zJg(L:Nat):CBC:=noC
def zNU(L:Nat):Dk:=fun _=>yh (zj []) (zJg L) L zYg
def zHq:Hint:=⟨[],[],[none,some ((bl 224 14),(bl 16363 14)),none,some ((bl 0 14),(bl 16363 14)),none,none,some ((bl 4 14),(bl 16367 14)),none],[],[],false,false,[]⟩
def zZU:CF:=cfD zHq 195
def zNI(L:Nat):CBC:=noC
def zuz(L:Nat):Dk:=fun _=>yh (zj []) (zNI L) L zZU
def zA4:Hint:=⟨[(0,0),(2,0),(3,9)],[],[none,none,none],[],[],false,false,[]⟩
def zVQ:CF:=cfD zA4 210
def zGF(L:Nat):CBC:=noC
def zK7(L:Nat):Dk:=fun _=>yh (zj []) (zGF L) L zVQ
def zHz:Hint:=⟨[(0,0),(1,0),(4,0),(4,5),(5,0),(5,1)],[],[none,some ((bl 9 14),(bl 10239 14)),none,some ((bl 8 14),(bl 10238 14)),none,none],[],[],false,false,[]⟩
def zZ8:CF:=cfD zHz 212
def zNW(L:Nat):CBC:=noC
def zEu(L:Nat):Dk:=fun _=>yh (zj []) (zNW L) L zZ8
def zCT:Hint:=⟨[(0,0),(2,1),(3,1)],[],[none,none,none],[],[],false,false,[]⟩
def zXo:CF:=cfD zCT 211
def zJB(L:Nat):CBC:=(xe 613 (zEu L) noC)
def zMV(L:Nat):Dk:=fun _=>yh (zj []) (zJB L) L zXo
def zyJ:Hint:=⟨[(1,3)],[],[none],[],[],false,false,[]⟩
def zST:CF:=cfD zyJ 228
def zES(L:Nat):CBC:=(xe 594 (zse L) (xe 562 (zcJ xY L) noC))
def zjC(L:Nat):Dk:=fun _=>yh (zj []) (zES L) L zST
def zEa:Hint:=⟨[],[],[none],[],[],false,false,[]⟩
def zWV:CF:=cfD zEa 223
def zJ9(L:Nat):CBC:=(xe 513 (zna zbq L) (xe 630 (zjC L) noC))
def zmX(L:Nat):Dk:=fun _=>yh (zj []) (zJ9 L) L zWV
def zBO:Hint:=⟨[(1,4)],[],[none],[],[],false,false,[]⟩
def zVN:CF:=cfD zBO 234
def zHo(L:Nat):CBC:=(xe 563 (zyw L) noC)
def zqe(L:Nat):Dk:=fun _=>yh (zj []) (zHo L) L zVN
def zBa:Hint:=⟨[(3,7),(4,4)],[],[none,none,none],[],[],false,false,[]⟩
def zVO:CF:=cfD zBa 230
def zHy(L:Nat):CBC:=(xe 563 (zyw L) (xe 561 (zIR L) (xe 636 (zqe L) (xe 553 (zdJ xJ L) noC))))
def zxo(L:Nat):Dk:=fun _=>yh (zj []) (zHy L) L zVO
def zBn:Hint:=⟨[],[],[none,none,none,some ((bl 504 34),(bl 12582911999 34)),none,some ((bl 192 34),(bl 12582911687 34)),none,none,none],[],[],false,false,[]⟩
def zVl:CF:=cfD zBn 231
def zHt(L:Nat):CBC:=(xe 552 (znf xp L) (xe 632 (zxo L) (xe 565 (zrP zbJ L) (xe 636 (zqe L) (xe 562 (zcJ xY L) (xe 553 (zdJ xJ L) noC))))))
def zJe(L:Nat):Dk:=fun _=>yh (zj []) (zHt L) L zVl
def zLj:Hint:=⟨[],[],[none],[],[],false,false,[]⟩
def z2Z:CF:=cfD zLj 226
def zQu(L:Nat):CBC:=(xe 633 (zJe L) (xe 630 (zjC L) noC))
def zyq(L:Nat):Dk:=fun _=>yh (zj []) (zQu L) L z2Z
def zLl:Hint:=⟨[],[],[none],[],[],false,false,[]⟩
def z2r:CF:=cfD zLl 229
def zPQ(L:Nat):CBC:=(xe 562 (zcJ xY L) noC)
def zSw(L:Nat):Dk:=fun _=>yh (zj []) (zPQ L) L z2r
def zBI:Hint:=⟨[],[],[none],[],[],false,false,[]⟩
def zVI:CF:=cfD zBI 221
def zGW(L:Nat):CBC:=(xe 631 (zSw L) (xe 628 (zyq L) (xe 625 (zmX L) (xe 528 (zdS yX L) (xe 630 (zjC L) (xe 553 (zdJ xJ L) noC))))))
def zJQ(L:Nat):Dk:=fun _=>yh (zj []) (zGW L) L zVI
def zEi:Hint:=⟨[],[],[none],[],[],false,false,[]⟩
def zXA:CF:=cfD zEi 217
def zJq(L:Nat):CBC:=(xe 623 (zJQ L) (xe 562 (zcJ xY L) noC))
def zz8(L:Nat):Dk:=fun _=>yh (zj []) (zJq L) L zXA
def zDD:Hint:=⟨[],[],[none],[],[],false,false,[]⟩
def zW5:CF:=cfD zDD 222
def zJf(L:Nat):CBC:=(xe 528 (zdS yX L) (xe 625 (zmX L) noC))
def zAX(L:Nat):Dk:=fun _=>yh (zj []) (zJf L) L zW5
def zA5:Hint:=⟨[(5,1)],[],[none,none,none,none,none],[],[],false,false,[]⟩
def zWj:CF:=cfD zA5 218
def zHN(L:Nat):CBC:=(xe 624 (zAX L) (xe 529 (zee zaY L) noC))
def zK5(L:Nat):Dk:=fun _=>yh (zj []) (zHN L) L zWj
def zCP:Hint:=⟨[],[],[none],[],[],false,false,[]⟩
def zYC:CF:=cfD zCP 225
def zJ5(L:Nat):CBC:=(xe 628 (zyq L) (xe 562 (zcJ xY L) noC))
def zM5(L:Nat):Dk:=fun _=>yh (zj []) (zJ5 L) L zYC
def zKR:Hint:=⟨[],[],[none],[],[],false,false,[]⟩
def z07:CF:=cfD zKR 224
def zOz(L:Nat):CBC:=(xe 632 (zxo L) (xe 630 (zjC L) noC))
def zSn(L:Nat):Dk:=fun _=>yh (zj []) (zOz L) L z07
def zEo:Hint:=⟨[],[],[none,some ((bl 78 24),(bl 16777167 24)),none,some ((bl 12 24),(bl 16777165 24)),none,none],[],[],false,false,[]⟩
def zXq:CF:=cfD zEo 236
def zKb(L:Nat):CBC:=noC
def zM8(L:Nat):Dk:=fun _=>yh (zj []) (zKb L) L zXq
def zBp:Hint:=⟨[(0,1),(2,1)],[],[none],[],[],false,false,[]⟩
def zUI:CF:=cfD zBp 233
def zGQ(L:Nat):CBC:=(xe 638 (zM8 L) noC)
def zJ4(L:Nat):Dk:=fun _=>yh (zj []) (zGQ L) L zUI
def zBt:Hint:=⟨[(4,3),(6,3)],[],[none,none,none,none],[],[],false,false,[]⟩
def zWp:CF:=cfD zBt 237
def zGt(L:Nat):CBC:=(xe 594 (zse L) (xe 528 (zdS yX L) (xe 593 (zrK xL L) (xe 636 (zqe L) (xe 553 (zdJ xJ L) noC)))))
def zKG(L:Nat):Dk:=fun _=>yh (zj []) (zGt L) L zWp
def zvB:Hint:=⟨[],[],[none],[],[],false,false,[]⟩
def zPM:CF:=cfD zvB 235
def zzg(L:Nat):CBC:=(xe 639 (zKG L) (xe 625 (zmX L) noC))
def zBJ(L:Nat):Dk:=fun _=>yh (zj []) (zzg L) L zPM
def zBV:Hint:=⟨[],[],[none],[],[],false,false,[]⟩
def zUx:CF:=cfD zBV 232
def zHv(L:Nat):CBC:=(xe 637 (zBJ L) (xe 529 (zee zaY L) noC))
def zKV(L:Nat):Dk:=fun _=>yh (zj []) (zHv L) L zUx
def zvn:Hint:=⟨[],[],[none],[(1,[5])],[],false,false,[]⟩
def zPA:CF:=cfD zvn 227
def zyH(L:Nat):CBC:=(xe 634 (zKV L) (xe 589 (zw9 L) (xe 453 (zfy zai L) (xe 635 (zJ4 L) noC))))
def zBf(L:Nat):Dk:=fun _=>yh (zj []) (zyH L) L zPA
def zB3:Hint:=⟨[(3,4)],[],[none,none,none],[],[],false,false,[]⟩
def zWu:CF:=cfD zB3 219
def zHw(L:Nat):CBC:=(xe 629 (zBf L) (xe 626 (zSn L) (xe 628 (zyq L) (xe 627 (zM5 L) (xe 594 (zse L) (xe 625 (zmX L) (xe 624 (zAX L) (xe 619 (zz8 L) noC))))))))
def zKv(L:Nat):Dk:=fun _=>yh (zj []) (zHw L) L zWu
def zBv:Hint:=⟨[(10,2)],[],[none,none,none,none,none,none,none,none,none],[],[],false,false,[]⟩
def zVg:CF:=cfD zBv 213
def zGv(L:Nat):CBC:=(xe 621 (zKv L) (xe 620 (zK5 L) (xe 619 (zz8 L) (xe 529 (zee zaY L) noC))))
def zxn(L:Nat):Dk:=fun _=>yh (zj []) (zGv L) L zVg
def zDF:Hint:=⟨[(0,0),(5,13)],[],[none,some ((bl 810 44),(bl 17577153655615 44)),none,some ((bl 264 44),(bl 17577153655071 44)),none,none,some ((bl 192 44),(bl 17577153654999 44)),none,none],[],[],false,false,[]⟩
def zX1:CF:=cfD zDF 214
def zKl(L:Nat):CBC:=(xe 614 (zxn L) noC)
def zNx(L:Nat):Dk:=fun _=>yh (zj []) (zKl L) L zX1
def zBm:Hint:=⟨[],[],[none,none,none,some ((bl 50331665 40),(bl 1099511627743 40)),none,some ((bl 16 40),(bl 1099511627743 40)),none,none],[],[],false,false,[]⟩
def zUz:CF:=cfD zBm 220
def zHB(L:Nat):CBC:=noC
def zLp(L:Nat):Dk:=fun _=>yh (zj []) (zHB L) L zUz
def zA9:Hint:=⟨[(1,2)],[],[none,none,none,none,none],[],[],false,false,[]⟩
def zUy:CF:=cfD zA9 215
def zGX(L:Nat):CBC:=(xe 622 (zLp L) noC)
def zKz(L:Nat):Dk:=fun _=>yh (zj []) (zGX L) L zUy
def zHg:Hint:=⟨[(0,0),(0,2),(4,6),(4,8),(6,7),(6,9),(8,0),(8,4),(10,18),(12,20),(14,16),(17,0),(18,0),(18,4),(21,0),(21,9),(23,10),(23,12),(25,13),(26,0),(26,11),(29,7),(30,0),(30,9),(32,9),(34,9),(35,0)],[],[none,none,none,none,none,none,none,none,none,none,none,none,none,none,none,none,none,none,none,none,none,none,none,none,none,none,none,none,none,none],[(21,[9])],[],false,false,[]⟩
def z0f:CF:=cfD zHg 207
def zNh(L:Nat):CBC:=(xe 616 (zKz L) (xe 615 (zNx L) (xe 614 (zxn L) (xe 613 (zEu L) (xe 494 (zis zs5 L) (xe 591 (zuz L) (xe 612 (zMV L) (xe 130 (zo6 zW L) (xe 611 (zK7 L) (xe 453 (zfy zai L) noC))))))))))
def zQk(L:Nat):Dk:=fun _=>yh (zj []) (zNh L) L z0f
def zJV:Hint:=⟨[(0,1),(1,2),(1,3),(3,1),(5,0),(7,0),(8,2),(10,0),(13,2),(20,0),(22,0),(27,5),(28,0),(28,4),(32,5),(34,4),(34,5),(34,7),(36,1),(38,0),(38,2)],[(28,3)],[none,none,none,none,none,none,none,some ((bl 60129556512 134),(bl 21479575417666174971013579263329479457343 134)),none,some ((bl 6144 134),(bl 21479575417666174971013579263329479449119 134)),none,none,none,none,some ((bl 448 134),(bl 21479575417666174971013579263329479443423 134)),none,some ((bl 448 134),(bl 21479575417666174971013579263329479443423 134)),none,none,none,none,none,none,none,some ((bl 448 134),(bl 21479575417666174971013579263329479443423 134)),none],[],[],false,false,[]⟩
def z2P:CF:=cfD zJV 194
def zPf(L:Nat):CBC:=(xe 606 (zQk L) (xe 591 (zuz L) (xe 605 (zNU L) (xe 604 (zNc L) (xe 603 (zK6 L) (xe 602 (zJF L) (xe 601 (zQa L) (xe 600 (zLi L) (xe 599 (zNL L) noC)))))))))
def zR8(L:Nat):Dk:=fun _=>yh (zj []) (zPf L) L z2P
def zwg:Hint:=⟨[(1,4),(1,5)],[],[none,none,none,none,none,none,none,none],[],[],false,false,[]⟩
def zQv:CF:=cfD zwg 185
def zzk(L:Nat):CBC:=(xe 591 (zuz L) (xe 590 (zR8 L) noC))
def zB2(L:Nat):Dk:=fun _=>yh (zj []) (zzk L) L zQv
def zDl:Hint:=⟨[(0,0),(0,1),(1,5)],[],[none,none,none,none,none,none,none],[],[],false,false,[]⟩
def zXI:CF:=cfD zDl 168
def zJR(L:Nat):CBC:=(xe 560 (zB2 L) (xe 559 (zGP L) noC))
def zNQ(L:Nat):Dk:=fun _=>yh (zj []) (zJR L) L zXI
def zEA:Hint:=⟨[(0,0),(3,3)],[],[none,none,none,none,none,none,none,some ((bl 805306638 45),(bl 34634616271679 45)),none,some ((bl 256 45),(bl 34634616271671 45)),none,none,some ((bl 192 45),(bl 34634616271863 45)),none],[],[],false,false,[]⟩
def zXD:CF:=cfD zEA 137
def zKr(L:Nat):CBC:=(xe 524 (zNQ L) (xe 134 (zsi zjx L) (xe 523 (zSL L) (xe 153 (zeO zb L) noC))))
def zNz(L:Nat):Dk:=fun _=>yh (zj []) (zKr L) L zXD
def zzj:Hint:=⟨[(0,0),(1,4),(1,9)],[],[none],[],[],false,false,[]⟩
def zTl:CF:=cfD zzj 138
def zDg(L:Nat):CBC:=noC
def zGG(L:Nat):Dk:=fun _=>yh (zj []) (zDg L) L zTl
def zyU:Hint:=⟨[(0,0),(0,1),(1,0),(5,3),(6,0),(6,12),(8,0),(8,1)],[],[none,some ((bl 28774 33),(bl 6845103743 33)),none,some ((bl 32 33),(bl 6845103675 33)),none,none],[],[],false,false,[]⟩
def zS0:CF:=cfD zyU 142
def zCY(L:Nat):CBC:=(xe 153 (zeO zb L) (xe 517 (zvq L) noC))
def zvD(L:Nat):Dk:=fun _=>yh (zj []) (zCY L) L zS0
def zGY:Hint:=⟨[(0,0),(0,1),(1,0),(6,0),(6,7),(8,0),(8,5),(8,10)],[],[none,some ((bl 809 39),(bl 549553962943 39)),none,some ((bl 41 39),(bl 549553962943 39)),none,none,none],[],[],false,false,[]⟩
def zZ1:CF:=cfD zGY 169
def zN1(L:Nat):CBC:=(xe 441 (zta L) (xe 136 (zod zy L) noC))
def zQm(L:Nat):Dk:=fun _=>yh (zj []) (zN1 L) L zZ1
def zKI:Hint:=⟨[(0,0),(0,1),(3,2),(5,0),(9,2),(10,3),(12,0),(12,1)],[],[none,some ((bl 114709 39),(bl 549747422527 39)),none,some ((bl 21 39),(bl 549747422527 39)),none,none,some ((bl 192 39),(bl 549747422703 39)),none,some ((bl 1879048193 39),(bl 481036334575 39)),none,some ((bl 1 39),(bl 481036334575 39)),none,none],[],[],false,false,[]⟩
def z1U:CF:=cfD zKI 140
def zPq(L:Nat):CBC:=(xe 525 (zQm L) (xe 480 (zvR L) (xe 483 (zvD L) noC)))
def zSE(L:Nat):Dk:=fun _=>yh (zj []) (zPq L) L z1U
def zDj:Hint:=⟨[(4,2)],[],[none,some ((bl 456 19),(bl 524255 19)),none,some ((bl 8 19),(bl 524255 19)),none,none],[],[],false,false,[]⟩
def zX5:CF:=cfD zDj 141
def zLb(L:Nat):CBC:=noC
def zNG(L:Nat):Dk:=fun _=>yh (zj []) (zLb L) L zX5
def zyI:Hint:=⟨[(0,0),(0,1),(0,2),(0,3),(0,4),(8,3),(10,7),(10,8),(13,5),(18,2),(21,4),(22,6),(22,7)],[],[none,none,none,some ((bl 492581209251048 153),(bl 11417981541574946208765741796140502961711488751 153)),none,some ((bl 7392 153),(bl 11417981541574946208765741796140502961711488743 153)),none,none,none,some ((bl 448 153),(bl 11417981541574946208765741796140502961711481799 153)),none,some ((bl 448 153),(bl 11417981541574946208765741796140502961711481799 153)),none,some ((bl 67699845898911814992977128 153),(bl 11417981541647678929624043984199454700745523183 153)),none,some ((bl 492581209431272 153),(bl 11417981541647678929624043984199454700745523183 153)),none,none,some ((bl 448 153),(bl 11417981541574946208765741796140502961711481799 153)),none,none,none,none,none,none,none,none],[],[],false,false,[]⟩
def zTy:CF:=cfD zyI 88
def zC8(L:Nat):CBC:=(xe 482 (zNG L) (xe 483 (zvD L) (xe 481 (zSE L) (xe 479 (zGG L) (xe 480 (zvR L) (xe 478 (zNz L) (xe 477 (zM3 L) (xe 472 (zus L) (xe 429 (ziC L) (xe 476 (zNR L) noC))))))))))
def zFK(L:Nat):Dk:=fun _=>yh (zj []) (zC8 L) L zTy
def zGo:Hint:=⟨[(0,0),(0,1)],[],[none],[],[],false,false,[]⟩
def z0d:CF:=cfD zGo 146
def zNm(L:Nat):CBC:=(xe 515 (zej L) noC)
def zOT(L:Nat):Dk:=fun _=>yh (zj []) (zNm L) L z0d
def zyM:Hint:=⟨[(0,0),(0,1),(0,3)],[],[none,none,none,none,none,none,none],[],[],false,false,[]⟩
def zS6:CF:=cfD zyM 90
def zDG(L:Nat):CBC:=(xe 429 (ziC L) (xe 487 (zOT L) noC))
def zvJ(L:Nat):Dk:=fun _=>yh (zj []) (zDG L) L zS6
def zDm:Hint:=⟨[(0,0),(0,1),(1,4),(1,7),(8,3)],[],[none,none,none,none,none,none,none,none,none,none,none,none,none,none,none,none,none,none,some ((bl 132226261520350065984000 93),(bl 9903520314283042199192985231 93)),none,some ((bl 0 93),(bl 9903520314283042199192984719 93)),none,none,some ((bl 256 93),(bl 9903520314283042199192984975 93)),none],[],[],false,false,[]⟩
def zXP:CF:=cfD zDm 89
def zLd(L:Nat):CBC:=(xe 486 (zx4 L) (xe 485 (zvX L) (xe 484 (zEk L) (xe 446 (zvJ L) noC))))
def zNE(L:Nat):Dk:=fun _=>yh (zj []) (zLd L) L zXP
def zK2:Hint:=⟨[(0,1),(6,16),(6,17),(7,6),(8,5),(8,9),(8,10),(10,6),(11,1),(11,6),(12,1),(12,6)],[],[none,some ((bl 3758096404 112),(bl 4941240693938888968870671530582079 112)),none,some ((bl 20 112),(bl 4941240693938888968870671530582079 112)),none,none,none,none],[],[],false,false,[]⟩
def z1S:CF:=cfD zK2 51
def zOv(L:Nat):CBC:=(xe 446 (zvJ L) (xe 445 (zNE L) (xe 444 (zFK L) (xe 443 (zOH L) noC))))
def zSu(L:Nat):Dk:=fun _=>yh (zj []) (zOv L) L z1S
def zGC:Hint:=⟨[(0,0)],[],[none],[],[],false,false,[]⟩
def zZE:CF:=cfD zGC 20
def zMW(L:Nat):CBC:=(xe 424 (zSu L) (xe 442 (zPD L) noC))
def zOy(L:Nat):Dk:=fun _=>yh (zj []) (zMW L) L zZE
def zJH(L:Nat):CBC:=(xe 501 (zis zDu L) (xe 128 (zrL yA L) noC))
def zAS(L:Nat):Dk:=fun _=>yh (zj []) (zJH L) L zCM
def zV4(L:Nat):CBC:=(xe 583 (zAS L) noC)
def zY4(L:Nat):Dk:=fun _=>yh (zj []) (zV4 L) L z8v
def zDN(L:Nat):CBC:=(xe 548 (zY4 L) noC)
def zHI(L:Nat):Dk:=fun _=>yh (zj []) (zDN L) L cf_block_coins
def zOF(L:Nat):CBC:=(xe 583 (zAS L) noC)
def zSd(L:Nat):Dk:=fun _=>yh (zj []) (zOF L) L zML
def zDM(L:Nat):CBC:=(xe 458 (zis zs5 L) noC)
def zF4(L:Nat):Dk:=fun _=>yh (zj []) (zDM L) L zxA
def zyT(L:Nat):CBC:=(xe 617 (zF4 L) noC)
def zBR(L:Nat):Dk:=fun _=>yh (zj []) (zyT L) L cf_merkle_levels
def zEw(L:Nat):CBC:=(xe 608 (zBR L) noC)
def zHf(L:Nat):Dk:=fun _=>yh (zj []) (zEw L) L zxF
def zGS(L:Nat):CBC:=(xe 597 (zHf L) (xe 596 (zSd L) noC))
def zKY(L:Nat):Dk:=fun _=>yh (zj []) (zGS L) L cf_block_Root
def zEx(L:Nat):CBC:=(xe 579 (zKY L) (xe 578 (zHI L) (xe 131 (zCo y5 L) (xe 151 (zm7 yo L) (xe 577 (zlA zB L) noC)))))
def zGE(L:Nat):Dk:=fun _=>yh (zj []) (zEx L) L cf_block_Check
end
end
section
noncomputable section
def zGa:Hint:=⟨[(1,5),(2,1)],[],[none],[],[],false,false,[]⟩
def zAf:CF:=cfD zGa 11
def zsq(L:Nat):CBC:=(xe 542 (zGE L) (xe 502 (zd0 zg L) (xe 422 (zOy L) noC)))
abbrev zes:=∀ (β:Type),Nat→Ob β→Ob β
def yR:zes:=fun β L k=>chk (30000≤L) k
theorem z1B(β:Type)(n:Nat)(k:KK β):yh (zj []) (zsq (n+30000)) (n+30000) zAf [] [] k=k (.sc (.bool true)) []:=by kernel_rfl
def zpx(yR:zes)(L:Nat):Dk:=d0 fun β k=>yR β L (k (.sc (.bool true)) [])
theorem zWQ(L:Nat):DK (zpx yR L) (fun _=>yh (zj []) (zsq L) L zAf):=z9R (X:=fun L _=>yh (zj []) (zsq L) L zAf) z1B L
end
end
end Go.Proofs.YtgmhijonllockaaGreatDoor
