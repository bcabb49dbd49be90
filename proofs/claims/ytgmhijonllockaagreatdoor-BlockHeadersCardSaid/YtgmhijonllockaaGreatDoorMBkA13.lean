/- Part 13 of the proof of BkA: an abstract machine over plain values, its soundness, and the functions of the program on plain values. -/
import Derived.Test.YtgmhijonllockaaGreatDoorMBkA12
namespace Go.Proofs.YtgmhijonllockaaGreatDoor
set_option maxRecDepth 100000
set_option linter.unusedVariables false
set_option linter.unusedSimpArgs false
open List renaming getD_eq_getElem?_getD->Ws,replicate->We,map_cons->QW,getD_cons_succ->X4,getElem?_eq_getElem->Wc,map_nil->X6,mem_cons->Q9,getElem?_eq_none->Q3,getD_cons_zero->Yb,mem_replicate->Yc
open Nat renaming add->X0,mod->X1,shiftRight->X2,xor->X3,le_of_ble_eq_true->X5,land->X7,shiftLeft->X8,mul->X9
open IntKind renaming wrap->QG
open Int renaming toNat->XM,toNat_natCast->XQ,natCast_emod->Ya
section
def frc{α:Type}(n:Nat)(k:Nat→α):α:=Nat.casesOn (motive:=fun _=>α) n (k 0) (fun m=>k (Nat.succ m))
theorem zpz{α:Type}(n:Nat)(k:Nat→α):frc n k=k n:=by cases n <;> rfl
def zqM(a n:Nat):Nat:=Nat.lor (X1 (X8 a (Nat.sub 32 n)) 4294967296) (X2 a n)
def s2N(a b c d:Nat):Nat:=X1 (X0 (X1 (X0 (X1 (X0 a (X3 (X3 (zqM b 7) (zqM b 18)) (X2 b 3))) 4294967296) c) 4294967296) (X3 (X3 (zqM d 17) (zqM d 19)) (X2 d 10))) 4294967296
def t1N(e f g h kk ww:Nat):Nat:=X1 (X0 (X1 (X0 (X1 (X0 (X1 (X0 h (X3 (X3 (zqM e 6) (zqM e 11)) (zqM e 25))) 4294967296) (X3 (X7 e f) (X7 (X3 4294967295 e) g))) 4294967296) kk) 4294967296) ww) 4294967296
def t2N(a b c:Nat):Nat:=X1 (X0 (X3 (X3 (zqM a 2) (zqM a 13)) (zqM a 22)) (X3 (X3 (X7 a b) (X7 a c)) (X7 b c))) 4294967296
def zp5:Nat→Nat→List Nat→List Nat
 | 0,_,w=>w
 | m+1,t,w=>frc (s2N (w.getD (t-16) 0) (w.getD (t-15) 0) (w.getD (t-7) 0) (w.getD (t-2) 0)) fun x=>zp5 m (t+1) (w.set t x)
def zyq(l:List Nat)(t:Nat):Nat:=X0 (X9 (X0 (X9 (X0 (X9 (l.getD (4*t) 0) 256) (l.getD (4*t+1) 0)) 256) (l.getD (4*t+2) 0)) 256) (l.getD (4*t+3) 0)
def zsC:Nat→Nat→List Nat→List Nat→List Nat
 | 0,_,_,w=>w
 | m+1,t,l,w=>frc (zyq l t) fun x=>zsC m (t+1) l (w.set t x)
def zhR(l:List Nat):List Nat:=zp5 48 16 (zsC 16 0 l (We 64 0))
def kcN:List Nat:=[1116352408,1899447441,3049323471,3921009573,961987163,1508970993,2453635748,2870763221,3624381080,310598401,607225278,1426881987,1925078388,2162078206,2614888103,3248222580,3835390401,4022224774,264347078,604807628,770255983,1249150122,1555081692,1996064986,2554220882,2821834349,2952996808,3210313671,3336571891,3584528711,113926993,338241895,666307205,773529912,1294757372,1396182291,1695183700,1986661051,2177026350,2456956037,2730485921,2820302411,3259730800,3345764771,3516065817,3600352804,4094571909,275423344,430227734,506948616,659060556,883997877,958139571,1322822218,1537002063,1747873779,1955562222,2024104815,2227730452,2361852424,2428436474,2756734187,3204031479,3329325298]
def zEz(w:List Nat):List Nat→Nat→Nat→Nat→Nat→Nat→Nat→Nat→Nat→Nat→List Nat
 | kk::ks,t,a,b,c,d,e,f,g,h=>frc (t1N e f g h kk (w.getD t 0)) fun x=>frc (X1 (X0 x (t2N a b c)) 4294967296) fun y=>frc (X1 (X0 d x) 4294967296) fun z=>zEz w ks (t+1) y a b c z e f g
 | [],_,a,b,c,d,e,f,g,h=>[a,b,c,d,e,f,g,h]
def zSU:List Nat→List Nat→List Nat
 | x::xs,y::ys=>frc (X1 (X0 x y) 4294967296) fun z=>z::zSU xs ys
 | _,_=>[]
def zQ8(hs l:List Nat):List Nat:=zSU hs (zEz (zhR l) kcN 0 (hs.getD 0 0) (hs.getD 1 0) (hs.getD 2 0) (hs.getD 3 0) (hs.getD 4 0) (hs.getD 5 0) (hs.getD 6 0) (hs.getD 7 0))
def goN:List Nat→Nat→Nat→Nat→Nat→Nat→Nat→Nat→Nat→Nat→Nat→Nat→Nat→Nat→Nat→Nat→Nat→Nat→Nat→Nat→Nat→Nat→Nat→Nat→Nat→List Nat
 | [],_,_,_,_,_,_,_,_,_,_,_,_,_,_,_,_,a,b,c,d,e,f,g,h=>[a,b,c,d,e,f,g,h]
 | kk::ks,w0,w1,w2,w3,w4,w5,w6,w7,w8,w9,w10,w11,w12,w13,w14,w15,a,b,c,d,e,f,g,h=>frc (t1N e f g h kk w0) fun x=>frc (X1 (X0 x (t2N a b c)) 4294967296) fun y=>frc (X1 (X0 d x) 4294967296) fun z=>frc (s2N w0 w1 w9 w14) fun v=>goN ks w1 w2 w3 w4 w5 w6 w7 w8 w9 w10 w11 w12 w13 w14 w15 v y a b c z e f g
def zQg:List Nat→List Nat
 | a::b::c::d::r=>frc (X0 (X9 (X0 (X9 (X0 (X9 a 256) b) 256) c) 256) d) fun w=>w::zQg r
 | _=>[]
def zQG(hs l:List Nat):List Nat:=match hs with
 | a::b::c::d::e::f::g::h::_=>(match zQg l with
  | w0::w1::w2::w3::w4::w5::w6::w7::w8::w9::w10::w11::w12::w13::w14::w15::_=>zSU hs (goN kcN w0 w1 w2 w3 w4 w5 w6 w7 w8 w9 w10 w11 w12 w13 w14 w15 a b c d e f g h)
  | _=>[])
 | _=>[]
def zQW:Nat→Nat→List Nat→List Nat→List Nat
 | 0,_,_,h=>h
 | m+1,i,p,h=>zQW m (i+1) p (zQG h ((p.drop (64*i)).take 64))
def init0N:List Nat:=[1779033703,3144134277,1013904242,2773480762,1359893119,2600822924,528734635,1541459225]
def zjL(x i:Nat):Nat:=X1 (X2 x i) 256
def zQ7:List Nat→List Nat
 | []=>[]
 | x::xs=>zjL x 24::zjL x 16::zjL x 8::zjL x 0::zQ7 xs
def z80(n:Nat):List Nat:=[zjL (8*n) 56,zjL (8*n) 48,zjL (8*n) 40,zjL (8*n) 32,zjL (8*n) 24,zjL (8*n) 16,zjL (8*n) 8,zjL (8*n) 0]
def zEi(n:Nat):List Nat:=(128::We (zs n) 0)++z80 n
def zth(l:List Nat):List Nat:=zQ7 (zQW ((l++zEi l.length).length / 64) 0 (l++zEi l.length) init0N)
def yY(l:List Nat):List Int:=l.map fun (n:Nat)=>(n:Int)
def zj4(l:List Nat):Prop:=∀ x∈l,x<4294967296
theorem z0W(n:Nat):QG .u32 (n:Int)=((X1 n 4294967296:Nat):Int):=by
 show (n:Int) % ((4294967296:Nat):Int)=_
 rw [← Ya]; rfl
theorem zQK(n:Nat)(h:n<4294967296):QG .u32 (n:Int)=(n:Int):=by
 rw [z0W]; congr 1; exact Nat.mod_eq_of_lt h
theorem zTf{a:Nat}(h:a<4294967296):(BitVec.ofInt (IntKind.bits .u32) (a:Int)).toNat=a:=by
 rw [BitVec.toNat_ofInt]
 show ((a:Int) % ((2 ^ 32:Nat):Int)).toNat=_
 rw [← Ya,XQ,Nat.mod_eq_of_lt (by omega)]
theorem zuX{a b:Nat}(ha:a<4294967296)(hb:b<4294967296):X3 a b<4294967296:=Nat.xor_lt_two_pow (n:=32) ha hb
theorem z9B{a b:Nat}(ha:a<4294967296)(hb:b<4294967296):Nat.lor a b<4294967296:=Nat.or_lt_two_pow (n:=32) ha hb
theorem zyI{a b:Nat}(ha:a<4294967296):X7 a b<4294967296:=Nat.lt_of_le_of_lt Nat.and_le_left ha
theorem zoG{a b:Nat}(ha:a<4294967296)(hb:b<4294967296):zdH .u32 (a:Int) (b:Int)=((X3 a b:Nat):Int):=by
 unfold zdH
 rw [BitVec.toNat_xor,zTf ha,zTf hb]
 exact zQK _ (zuX ha hb)
theorem ycg{a b:Nat}(ha:a<4294967296)(hb:b<4294967296):ior .u32 (a:Int) (b:Int)=((Nat.lor a b:Nat):Int):=by
 unfold ior
 rw [BitVec.toNat_or,zTf ha,zTf hb]
 exact zQK _ (z9B ha hb)
theorem zQC{a b:Nat}(ha:a<4294967296)(hb:b<4294967296):zgv .u32 (a:Int) (b:Int)=((X7 a b:Nat):Int):=by
 unfold zgv
 rw [BitVec.toNat_and,zTf ha,zTf hb]
 exact zQK _ (zyI ha)
theorem ybQ{a:Nat}(ha:a<4294967296):z1v .u32 (a:Int)=((X3 4294967295 a:Nat):Int):=by
 unfold z1v
 rw [BitVec.toNat_xor,zTf ha]
 exact zQK _ (zuX (by decide) ha)
theorem ybL(a n:Nat)(hn:n≤32):zgp .u32 (a:Int) (n:Int)=((X1 (X8 a n) 4294967296:Nat):Int):=by
 unfold zgp
 have:min (XM (n:Int)) (IntKind.bits .u32)=n:=by
  rw [XQ]; exact Nat.min_eq_left hn
 rw [this,show ((a:Int)*2 ^ n)=((X8 a n:Nat):Int) by
  rw [show X8 a n=a <<< n from rfl,Nat.shiftLeft_eq,Int.natCast_mul,Int.natCast_pow]; rfl]
 exact z0W _
theorem zVR(k:IntKind)(a n:Nat)(hn:n≤k.bits):zcM k (a:Int) (n:Int)=((X2 a n:Nat):Int):=by
 unfold zcM
 have:min (XM (n:Int)) k.bits=n:=by
  rw [XQ]; exact Nat.min_eq_left hn
 rw [this,show X2 a n=a >>> n from rfl,Nat.shiftRight_eq_div_pow]
 rw [show ((2:Int) ^ n)=((2 ^ n:Nat):Int) by rw [Int.natCast_pow]; rfl]
 rw [Int.fdiv_eq_ediv_of_nonneg _ (Int.natCast_nonneg _)]
 exact Int.natCast_ediv a (2 ^ n) |>.symm
theorem m32(n:Nat):X1 n 4294967296<4294967296:=Nat.mod_lt _ (by decide)
theorem zVz{a:Nat}(h:a<4294967296)(n:Nat):X2 a n<4294967296:=Nat.lt_of_le_of_lt (Nat.shiftRight_le a n) h
theorem zel{a:Nat}(h:a<4294967296)(n:Nat):zqM a n<4294967296:=z9B (m32 _) (zVz h n)
def rk(n:Nat):Prop:=zgv .u64 (QG .u64 (QG .i64 (0-(n:Int)))) 31=((Nat.sub 32 n:Nat):Int)∧QG .u64 (32-((Nat.sub 32 n:Nat):Int))=(n:Int)∧n≤32
theorem z4O{a n:Nat}(ha:a<4294967296)(hk:rk n):zgs (a:Int) (n:Int)=((zqM a n:Nat):Int):=by
 obtain ⟨h1,h2,h3⟩:=hk
 unfold zgs zqM
 rw [h1,h2,ybL _ _ (by show 32-n≤32; omega),zVR .u32 _ _ h3,ycg (m32 _) (zVz ha n)]
theorem rk7:rk 7:=by unfold rk; decide +kernel
theorem ycw:rk 18:=by unfold rk; decide +kernel
theorem yct:rk 17:=by unfold rk; decide +kernel
theorem ycQ:rk 19:=by unfold rk; decide +kernel
theorem rk6:rk 6:=by unfold rk; decide +kernel
theorem ycV:rk 11:=by unfold rk; decide +kernel
theorem ycY:rk 25:=by unfold rk; decide +kernel
theorem rk2:rk 2:=by unfold rk; decide +kernel
theorem ycZ:rk 13:=by unfold rk; decide +kernel
theorem ycS:rk 22:=by unfold rk; decide +kernel
theorem zur(a b:Nat):QG .u32 ((a:Int)+(b:Int))=((X1 (X0 a b) 4294967296:Nat):Int):=by
 rw [← Int.natCast_add]; exact z0W _
theorem zyL(l:List Nat)(i:Nat):(yY l).getD i 0=((l.getD i 0:Nat):Int):=by
 simp only [yY,Ws,List.getElem?_map]
 cases l[i]? <;> rfl
theorem zUV{l:List Nat}(h:zj4 l)(i:Nat):l.getD i 0<4294967296:=by
 rw [Ws]
 by_cases hi:i<l.length
 ·rw [Wc hi]; exact h _ (List.getElem_mem hi)
 ·rw [Q3 (by omega)]; simp
theorem ycT{w:List Nat}(h:zj4 w)(t:Nat):s2 (yY w) t=((s2N (w.getD (t-16) 0) (w.getD (t-15) 0) (w.getD (t-7) 0) (w.getD (t-2) 0):Nat):Int):=by
 have r:∀ {a n:Nat},a<4294967296→rk n→zgs (a:Int) (n:Int)=((zqM a n:Nat):Int):=z4O
 have h1:=zUV h (t-15)
 have h2:=zUV h (t-2)
 unfold s2 s2N
 simp only [zyL]
 generalize w.getD (t-16) 0=a at *
 generalize w.getD (t-15) 0=b at *
 generalize w.getD (t-7) 0=c at *
 generalize w.getD (t-2) 0=d at *
 rw [show zgs (b:Int) 7=_ from r h1 rk7,show zgs (b:Int) 18=_ from r h1 ycw,show zgs (d:Int) 17=_ from r h2 yct,show zgs (d:Int) 19=_ from r h2 ycQ,
  show zcM .u32 (b:Int) 3=_ from zVR .u32 b 3 (by decide),show zcM .u32 (d:Int) 10=_ from zVR .u32 d 10 (by decide),
  zoG (zel h1 _) (zel h1 _),zoG (zuX (zel h1 _) (zel h1 _)) (zVz h1 _),zoG (zel h2 _) (zel h2 _),zoG (zuX (zel h2 _) (zel h2 _)) (zVz h2 _),
  zur,zur,zur]
theorem ycD{e f g h kk ww:Nat}(he:e<4294967296)(hf:f<4294967296)(hg:g<4294967296):t1 (e:Int) (f:Int) (g:Int) (h:Int) (kk:Int) (ww:Int)=((t1N e f g h kk ww:Nat):Int):=by
 have r:∀ {a n:Nat},a<4294967296→rk n→zgs (a:Int) (n:Int)=((zqM a n:Nat):Int):=z4O
 unfold t1 t1N
 rw [show zgs (e:Int) 6=_ from r he rk6,show zgs (e:Int) 11=_ from r he ycV,show zgs (e:Int) 25=_ from r he ycY,
  zoG (zel he _) (zel he _),zoG (zuX (zel he _) (zel he _)) (zel he _),zQC he hf,ybQ he,zQC (zuX (by decide) he) hg,zoG (zyI he) (zyI (zuX (by decide) he)),
  zur,zur,zur,zur]
theorem ycL{a b c:Nat}(ha:a<4294967296)(hb:b<4294967296)(hc:c<4294967296):t2 (a:Int) (b:Int) (c:Int)=((t2N a b c:Nat):Int):=by
 have r:∀ {a n:Nat},a<4294967296→rk n→zgs (a:Int) (n:Int)=((zqM a n:Nat):Int):=z4O
 unfold t2 t2N
 rw [show zgs (a:Int) 2=_ from r ha rk2,show zgs (a:Int) 13=_ from r ha ycZ,show zgs (a:Int) 22=_ from r ha ycS,
  zoG (zel ha _) (zel ha _),zoG (zuX (zel ha _) (zel ha _)) (zel ha _),zQC ha hb,zQC ha hc,zQC hb hc,zoG (zyI ha) (zyI ha),zoG (zuX (zyI ha) (zyI ha)) (zyI hb),
  zur]
theorem z2b(l:List Nat)(i x:Nat):(yY l).set i (x:Int)=yY (l.set i x):=by simp only [yY,List.map_set]
theorem zYH{l:List Nat}(h:zj4 l)(i:Nat){x:Nat}(hx:x<4294967296):zj4 (l.set i x):=fun y hy=>by
 rcases List.mem_or_eq_of_mem_set hy with h' | rfl
 ·exact h y h'
 ·exact hx
theorem z7d:∀ (m t:Nat) (w:List Nat),zj4 w→zPN m t (yY w)=yY (zp5 m t w)∧zj4 (zp5 m t w)
 | 0,_,_,h=>⟨rfl,h⟩
 | m+1,t,w,h=>by
  simp only [zPN,zp5,zpz]
  rw [ycT h,z2b]
  exact z7d m (t+1) _ (zYH h _ (m32 _))
theorem ybn(l:List Nat)(t:Nat):zMC (yY l) t=((zyq l t:Nat):Int):=by
 unfold zMC zyq
 simp only [zyL]
 simp only [show ∀ a b:Nat,X0 a b=a+b from fun _ _=>rfl,show ∀ a b:Nat,X9 a b=a*b from fun _ _=>rfl]
 omega
def zfn(l:List Nat):Prop:=∀ x∈l,x≤255
theorem zCf{l:List Nat}(h:zfn l)(i:Nat):l.getD i 0≤255:=by
 rw [Ws]
 by_cases hi:i<l.length
 ·rw [Wc hi]; exact h _ (List.getElem_mem hi)
 ·rw [Q3 (by omega)]; simp
theorem z8X{l:List Nat}(h:zfn l)(t:Nat):zyq l t<4294967296:=by
 have h0:=zCf h (4*t)
 have h1:=zCf h (4*t+1)
 have h2:=zCf h (4*t+2)
 have h3:=zCf h (4*t+3)
 unfold zyq
 simp only [show ∀ a b:Nat,X0 a b=a+b from fun _ _=>rfl,show ∀ a b:Nat,X9 a b=a*b from fun _ _=>rfl]
 omega
theorem z7q{l:List Nat}(hl:zfn l):∀ (m t:Nat) (w:List Nat),zj4 w→zOK m t (yY l) (yY w)=yY (zsC m t l w)∧zj4 (zsC m t l w)
 | 0,_,_,h=>⟨rfl,h⟩
 | m+1,t,w,h=>by
  simp only [zOK,zsC,zpz]
  rw [ybn,z2b]
  exact z7q hl m (t+1) _ (zYH h _ (z8X hl t))
theorem z6C(n:Nat):zj4 (We n 0):=fun x hx=>by rw [(Yc.1 hx).2]; decide
theorem yap{l:List Nat}(hl:zfn l):zsE (yY l)=yY (zhR l)∧zj4 (zhR l):=by
 unfold zsE zhR
 have e:We 64 (0:Int)=yY (We 64 0):=by simp [yY]
 obtain ⟨h1,h2⟩:=z7q hl 16 0 _ (z6C 64)
 rw [e,h1]
 exact z7d 48 16 _ h2
theorem ycR:kc=yY kcN:=by kernel_rfl
def Sm8(a b c d e f g h:Nat):Prop:=a<4294967296∧b<4294967296∧c<4294967296∧d<4294967296∧e<4294967296∧f<4294967296∧g<4294967296∧h<4294967296
theorem z4r{w:List Nat}(hs:List Int):∀ (ks:List Nat) (t a b c d e f g h:Nat),kcN.drop t=ks→t+ks.length=64→Sm8 a b c d e f g h →
  ∃ a' b' c' d' e' f' g' h',zEz w ks t a b c d e f g h=[a',b',c',d',e',f',g',h']∧zB8 (yY w) (zB5 hs) ks.length t (a:Int) b c d e f g h=zB5 hs a' b' c' d' e' f' g' h'
 | [],t,a,b,c,d,e,f,g,h,_,_,_=>⟨a,b,c,d,e,f,g,h,rfl,rfl⟩
 | kk::ks,t,a,b,c,d,e,f,g,h,hk,hl,hs8=>by
  obtain ⟨ha,hb,hc,hd,he,hf,hg,hh⟩:=hs8
  have hlt:t<kcN.length:=by show t<64; simp at hl; omega
  have hd':=List.drop_eq_getElem_cons hlt
  rw [hk] at hd'
  have hkk:kcN.getD t 0=kk:=by
   rw [Ws,Wc hlt]
   exact (List.cons.inj hd').1.symm
  simp only [zEz,zpz,List.length_cons,zB8]
  rw [show kc.getD t 0=(kk:Int) by rw [ycR,zyL,hkk],zyL,ycD he hf hg,ycL ha hb hc,zur,zur]
  exact z4r hs ks (t+1) _ a b c _ e f g (List.cons.inj hd').2.symm (by simp at hl; omega) ⟨m32 _,ha,hb,hc,m32 _,he,hf,hg⟩
theorem z5s{l:List Nat}(h:l.length=8):∃ a b c d e f g i,l=[a,b,c,d,e,f,g,i]:=by
 match l,h with
 | [a,b,c,d,e,f,g,i],_=>exact ⟨a,b,c,d,e,f,g,i,rfl⟩
theorem yab{hs l:List Nat}(h8:hs.length=8)(hsm:zj4 hs)(hl:zfn l):zL9 (yY hs) (yY l)=yY (zQ8 hs l)∧(zQ8 hs l).length=8∧zj4 (zQ8 hs l):=by
 obtain ⟨a,b,c,d,e,f,g,h,rfl⟩:=z5s h8
 unfold zL9 zQ8
 rw [(yap hl).1]
 have sm:Sm8 a b c d e f g h:=⟨hsm _ (by simp),hsm _ (by simp),hsm _ (by simp),hsm _ (by simp),hsm _ (by simp),hsm _ (by simp),hsm _ (by simp),hsm _ (by simp)⟩
 obtain ⟨a',b',c',d',e',f',g',h',e1,e2⟩:=z4r (w:=zhR l) (yY [a,b,c,d,e,f,g,h]) kcN 0 a b c d e f g h rfl rfl sm
 simp only [Yb,X4,yY,QW,X6] at e2 ⊢
 refine ⟨?_,?_,?_⟩
 ·refine Eq.trans e2 ?_
  rw [e1]
  simp only [zB5,zSU,zpz,Yb,X4,zur,QW,X6]
 ·rw [e1]; simp only [zSU,zpz]; rfl
 ·rw [e1]; simp only [zSU,zpz]
  intro x hx
  simp only [Q9,List.not_mem_nil,or_false] at hx
  rcases hx with rfl | rfl | rfl | rfl | rfl | rfl | rfl | rfl <;> exact m32 _
theorem zSL{w:List Nat}{t:Nat}(h:t<w.length)(x:Nat):(w.set t x).getD t 0=x:=by
 simp [Ws,h]
theorem zSf{w:List Nat}{t i:Nat}(h:t≠i)(x:Nat):(w.set t x).getD i 0=w.getD i 0:=by
 simp [Ws,List.getElem?_set_ne h]
theorem zPy:∀ (m t:Nat) (w:List Nat),w.length=64→16≤t→t+m≤64→(∀ i,i<t→(zp5 m t w).getD i 0=w.getD i 0) ∧
  ∀ i,t≤i→i<t+m→(zp5 m t w).getD i 0=s2N ((zp5 m t w).getD (i-16) 0) ((zp5 m t w).getD (i-15) 0) ((zp5 m t w).getD (i-7) 0) ((zp5 m t w).getD (i-2) 0)
 | 0,t,w,_,_,_=>⟨fun _ _=>rfl,fun i h1 h2=>by omega⟩
 | m+1,t,w,hw,h16,hm=>by
  simp only [zp5,zpz]
  obtain ⟨g1,g2⟩:=zPy m (t+1) (w.set t (s2N (w.getD (t-16) 0) (w.getD (t-15) 0) (w.getD (t-7) 0) (w.getD (t-2) 0))) (by simpa using hw) (by omega) (by omega)
  have low:∀ i,i<t→(zp5 m (t+1) (w.set t (s2N (w.getD (t-16) 0) (w.getD (t-15) 0) (w.getD (t-7) 0) (w.getD (t-2) 0)))).getD i 0=w.getD i 0:=fun i hi=>by
   rw [g1 i (by omega),zSf (by omega)]
  refine ⟨low,fun i h1 h2=>?_⟩
  by_cases e:i=t
  ·subst e
   rw [low (i-16) (by omega),low (i-15) (by omega),low (i-7) (by omega),low (i-2) (by omega),g1 i (by omega),zSL (by omega)]
  ·exact g2 i (by omega) (by omega)
theorem zZs(l:List Nat):∀ (m t:Nat) (w:List Nat),w.length=64→t+m≤64→(∀ i,i<t→(zsC m t l w).getD i 0=w.getD i 0)∧∀ i,t≤i→i<t+m→(zsC m t l w).getD i 0=zyq l i
 | 0,t,w,_,_=>⟨fun _ _=>rfl,fun i h1 h2=>by omega⟩
 | m+1,t,w,hw,hm=>by
  simp only [zsC,zpz]
  obtain ⟨g1,g2⟩:=zZs l m (t+1) (w.set t (zyq l t)) (by simpa using hw) (by omega)
  refine ⟨fun i hi=>by rw [g1 i (by omega),zSf (by omega)],fun i h1 h2=>?_⟩
  by_cases e:i=t
  ·subst e; rw [g1 i (by omega),zSL (by omega)]
  ·exact g2 i (by omega) (by omega)
theorem zQj(l:List Nat):∀ (m t:Nat) (w:List Nat),(zsC m t l w).length=w.length
 | 0,_,_=>rfl
 | m+1,t,w=>by simp only [zsC,zpz]; rw [zQj]; simp
theorem z5U(l:List Nat){i:Nat}(h:i<16):(zhR l).getD i 0=zyq l i:=by
 unfold zhR
 have hl:(zsC 16 0 l (We 64 0)).length=64:=by rw [zQj]; simp
 rw [(zPy 48 16 _ hl (by omega) (by omega)).1 i h]
 exact (zZs l 16 0 _ (by simp) (by omega)).2 i (by omega) (by omega)
theorem z3l(l:List Nat){i:Nat}(h1:16≤i)(h2:i<64):(zhR l).getD i 0=s2N ((zhR l).getD (i-16) 0) ((zhR l).getD (i-15) 0) ((zhR l).getD (i-7) 0) ((zhR l).getD (i-2) 0):=by
 have hl:(zsC 16 0 l (We 64 0)).length=64:=by rw [zQj]; simp
 exact (zPy 48 16 _ hl (by omega) (by omega)).2 i h1 (by omega)
theorem zVi:∀ (n:Nat) (l:List Nat),l.length=4*n→(zQg l).length=n∧∀ i,i<n→(zQg l).getD i 0=zyq l i
 | 0,l,h=>by
  have:l=[]:=List.length_eq_zero_iff.1 (by omega)
  subst this
  exact ⟨rfl,fun i hi=>by omega⟩
 | n+1,l,h=>by
  match l,h with
  | a::b::c::d::r,h=>
   obtain ⟨g1,g2⟩:=zVi n r (by simp at h; omega)
   simp only [zQg,zpz]
   refine ⟨by simp [g1],fun i hi=>?_⟩
   match i with
   | 0=>rfl
   | i+1=>
    rw [X4,g2 i (by omega)]
    unfold zyq
    rw [show 4*(i+1)+1=(4*i+1)+1+1+1+1 by omega,show 4*(i+1)+2=(4*i+2)+1+1+1+1 by omega,show 4*(i+1)+3=(4*i+3)+1+1+1+1 by omega,show 4*(i+1)=4*i+1+1+1+1 by omega]
    simp only [X4]
theorem z7A(l:List Nat):∀ (ks:List Nat) (t w0 w1 w2 w3 w4 w5 w6 w7 w8 w9 w10 w11 w12 w13 w14 w15 a b c d e f g h:Nat),t+ks.length=64→(∀ i,i<16→t+i<64→([w0,w1,w2,w3,w4,w5,w6,w7,w8,w9,w10,w11,w12,w13,w14,w15]:List Nat).getD i 0=(zhR l).getD (t+i) 0)→goN ks w0 w1 w2 w3 w4 w5 w6 w7 w8 w9 w10 w11 w12 w13 w14 w15 a b c d e f g h=zEz (zhR l) ks t a b c d e f g h
 | [],t,w0,w1,w2,w3,w4,w5,w6,w7,w8,w9,w10,w11,w12,w13,w14,w15,a,b,c,d,e,f,g,h,_,_=>rfl
 | kk::ks,t,w0,w1,w2,w3,w4,w5,w6,w7,w8,w9,w10,w11,w12,w13,w14,w15,a,b,c,d,e,f,g,h,ht,hw=>by
  simp only [List.length_cons] at ht
  simp only [goN,zEz,zpz]
  rw [show (zhR l).getD t 0=w0 from (hw 0 (by omega) (by omega)).symm]
  refine z7A l ks (t+1) _ _ _ _ _ _ _ _ _ _ _ _ _ _ _ _ _ _ _ _ _ _ _ _ (by omega) fun i hi hlt=>?_
  have e:∀ v:Nat,([w1,w2,w3,w4,w5,w6,w7,w8,w9,w10,w11,w12,w13,w14,w15,v]:List Nat).getD i 0=(([w0,w1,w2,w3,w4,w5,w6,w7,w8,w9,w10,w11,w12,w13,w14,w15]:List Nat)++[v]).getD (i+1) 0:=fun v=>rfl
  rw [e]
  by_cases h15:i<15
  ·rw [Ws,List.getElem?_append_left (by show i+1<16; omega),← Ws,hw (i+1) (by omega) (by omega),show t+(i+1)=t+1+i by omega]
  ·have:i=15:=by omega
   subst this
   show s2N w0 w1 w9 w14=_
   rw [show t+1+15=t+16 by omega,z3l l (by omega) (by omega)]
   rw [show t+16-16=t+0 by omega,show t+16-15=t+1 by omega,show t+16-7=t+9 by omega,show t+16-2=t+14 by omega]
   rw [← hw 0 (by omega) (by omega),← hw 1 (by omega) (by omega),← hw 9 (by omega) (by omega),← hw 14 (by omega) (by omega)]
   rfl
theorem ybp{l:List Nat}(h:l.length=16):∃ w0 w1 w2 w3 w4 w5 w6 w7 w8 w9 w10 w11 w12 w13 w14 w15,l=[w0,w1,w2,w3,w4,w5,w6,w7,w8,w9,w10,w11,w12,w13,w14,w15]:=by
 match l,h with
 | [w0,w1,w2,w3,w4,w5,w6,w7,w8,w9,w10,w11,w12,w13,w14,w15],_=>exact ⟨w0,w1,w2,w3,w4,w5,w6,w7,w8,w9,w10,w11,w12,w13,w14,w15,rfl⟩
theorem z8W{hs l:List Nat}(h8:hs.length=8)(hl:l.length=64):zQG hs l=zQ8 hs l:=by
 obtain ⟨a,b,c,d,e,f,g,h,rfl⟩:=z5s h8
 obtain ⟨g1,g2⟩:=zVi 16 l (by omega)
 obtain ⟨w0,w1,w2,w3,w4,w5,w6,w7,w8,w9,w10,w11,w12,w13,w14,w15,hw⟩:=ybp g1
 unfold zQG zQ8
 simp only [hw]
 refine congrArg (zSU [a,b,c,d,e,f,g,h]) (?_:goN kcN w0 w1 w2 w3 w4 w5 w6 w7 w8 w9 w10 w11 w12 w13 w14 w15 a b c d e f g h=zEz (zhR l) kcN 0 a b c d e f g h)
 refine z7A l kcN 0 _ _ _ _ _ _ _ _ _ _ _ _ _ _ _ _ _ _ _ _ _ _ _ _ rfl fun i hi _=>?_
 rw [Nat.zero_add,z5U l hi,← g2 i hi,hw]
theorem ybr{hs l:List Nat}(h8:hs.length=8)(hsm:zj4 hs)(hl:zfn l)(h64:l.length=64):zL9 (yY hs) (yY l)=yY (zQG hs l)∧(zQG hs l).length=8∧zj4 (zQG hs l):=by
 rw [z8W h8 h64]; exact yab h8 hsm hl
theorem z4S(l:List Nat)(n m:Nat):((yY l).drop n).take m=yY ((l.drop n).take m):=by simp only [yY,List.map_drop,List.map_take]
theorem z7a{l:List Nat}(h:zfn l)(n m:Nat):zfn ((l.drop n).take m):=fun x hx=>h x (List.mem_of_mem_drop (List.mem_of_mem_take hx))
theorem z6R{p:List Nat}(hp:zfn p):∀ (m i:Nat) (h:List Nat),64*(i+m)≤p.length→h.length=8→zj4 h→zPW m i (yY p) (yY h)=yY (zQW m i p h)∧(zQW m i p h).length=8∧zj4 (zQW m i p h)
 | 0,_,_,_,h1,h2=>⟨rfl,h1,h2⟩
 | m+1,i,h,hl,h1,h2=>by
  simp only [zPW,zQW]
  obtain ⟨e1,e2,e3⟩:=ybr h1 h2 (z7a hp (64*i) 64) (by rw [List.length_take,List.length_drop]; omega)
  rw [z4S,e1]
  exact z6R hp m (i+1) _ (by omega) e2 e3
theorem z7B:init0=yY init0N∧init0N.length=8:=⟨by kernel_rfl,rfl⟩
theorem z5f:zj4 init0N:=by
 have:init0N.all (fun x=>decide (x<4294967296))=true:=by kernel_rfl
 intro x hx
 simpa using List.all_eq_true.1 this x hx
theorem z7n(k:IntKind)(x i:Nat)(hi:i≤k.bits):QG .u8 (zcM k (x:Int) ((i:Nat):Int))=((zjL x i:Nat):Int):=by
 rw [zVR k _ _ hi]
 show ((X2 x i:Nat):Int) % ((256:Nat):Int)=_
 rw [← Ya]; rfl
theorem ybb{h:List Nat}(h8:h.length=8):zz5 (yY h)=yY (zQ7 h):=by
 obtain ⟨a,b,c,d,e,f,g,i,rfl⟩:=z5s h8
 have q:∀ (x j:Nat),j≤32→QG .u8 (zcM .u32 (x:Int) ((j:Nat):Int))=((zjL x j:Nat):Int):=fun x j hj=>z7n .u32 x j hj
 have r:List.range 32=[0,1,2,3,4,5,6,7,8,9,10,11,12,13,14,15,16,17,18,19,20,21,22,23,24,25,26,27,28,29,30,31]:=by kernel_rfl
 simp only [zz5,r,QW,X6,ob,zyL]
 simp only [zQ7,yY,QW,X6]
 rw [← q a 24 (by decide),← q a 16 (by decide),← q a 8 (by decide),← q a 0 (by decide),← q b 24 (by decide),← q b 16 (by decide),← q b 8 (by decide),← q b 0 (by decide),← q c 24 (by decide),← q c 16 (by decide),← q c 8 (by decide),← q c 0 (by decide),← q d 24 (by decide),← q d 16 (by decide),← q d 8 (by decide),← q d 0 (by decide),← q e 24 (by decide),← q e 16 (by decide),← q e 8 (by decide),← q e 0 (by decide),← q f 24 (by decide),← q f 16 (by decide),← q f 8 (by decide),← q f 0 (by decide),← q g 24 (by decide),← q g 16 (by decide),← q g 8 (by decide),← q g 0 (by decide),← q i 24 (by decide),← q i 16 (by decide),← q i 8 (by decide),← q i 0 (by decide)]
 rfl
theorem zDk(x i:Nat):zjL x i≤255:=by
 have:zjL x i<256:=Nat.mod_lt _ (by decide)
 omega
theorem zSd:∀ l:List Nat,zfn (zQ7 l)
 | []=>fun x hx=>by cases hx
 | y::ys=>fun x hx=>by
  simp only [zQ7,Q9] at hx
  rcases hx with rfl | rfl | rfl | rfl | h
  ·exact zDk _ _
  ·exact zDk _ _
  ·exact zDk _ _
  ·exact zDk _ _
  ·exact zSd ys x h
theorem zPE{n:Nat}(hn:n≤100000000)(i:Nat)(hi:i≤7):pb n i=((zjL (8*n) (56-8*i):Nat):Int):=by
 unfold pb
 have:QG .u64 ((8:Int)*(n:Int))=((8*n:Nat):Int):=by
  show ((8:Int)*(n:Int)) % ((18446744073709551616:Nat):Int)=_
  omega
 rw [this]
 exact z7n .u64 _ _ (by show 56-8*i≤64; omega)
theorem yb4{n:Nat}(hn:n≤100000000):zgU n=yY (zEi n):=by
 unfold zgU zEi
 simp only [yY,List.map_append,QW,List.map_replicate]
 congr 1
 simp only [pbs,z80,QW,X6]
 rw [zPE hn 0 (by decide),zPE hn 1 (by decide),zPE hn 2 (by decide),zPE hn 3 (by decide),zPE hn 4 (by decide),zPE hn 5 (by decide),zPE hn 6 (by decide),zPE hn 7 (by decide)]
theorem z5T(n:Nat):zfn (zEi n):=by
 intro x hx
 simp only [zEi,z80,List.mem_append,Q9,List.not_mem_nil,or_false] at hx
 rcases hx with (rfl | h) | h
 ·decide
 ·rw [(Yc.1 h).2]; decide
 ·rcases h with rfl | rfl | rfl | rfl | rfl | rfl | rfl | rfl <;> exact zDk _ _
theorem z0G{l:List Nat}(hn:l.length≤100000000)(hl:zfn l):zxd (yY l)=yY (zth l)∧zfn (zth l):=by
 have e:yY l++zgU (yY l).length=yY (l++zEi l.length):=by
  rw [show (yY l).length=l.length by simp [yY],yb4 hn]; simp [yY]
 have hb:zfn (l++zEi l.length):=fun x hx=>(List.mem_append.1 hx).elim (hl x) (z5T _ x)
 unfold zxd zth
 rw [e,show (yY (l++zEi l.length)).length=(l++zEi l.length).length by simp [yY],z7B.1]
 obtain ⟨e1,e2,e3⟩:=z6R hb ((l++zEi l.length).length / 64) 0 init0N (by rw [Nat.zero_add]; exact Nat.mul_div_le _ _) z7B.2 z5f
 rw [e1,ybb e2]
 exact ⟨rfl,zSd _⟩
theorem zVT:∀ {l:List Int},(∀ x∈l,0≤x∧x≤255)→l=yY (l.map XM)
 | [],_=>rfl
 | x::l,h=>by
  have hx:=h x (by simp)
  simp only [yY,QW]
  rw [show ((x.toNat:Nat):Int)=x by omega]
  congr 1
  exact zVT fun y hy=>h y (by simp [hy])
theorem z3G{l:List Int}(h:∀ x∈l,0≤x∧x≤255):zfn (l.map XM):=fun x hx=>by
 obtain ⟨y,hy,rfl⟩:=List.mem_map.1 hx
 have:=h y hy
 omega
def zE5(l:List Nat):List Nat:=zth (zth l)
theorem ych{l:List Int}(hn:l.length≤100000000)(h:∀ x∈l,0≤x∧x≤255):zIO l=yY (zE5 (l.map XM)):=by
 have e:=zVT h
 have hb:=z3G h
 generalize hm:l.map XM=m at *
 have hlen:m.length≤100000000:=by rw [← hm]; simpa using hn
 subst e
 unfold zIO zE5
 obtain ⟨e1,e2⟩:=z0G hlen hb
 rw [e1]
 have h32:(zth m).length=32:=by
  have:=zbs (yY m)
  rw [e1] at this; simpa [yY] using this
 exact (z0G (by rw [h32]; decide) e2).1
end
section
theorem zD6{T:Nat→Option CF}{L g D:Nat}{d d':Dk}(h:FOk T L g d D)(hd:DK d' d):FOk T L g d' D:=fun n hn β args bor k r hr=>h n hn β args bor k r (hd _ _ _ _ _ hr)
def zWq:Ls→Option (List Nat)
 | []=>some []
 | [.sc (.int .u8 (.ofNat n))]::r=>match Nat.ble n 255 with
  | true=>(zWq r).map (n::·)
  | false=>none
 | _=>none
theorem zVN:∀ {es:Ls} {l:List Nat},zWq es=some l→es=yq .u8 (yY l)∧zfn l
 | [],l,h=>by cases h; exact ⟨rfl,fun x hx=>by cases hx⟩
 | e::r,l,h=>by
  unfold zWq at h
  split at h
  ·rename_i he; cases he
  ·rename_i n r' he
   cases he
   split at h
   ·rename_i hn
    rw [Option.map_eq_some_iff] at h
    obtain ⟨m,hm,rfl⟩:=h
    obtain ⟨e1,e2⟩:=zVN hm
    refine ⟨by rw [e1]; rfl,fun x hx=>?_⟩
    rcases Q9.1 hx with rfl | h'
    ·exact X5 hn
    ·exact e2 x h'
   ·cases h
  ·cases h
def z8i(l:List Nat):List V:=l.map fun n=>V.sc (.int .u8 (.ofNat n))
theorem yaS(l:List Nat):z8i l=row .u8 (yY l):=by
 simp only [z8i,row,yY,List.map_map]; rfl
def zim(f:List Nat→List Nat)(L:Nat):Dk:=fun β a b k=>match a with
 | [.sl 1 es]=>(match b with
  | []=>(match zWq es with
   | some l=>(match Nat.ble (l.length+300) L&&Nat.ble l.length 100000000 with
    | true=>k (.agg (z8i (f l))) []
    | false=>none)
   | none=>none)
  | _=>none)
 | _=>none
theorem zGD{f:List Nat→List Nat}{L:Nat}{β:Type}{a:List V}{b:Bor}{k:V→Bor→Option β}{r:β}(h:zim f L β a b k=some r):∃ l,a=[.sl 1 (yq .u8 (yY l))]∧b=[]∧zfn l∧l.length+300≤L∧l.length≤100000000∧k (.agg (row .u8 (yY (f l)))) []=some r:=by
 unfold zim at h
 split at h
 ·split at h
  ·split at h
   ·rename_i l hl
    split at h
    ·rename_i hc
     rw [Bool.and_eq_true] at hc
     obtain ⟨rfl,hb⟩:=zVN hl
     exact ⟨l,rfl,rfl,hb,X5 hc.1,X5 hc.2,by rw [← yaS]; exact h⟩
    ·cases h
   ·cases h
  ·cases h
 ·cases h
theorem zjN(l:List Nat):(yY l).length=l.length:=by simp [yY]
theorem zEc{l:List Nat}(h:zfn l):∀ x∈yY l,0≤x∧x≤255:=fun x hx=>by
 obtain ⟨y,hy,rfl⟩:=List.mem_map.1 hx
 have:=h y hy
 omega
theorem z6a(l:List Nat):(yY l).map XM=l:=by
 simp only [yY,List.map_map]
 exact (List.map_congr_left fun x _=>(by simp:(XM ∘ fun (n:Nat)=>(n:Int)) x=id x)).trans (List.map_id l)
theorem z9n{l:List Nat}(hn:l.length≤100000000)(h:zfn l):zIO (yY l)=yY (zE5 l):=by
 have:=ych (l:=yY l) (by rw [zjN]; exact hn) (zEc h)
 rwa [z6a] at this
theorem zRz(L:Nat):DK (zim zE5 L) (ziC xJ L):=by
 intro β a b k r h
 obtain ⟨l,rfl,rfl,hb,h1,h2,hk⟩:=zGD h
 show xJ β L (yq .u8 (yY l)) (fun p0=>k (V.agg p0) [])=some r
 rw [zLG (by rw [zjN]; omega) (by rw [zjN]; omega) (zEc hb),z9n h2 hb]; exact hk
theorem zXk(L:Nat):DK (zim zth L) (zrI yX L):=by
 intro β a b k r h
 obtain ⟨l,rfl,rfl,hb,h1,h2,hk⟩:=zGD h
 show yX β L (yq .u8 (yY l)) (fun p0=>k (V.agg p0) [])=some r
 rw [zQJ (by rw [zjN]; omega) (by rw [zjN]; omega) (zEc hb),(z0G h2 hb).1]; exact hk
theorem zUJ(L:Nat):DK (zim zE5 L) (zpK xX L):=by
 intro β a b k r h
 obtain ⟨l,rfl,rfl,hb,h1,h2,hk⟩:=zGD h
 show xX β L (yq .u8 (yY l)) (fun p0=>k (V.agg p0) [])=some r
 rw [zO9 (by rw [zjN]; omega) (by rw [zjN]; omega) (zEc hb),z9n h2 hb]; exact hk
theorem z0L(L:Nat):DK (zim zth L) (zyE zam L):=by
 intro β a b k r h
 obtain ⟨l,rfl,rfl,hb,h1,h2,hk⟩:=zGD h
 show zam β L (yq .u8 (yY l)) (fun p0=>k (V.agg p0) [])=some r
 rw [zWO (by rw [zjN]; omega) (by rw [zjN]; omega) (zEc hb),(z0G h2 hb).1]; exact hk
end
section
theorem yan(β:Type)(n:Nat)(k:List V→Int→Option β):zS β (n+300) 545259519 k=k [.sc (.int .u64 0),.sc (.int .u64 0),.sc (.int .u64 0),.sc (.int .u64 9223370937343148032)] 0:=by kernel_rfl
def zVH(L:Nat):Dk:=dA (AI .u32) fun x=>d0 fun β k=>chk (x=545259519∧300≤L) (k (.tup [.agg [.sc (.int .u64 0),.sc (.int .u64 0),.sc (.int .u64 0),.sc (.int .u64 9223370937343148032)],.sc (.int .i64 0)]) [])
theorem zRr(L:Nat):DK (zVH L) (zlM zS L):=by
 refine xv zbN fun x=>?_
 intro β a b k r h
 obtain ⟨rfl,rfl,h2⟩:=z2y h
 obtain ⟨hc,h3⟩:=xK h2
 obtain ⟨rfl,hL⟩:=hc
 obtain ⟨n,rfl⟩:∃ n,L=n+300:=⟨L-300,by omega⟩
 show zS β (n+300) 545259519 (fun p0 p1=>k (V.tup [V.agg p0,V.sc (.int .i64 p1)]) [])=some r
 rw [yan]; exact h3
end
section
noncomputable section
def zJI:Hint:=⟨[],[],[none],[],[],false,false,[]⟩
def z16:CF:=cfD zJI 148
def zP4(L:Nat):CBC:=noC
def zSE(L:Nat):Dk:=fun _=>zh (zj []) (zP4 L) L z16
def zEu:Hint:=⟨[(0,0)],[],[none],[],[],false,false,[]⟩
def zXR:CF:=cfD zEu 91
def zK1(L:Nat):CBC:=(xe 513 (znf zbr L) (xe 514 (zSE L) noC))
def zNF(L:Nat):Dk:=fun _=>zh (zj []) (zK1 L) L zXR
def zDu(L:Nat):CBC:=(xe 528 (zdS zX L) (xe 527 (zVH L) (xe 553 (zdK zK L) noC)))
def zef(L:Nat):Dk:=fun _=>zh (zj []) (zDu L) L cf_ref13_Valid
def zG8(L:Nat):CBC:=(xe 454 (zim zE5 L) (xe 455 (zdX xh L) noC))
def ziE(L:Nat):Dk:=fun _=>zh (zj []) (zG8 L) L zAZ
def zCN:Hint:=⟨[(0,0),(0,1)],[],[none,none,none],[],[],false,false,[]⟩
def zYe:CF:=cfD zCN 92
def zLg(L:Nat):CBC:=(xe 429 (ziE L) (xe 515 (zef L) noC))
def zNL(L:Nat):Dk:=fun _=>zh (zj []) (zLg L) L zYe
def zE6:Hint:=⟨[(0,0),(0,1)],[],[none,none,none],[],[],false,false,[]⟩
def zYs:CF:=cfD zE6 93
def zJo(L:Nat):CBC:=(xe 429 (ziE L) (xe 515 (zef L) noC))
def zNV(L:Nat):Dk:=fun _=>zh (zj []) (zJo L) L zYs
def zHB:Hint:=⟨[(0,0),(1,2),(2,2),(2,5),(3,2),(3,5)],[],[none],[],[],false,false,[]⟩
def z0g:CF:=cfD zHB 52
def zNr(L:Nat):CBC:=(xe 469 (zNV L) (xe 468 (zNL L) (xe 467 (zNF L) noC)))
def zO5(L:Nat):Dk:=fun _=>zh (zj []) (zNr L) L z0g
def zNl:Hint:=⟨[(0,0),(2,0),(3,5)],[],[none,none,none],[],[],false,false,[]⟩
def z3k:CF:=cfD zNl 182
def zSH(L:Nat):CBC:=noC
def zVQ(L:Nat):Dk:=fun _=>zh (zj []) (zSH L) L z3k
def zDO:Hint:=⟨[(0,0),(1,4)],[],[none],[],[],false,false,[]⟩
def zW9:CF:=cfD zDO 132
def zJ2(L:Nat):CBC:=noC
def zAE(L:Nat):Dk:=fun _=>zh (zj []) (zJ2 L) L zW9
def zG1:Hint:=⟨[(0,0),(0,1),(3,10),(7,1),(8,1)],[],[none,none],[],[],false,false,[]⟩
def zZ3:CF:=cfD zG1 162
def zM4(L:Nat):CBC:=(xe 448 (zAE L) (xe 554 (zVQ L) noC))
def zOQ(L:Nat):Dk:=fun _=>zh (zj []) (zM4 L) L zZ3
def zNy(L:Nat):CBC:=(xe 454 (zim zE5 L) (xe 149 (zeS yd L) (xe 148 (zeC yc L) noC)))
def zum(L:Nat):Dk:=fun _=>zh (zj []) (zNy L) L z3p
def zr6:Hint:=⟨[(0,0),(0,1),(0,2),(1,0),(3,3),(12,4),(14,5),(14,8),(15,0),(15,7),(16,4),(16,9),(20,3),(21,0),(21,12),(23,0),(23,2)],[],[none,some ((bl 3868 113),(bl 9411032330560892913360804356558847 113)),none,some ((bl 768 113),(bl 9411032330560892913360804356555751 113)),none,none,some ((bl 16156 113),(bl 9411032330560892913360806504054783 113)),none,some ((bl 3868 113),(bl 9411032330560892913360806504046591 113)),none,none,none,none,some ((bl 17331160549995323848588005148 113),(bl 9411038056094375076711524595040255 113)),none,some ((bl 3868 113),(bl 9411038056094375076711524594778111 113)),none,some ((bl 3868 113),(bl 9411032330560892913360806504046591 113)),none],[],[],false,false,[]⟩
def zMj:CF:=cfD zr6 129
def zu3(L:Nat):CBC:=(xe 517 (zum L) (xe 516 (zOQ L) noC))
def zwY(L:Nat):Dk:=fun _=>zh (zj []) (zu3 L) L zMj
def zy5:Hint:=⟨[(0,0)],[],[none,none,none,some ((bl 96 31),(bl 2147483643 31)),none,some ((bl 32 31),(bl 2147483579 31)),none,none],[],[],false,false,[]⟩
def zTA:CF:=cfD zy5 131
def zEy(L:Nat):CBC:=(xe 515 (zef L) noC)
def zud(L:Nat):Dk:=fun _=>zh (zj []) (zEy L) L zTA
def zJV:Hint:=⟨[],[],[none],[],[],false,false,[]⟩
def z2z:CF:=cfD zJV 163
def zPw(L:Nat):CBC:=noC
def zSO(L:Nat):Dk:=fun _=>zh (zj []) (zPw L) L z2z
def zzx:Hint:=⟨[(0,0)],[],[none],[],[],false,false,[]⟩
def zST:CF:=cfD zzx 130
def zDa(L:Nat):CBC:=(xe 518 (zSO L) noC)
def zGn(L:Nat):Dk:=fun _=>zh (zj []) (zDa L) L zST
def zGZ(L:Nat):CBC:=(xe 454 (zim zE5 L) (xe 149 (zeS yd L) (xe 148 (zeC yc L) noC)))
def zJq(L:Nat):Dk:=fun _=>zh (zj []) (zGZ L) L zAW
def zFK(L:Nat):CBC:=(xe 494 (zim zth L) (xe 453 (zfh zai L) noC))
def zK9(L:Nat):Dk:=fun _=>zh (zj []) (zFK L) L zAC
def zBV(L:Nat):CBC:=(xe 588 (zK9 L) noC)
def zDn(L:Nat):Dk:=fun _=>zh (zj []) (zBV L) L cf_ref07_levels
def zGC(L:Nat):CBC:=(xe 555 (zDn L) noC)
def zKx(L:Nat):Dk:=fun _=>zh (zj []) (zGC L) L zAX
def zGL(L:Nat):CBC:=(xe 520 (zKx L) (xe 519 (zJq L) noC))
def zxI(L:Nat):Dk:=fun _=>zh (zj []) (zGL L) L cf_ref11_Root
def zBq:Hint:=⟨[],[],[none],[],[],false,false,[]⟩
def zU1:CF:=cfD zBq 134
def zGb(L:Nat):CBC:=noC
def zKD(L:Nat):Dk:=fun _=>zh (zj []) (zGb L) L zU1
def zv5:Hint:=⟨[],[],[none],[],[],false,false,[]⟩
def zOL:CF:=cfD zv5 196
def zzj(L:Nat):CBC:=noC
def zBT(L:Nat):Dk:=fun _=>zh (zj []) (zzj L) L zOL
def zKe:Hint:=⟨[(9,7),(10,7),(11,3)],[],[none,some ((bl 32892 71),(bl 2361183116363495866495 71)),none,some ((bl 112 71),(bl 2361183116363495866483 71)),none,none,some ((bl 295420 71),(bl 2361183116363495866879 71)),none,some ((bl 33276 71),(bl 2361183116363495866879 71)),none,none],[],[],false,false,[]⟩
def z0X:CF:=cfD zKe 186
def zQe(L:Nat):CBC:=(xe 117 (zBT L) noC)
def zH5(L:Nat):Dk:=fun _=>zh (zj []) (zQe L) L z0X
def zKa:Hint:=⟨[(6,9)],[],[none,some ((bl 732 29),(bl 522190591 29)),none,some ((bl 208 29),(bl 522190579 29)),none,none],[],[],false,false,[]⟩
def z1F:CF:=cfD zKa 199
def zPU(L:Nat):CBC:=noC
def zrC(L:Nat):Dk:=fun _=>zh (zj []) (zPU L) L z1F
def zKK:Hint:=⟨[(8,3),(12,3)],[],[none,none,none,some ((bl 752 61),(bl 2304855642529070071 61)),none,some ((bl 192 61),(bl 2304855642529069511 61)),none,none,none,none],[],[],false,false,[]⟩
def z2S:CF:=cfD zKK 188
def zPO(L:Nat):CBC:=(xe 594 (zrC L) (xe 593 (zr7 yL L) (xe 552 (znd xp L) (xe 528 (zdS zX L) noC))))
def zys(L:Nat):Dk:=fun _=>zh (zj []) (zPO L) L z2S
def zyY:Hint:=⟨[],[],[none,none,none,some ((bl 10 40),(bl 1096816721899 40)),none,none,none,none,none,some ((bl 4 40),(bl 1096816721893 40))],[],[],false,false,[]⟩
def zTz:CF:=cfD zyY 189
def zC5(L:Nat):CBC:=(xe 565 (zsc zbJ L) (xe 528 (zdS zX L) (xe 513 (znf zbr L) (xe 566 (zyp zbK L) (xe 553 (zdK zK L) noC)))))
def zGH(L:Nat):Dk:=fun _=>zh (zj []) (zC5 L) L zTz
def zBF:Hint:=⟨[(0,0),(3,2),(10,4),(11,5)],[],[none,none,none,none,none,none,none,none],[],[],false,false,[]⟩
def zVe:CF:=cfD zBF 170
def zG9(L:Nat):CBC:=(xe 564 (zGH L) (xe 553 (zdK zK L) (xe 528 (zdS zX L) (xe 563 (zys L) (xe 561 (zH5 L) (xe 562 (zcF zZ L) (xe 527 (zVH L) (xe 515 (zef L) noC))))))))
def zJz(L:Nat):Dk:=fun _=>zh (zj []) (zG9 L) L zVe
def zF7:Hint:=⟨[(0,0),(0,1)],[],[none,none,none,none,none],[],[],false,false,[]⟩
def z0c:CF:=cfD zF7 143
def zMY(L:Nat):CBC:=(xe 526 (zJz L) (xe 515 (zef L) noC))
def zCT(L:Nat):Dk:=fun _=>zh (zj []) (zMY L) L z0c
def zBs:Hint:=⟨[(1,0),(8,6),(8,11)],[],[none,some ((bl 904 48),(bl 281264523280287 48)),none,some ((bl 8 48),(bl 281264523280287 48)),none,none,some ((bl 1000 48),(bl 281474976677887 48)),none,some ((bl 1000 48),(bl 281474976677887 48)),none,none,none,none],[],[],false,false,[]⟩
def zWb:CF:=cfD zBs 145
def zGX(L:Nat):CBC:=noC
def zxk(L:Nat):Dk:=fun _=>zh (zj []) (zGX L) L zWb
def zDf(L:Nat):CBC:=(xe 528 (zdS zX L) (xe 529 (zed zaW L) (xe 527 (zVH L) noC)))
def zu7(L:Nat):Dk:=fun _=>zh (zj []) (zDf L) L zXm
def zKW:Hint:=⟨[(0,0),(0,1),(1,3)],[],[none,some ((bl 2816 45),(bl 29686813949839 45)),none,some ((bl 2304 45),(bl 29686813949839 45)),none,none,some ((bl 256 45),(bl 29686813947791 45)),none],[],[],false,false,[]⟩
def z1l:CF:=cfD zKW 133
def zO2(L:Nat):CBC:=(xe 485 (zu7 L) (xe 429 (ziE L) (xe 486 (zxk L) (xe 484 (zCT L) noC))))
def zSD(L:Nat):Dk:=fun _=>zh (zj []) (zO2 L) L z1l
def zHt:Hint:=⟨[(0,0),(0,1),(0,2),(0,3),(1,4),(1,5),(2,18)],[],[none],[],[],false,false,[]⟩
def zZ5:CF:=cfD zHt 87
def zM0(L:Nat):CBC:=(xe 473 (zSD L) (xe 475 (zKD L) (xe 474 (zxI L) (xe 471 (zGn L) (xe 448 (zAE L) (xe 472 (zud L) (xe 470 (zwY L) noC)))))))
def zPi(L:Nat):Dk:=fun _=>zh (zj []) (zM0 L) L zZ5
def zEV(L:Nat):CBC:=(xe 474 (zxI L) (xe 558 (zsw xF L) (xe 557 (zn9 zA L) (xe 556 (zmZ xg L) (xe 517 (zum L) (xe 132 (zm6 xE L) (xe 153 (zeQ zb L) (xe 449 (zoN zz L) noC))))))))
def zGt(L:Nat):Dk:=fun _=>zh (zj []) (zEV L) L cf_ref11_Check
def zEr:Hint:=⟨[(0,0),(0,1),(0,2)],[],[none,none,none,none,none,none,none,none,none,none,none,none,none,none],[],[],false,false,[]⟩
def zYA:CF:=cfD zEr 135
def zK8(L:Nat):CBC:=(xe 134 (zsD zjx L) (xe 522 (zGt L) (xe 521 (zAd zm3 L) (xe 515 (zef L) noC))))
def zNQ(L:Nat):Dk:=fun _=>zh (zj []) (zK8 L) L zYA
def zHC:Hint:=⟨[],[],[none,some ((bl 393 20),(bl 1048527 20)),none,some ((bl 0 20),(bl 1048519 20)),none,none,some ((bl 16 20),(bl 1048535 20)),none],[],[],false,false,[]⟩
def zZM:CF:=cfD zHC 139
def zNR(L:Nat):CBC:=noC
def zvU(L:Nat):Dk:=fun _=>zh (zj []) (zNR L) L zZM
def zw4:Hint:=⟨[(0,1)],[],[none],[],[],false,false,[]⟩
def zRR:CF:=cfD zw4 166
def zBe(L:Nat):CBC:=(xe 453 (zfh zai L) noC)
def zs5(L:Nat):Dk:=fun _=>zh (zj []) (zBe L) L zRR
def zDX:Hint:=⟨[(0,0),(0,1),(0,2),(1,0),(4,2),(7,0),(8,0),(8,8),(12,2),(14,0),(16,0),(16,1)],[],[none,some ((bl 918554 57),(bl 144115067749616831 57)),none,some ((bl 1048 57),(bl 144115067749616831 57)),none,none,some ((bl 768 57),(bl 144115067749616559 57)),none,some ((bl 1924145349656 57),(bl 144115188075818175 57)),none,some ((bl 1024 57),(bl 144115188075818159 57)),none,none,some ((bl 768 57),(bl 144115188075818927 57)),none],[],[],false,false,[]⟩
def zXQ:CF:=cfD zDX 136
def zJk(L:Nat):CBC:=(xe 441 (zs5 L) (xe 480 (zvU L) noC))
def zNB(L:Nat):Dk:=fun _=>zh (zj []) (zJk L) L zXQ
def zJ7:Hint:=⟨[(0,0),(15,2),(24,2)],[],[none,none,none,none,none,some ((bl 100663302 81),(bl 2417851639229258349407055 81)),none,some ((bl 6 81),(bl 2417851639229258349407055 81)),none,none,some ((bl 48 81),(bl 2417851639229258349407099 81)),none,some ((bl 30786325577988 81),(bl 2417851639229258349407183 81)),none,some ((bl 260 81),(bl 2417851639229258349407183 81)),none,none,some ((bl 48 81),(bl 2417851639229258349406971 81)),none,none,none,some ((bl 1033017668127734890752 81),(bl 2417851639229258349407227 81)),none,some ((bl 256 81),(bl 2417851639229258349407227 81)),none,none,none,none],[],[],false,false,[]⟩
def z15:CF:=cfD zJ7 167
def zQt(L:Nat):CBC:=(xe 132 (zm6 xE L) noC)
def zSt(L:Nat):Dk:=fun _=>zh (zj []) (zQt L) L z15
def zB2:Hint:=⟨[],[],[none],[],[],false,false,[]⟩
def zVD:CF:=cfD zB2 193
def zFX(L:Nat):CBC:=(xe 494 (zim zth L) noC)
def zxU(L:Nat):Dk:=fun _=>zh (zj []) (zFX L) L zVD
def zy1:Hint:=⟨[(0,0),(0,1),(5,0),(5,1),(5,2),(8,2),(9,0),(9,5),(14,2),(15,0),(15,4),(17,3),(18,4),(19,4),(20,4),(21,4),(22,4),(23,0)],[],[none,none,none,none,none,some ((bl 30786325579626 98),(bl 316912650056978537380696797183 98)),none,some ((bl 1898 98),(bl 316912650056978537380696797183 98)),none,none,some ((bl 4035225266123966314 98),(bl 316912649614335492605146542079 98)),none,some ((bl 1898 98),(bl 316912649614335492605146542079 98)),none,none],[],[],false,false,[]⟩
def zT9:CF:=cfD zy1 184
def zEI(L:Nat):CBC:=(xe 589 (zxU L) (xe 160 (zhc yn L) (xe 494 (zim zth L) (xe 186 (zyn zi L) (xe 159 (zfN xa L) (xe 138 (zss zf L) (xe 148 (zeC yc L) noC)))))))
def zFN(L:Nat):Dk:=fun _=>zh (zj []) (zEI L) L zT9
def zEw:Hint:=⟨[(0,0)],[],[none,none,none,none,none,none,none,none,none,none,none],[],[],false,false,[]⟩
def zYl:CF:=cfD zEw 216
def zKT(L:Nat):CBC:=noC
def zNc(L:Nat):Dk:=fun _=>zh (zj []) (zKT L) L zYl
def zLa:Hint:=⟨[(0,0),(0,1),(3,2),(4,0),(4,2),(8,2),(10,5),(10,10),(13,2),(14,8),(14,14),(15,1),(15,5)],[],[none,none,none,none,none,none,none,none,none,none],[],[],false,false,[]⟩
def z2E:CF:=cfD zLa 209
def zOD(L:Nat):CBC:=(xe 618 (zNc L) (xe 453 (zfh zai L) noC))
def zSB(L:Nat):Dk:=fun _=>zh (zj []) (zOD L) L z2E
def zCU:Hint:=⟨[(0,0),(2,0),(3,0),(5,2),(5,4),(5,6),(7,1),(8,0),(8,5),(9,0),(9,1)],[],[none,none,none,some ((bl 17 29),(bl 435220243 29)),none,some ((bl 16 29),(bl 435220242 29)),none,none,some ((bl 12 29),(bl 435220238 29)),none],[],[],false,false,[]⟩
def zYv:CF:=cfD zCU 200
def zKQ(L:Nat):CBC:=(xe 610 (zSB L) noC)
def zNn(L:Nat):Dk:=fun _=>zh (zj []) (zKQ L) L zYv
def zBO:Hint:=⟨[(1,0),(4,2),(7,0),(7,3),(15,5)],[(7,2)],[none,some ((bl 456 51),(bl 2232953357844443 51)),none,some ((bl 8 51),(bl 2232953357844443 51)),none,none,none,none,none,some ((bl 4 51),(bl 2232953357844439 51)),none,none,some ((bl 4 51),(bl 2232953357844439 51)),none],[],[],false,false,[]⟩
def zUt:CF:=cfD zBO 201
def zGw(L:Nat):CBC:=noC
def zKk(L:Nat):Dk:=fun _=>zh (zj []) (zGw L) L zUt
def zF6:Hint:=⟨[],[],[none,none,none,some ((bl 1792 18),(bl 229355 18)),none,some ((bl 0 18),(bl 229355 18)),none,none,some ((bl 4 18),(bl 229359 18)),none],[],[],false,false,[]⟩
def z0b:CF:=cfD zF6 202
def zNG(L:Nat):CBC:=noC
def zPu(L:Nat):Dk:=fun _=>zh (zj []) (zNG L) L z0b
def zBX:Hint:=⟨[(0,0),(1,3),(5,0),(5,6),(7,0),(7,1)],[],[none,some ((bl 3592 23),(bl 6422495 23)),none,some ((bl 8 23),(bl 6422495 23)),none,none],[],[],false,false,[]⟩
def zUT:CF:=cfD zBX 203
def zGG(L:Nat):CBC:=(xe 453 (zfh zai L) noC)
def zJy(L:Nat):Dk:=fun _=>zh (zj []) (zGG L) L zUT
def zBK:Hint:=⟨[],[],[none],[],[],false,false,[]⟩
def zUY:CF:=cfD zBK 204
def zFT(L:Nat):CBC:=noC
def zJO(L:Nat):Dk:=fun _=>zh (zj []) (zFT L) L zUY
def zD5:Hint:=⟨[(0,0)],[],[none,none,none,none,none,none,none,none],[],[],false,false,[]⟩
def zXT:CF:=cfD zD5 205
def zKn(L:Nat):CBC:=noC
def zNY(L:Nat):Dk:=fun _=>zh (zj []) (zKn L) L zXT
def zE4:Hint:=⟨[(0,0)],[],[none,none,none,none,none,none,none,none,none,none,none,none,none,none,none,none,none,none],[],[],false,false,[]⟩
def zXU:CF:=cfD zE4 206
def zJL(L:Nat):CBC:=noC
def zNK(L:Nat):Dk:=fun _=>zh (zj []) (zJL L) L zXU
def zF4:Hint:=⟨[],[],[none,some ((bl 224 14),(bl 16363 14)),none,some ((bl 0 14),(bl 16363 14)),none,none,some ((bl 4 14),(bl 16367 14)),none],[],[],false,false,[]⟩
def zZJ:CF:=cfD zF4 195
def zNI(L:Nat):CBC:=noC
def zuV(L:Nat):Dk:=fun _=>zh (zj []) (zNI L) L zZJ
def zBr:Hint:=⟨[(0,0),(2,0),(3,9)],[],[none,none,none],[],[],false,false,[]⟩
def zUL:CF:=cfD zBr 210
def zG2(L:Nat):CBC:=noC
def zJi(L:Nat):Dk:=fun _=>zh (zj []) (zG2 L) L zUL
def zHu:Hint:=⟨[(0,0),(1,0),(4,0),(4,5),(5,0),(5,1)],[],[none,some ((bl 9 14),(bl 10239 14)),none,some ((bl 8 14),(bl 10238 14)),none,none],[],[],false,false,[]⟩
def zZF:CF:=cfD zHu 212
def zN0(L:Nat):CBC:=noC
def zDQ(L:Nat):Dk:=fun _=>zh (zj []) (zN0 L) L zZF
def zDN:Hint:=⟨[(0,0),(2,1),(3,1)],[],[none,none,none],[],[],false,false,[]⟩
def zWY:CF:=cfD zDN 211
def zKC(L:Nat):CBC:=(xe 613 (zDQ L) noC)
def zNs(L:Nat):Dk:=fun _=>zh (zj []) (zKC L) L zWY
def zyC:Hint:=⟨[(1,3)],[],[none],[],[],false,false,[]⟩
def zTQ:CF:=cfD zyC 228
def zCY(L:Nat):CBC:=(xe 594 (zrC L) (xe 562 (zcF zZ L) noC))
def zjJ(L:Nat):Dk:=fun _=>zh (zj []) (zCY L) L zTQ
def zDS:Hint:=⟨[],[],[none],[],[],false,false,[]⟩
def zX2:CF:=cfD zDS 223
def zJB(L:Nat):CBC:=(xe 513 (znf zbr L) (xe 630 (zjJ L) noC))
def zm7(L:Nat):Dk:=fun _=>zh (zj []) (zJB L) L zX2
def zBH:Hint:=⟨[(1,4)],[],[none],[],[],false,false,[]⟩
def zVg:CF:=cfD zBH 234
def zFY(L:Nat):CBC:=(xe 563 (zys L) noC)
def zpY(L:Nat):Dk:=fun _=>zh (zj []) (zFY L) L zVg
def zBJ:Hint:=⟨[(3,7),(4,4)],[],[none,none,none],[],[],false,false,[]⟩
def zWd:CF:=cfD zBJ 230
def zHp(L:Nat):CBC:=(xe 563 (zys L) (xe 561 (zH5 L) (xe 636 (zpY L) (xe 553 (zdK zK L) noC))))
def zxK(L:Nat):Dk:=fun _=>zh (zj []) (zHp L) L zWd
def zBf:Hint:=⟨[],[],[none,none,none,some ((bl 504 34),(bl 12582911999 34)),none,some ((bl 192 34),(bl 12582911687 34)),none,none,none],[],[],false,false,[]⟩
def zUr:CF:=cfD zBf 231
def zHe(L:Nat):CBC:=(xe 552 (znd xp L) (xe 632 (zxK L) (xe 565 (zsc zbJ L) (xe 636 (zpY L) (xe 562 (zcF zZ L) (xe 553 (zdK zK L) noC))))))
def zLq(L:Nat):Dk:=fun _=>zh (zj []) (zHe L) L zUr
def zJW:Hint:=⟨[],[],[none],[],[],false,false,[]⟩
def z01:CF:=cfD zJW 226
def zPc(L:Nat):CBC:=(xe 633 (zLq L) (xe 630 (zjJ L) noC))
def zyw(L:Nat):Dk:=fun _=>zh (zj []) (zPc L) L z01
def zKz:Hint:=⟨[],[],[none],[],[],false,false,[]⟩
def z0O:CF:=cfD zKz 229
def zPs(L:Nat):CBC:=(xe 562 (zcF zZ L) noC)
def zSJ(L:Nat):Dk:=fun _=>zh (zj []) (zPs L) L z0O
def zBa:Hint:=⟨[],[],[none],[],[],false,false,[]⟩
def zVl:CF:=cfD zBa 221
def zFS(L:Nat):CBC:=(xe 631 (zSJ L) (xe 628 (zyw L) (xe 625 (zm7 L) (xe 528 (zdS zX L) (xe 630 (zjJ L) (xe 553 (zdK zK L) noC))))))
def zJa(L:Nat):Dk:=fun _=>zh (zj []) (zFS L) L zVl
def zC3:Hint:=⟨[],[],[none],[],[],false,false,[]⟩
def zXF:CF:=cfD zC3 217
def zJb(L:Nat):CBC:=(xe 623 (zJa L) (xe 562 (zcF zZ L) noC))
def zAz(L:Nat):Dk:=fun _=>zh (zj []) (zJb L) L zXF
def zEn:Hint:=⟨[],[],[none],[],[],false,false,[]⟩
def zXA:CF:=cfD zEn 222
def zK2(L:Nat):CBC:=(xe 528 (zdS zX L) (xe 625 (zm7 L) noC))
def zAs(L:Nat):Dk:=fun _=>zh (zj []) (zK2 L) L zXA
def zA5:Hint:=⟨[(5,1)],[],[none,none,none,none,none],[],[],false,false,[]⟩
def zUw:CF:=cfD zA5 218
def zHF(L:Nat):CBC:=(xe 624 (zAs L) (xe 529 (zed zaW L) noC))
def zKv(L:Nat):Dk:=fun _=>zh (zj []) (zHF L) L zUw
def zED:Hint:=⟨[],[],[none],[],[],false,false,[]⟩
def zXq:CF:=cfD zED 225
def zKy(L:Nat):CBC:=(xe 628 (zyw L) (xe 562 (zcF zZ L) noC))
def zNS(L:Nat):Dk:=fun _=>zh (zj []) (zKy L) L zXq
def zJA:Hint:=⟨[],[],[none],[],[],false,false,[]⟩
def z10:CF:=cfD zJA 224
def zQy(L:Nat):CBC:=(xe 632 (zxK L) (xe 630 (zjJ L) noC))
def zSm(L:Nat):Dk:=fun _=>zh (zj []) (zQy L) L z10
def zDE:Hint:=⟨[],[],[none,some ((bl 78 24),(bl 16777167 24)),none,some ((bl 12 24),(bl 16777165 24)),none,none],[],[],false,false,[]⟩
def zW8:CF:=cfD zDE 236
def zJ4(L:Nat):CBC:=noC
def zNt(L:Nat):Dk:=fun _=>zh (zj []) (zJ4 L) L zW8
def zA3:Hint:=⟨[(0,1),(2,1)],[],[none],[],[],false,false,[]⟩
def zWo:CF:=cfD zA3 233
def zHk(L:Nat):CBC:=(xe 638 (zNt L) noC)
def zKE(L:Nat):Dk:=fun _=>zh (zj []) (zHk L) L zWo
def zA7:Hint:=⟨[(4,3),(6,3)],[],[none,none,none,none],[],[],false,false,[]⟩
def zWN:CF:=cfD zA7 237
def zGI(L:Nat):CBC:=(xe 594 (zrC L) (xe 528 (zdS zX L) (xe 593 (zr7 yL L) (xe 636 (zpY L) (xe 553 (zdK zK L) noC)))))
def zLm(L:Nat):Dk:=fun _=>zh (zj []) (zGI L) L zWN
def zwe:Hint:=⟨[],[],[none],[],[],false,false,[]⟩
def zOx:CF:=cfD zwe 235
def zzi(L:Nat):CBC:=(xe 639 (zLm L) (xe 625 (zm7 L) noC))
def zBj(L:Nat):Dk:=fun _=>zh (zj []) (zzi L) L zOx
def zA9:Hint:=⟨[],[],[none],[],[],false,false,[]⟩
def zVc:CF:=cfD zA9 232
def zHo(L:Nat):CBC:=(xe 637 (zBj L) (xe 529 (zed zaW L) noC))
def zLp(L:Nat):Dk:=fun _=>zh (zj []) (zHo L) L zVc
def zuj:Hint:=⟨[],[],[none],[(1,[5])],[],false,false,[]⟩
def zPF:CF:=cfD zuj 227
def zzl(L:Nat):CBC:=(xe 634 (zLp L) (xe 589 (zxU L) (xe 453 (zfh zai L) (xe 635 (zKE L) noC))))
def zBG(L:Nat):Dk:=fun _=>zh (zj []) (zzl L) L zPF
def zBl:Hint:=⟨[(3,4)],[],[none,none,none],[],[],false,false,[]⟩
def zUc:CF:=cfD zBl 219
def zGY(L:Nat):CBC:=(xe 629 (zBG L) (xe 626 (zSm L) (xe 628 (zyw L) (xe 627 (zNS L) (xe 594 (zrC L) (xe 625 (zm7 L) (xe 624 (zAs L) (xe 619 (zAz L) noC))))))))
def zLj(L:Nat):Dk:=fun _=>zh (zj []) (zGY L) L zUc
def zBt:Hint:=⟨[(10,2)],[],[none,none,none,none,none,none,none,none,none],[],[],false,false,[]⟩
def zV8:CF:=cfD zBt 213
def zGf(L:Nat):CBC:=(xe 621 (zLj L) (xe 620 (zKv L) (xe 619 (zAz L) (xe 529 (zed zaW L) noC))))
def zxr(L:Nat):Dk:=fun _=>zh (zj []) (zGf L) L zV8
def zEX:Hint:=⟨[(0,0),(5,13)],[],[none,some ((bl 810 44),(bl 17577153655615 44)),none,some ((bl 264 44),(bl 17577153655071 44)),none,none,some ((bl 192 44),(bl 17577153654999 44)),none,none],[],[],false,false,[]⟩
def zX9:CF:=cfD zEX 214
def zJu(L:Nat):CBC:=(xe 614 (zxr L) noC)
def zNp(L:Nat):Dk:=fun _=>zh (zj []) (zJu L) L zX9
def zBg:Hint:=⟨[],[],[none,none,none,some ((bl 50331665 40),(bl 1099511627743 40)),none,some ((bl 16 40),(bl 1099511627743 40)),none,none],[],[],false,false,[]⟩
def zWA:CF:=cfD zBg 220
def zGO(L:Nat):CBC:=noC
def zJ0(L:Nat):Dk:=fun _=>zh (zj []) (zGO L) L zWA
def zBd:Hint:=⟨[(1,2)],[],[none,none,none,none,none],[],[],false,false,[]⟩
def zWj:CF:=cfD zBd 215
def zFV(L:Nat):CBC:=(xe 622 (zJ0 L) noC)
def zJC(L:Nat):Dk:=fun _=>zh (zj []) (zFV L) L zWj
def zHr:Hint:=⟨[(0,0),(0,2),(4,6),(4,8),(6,7),(6,9),(8,0),(8,4),(10,18),(12,20),(14,16),(17,0),(18,0),(18,4),(21,0),(21,9),(23,10),(23,12),(25,13),(26,0),(26,11),(29,7),(30,0),(30,9),(32,9),(34,9),(35,0)],[],[none,none,none,none,none,none,none,none,none,none,none,none,none,none,none,none,none,none,none,none,none,none,none,none,none,none,none,none,none,none],[(21,[9])],[],false,false,[]⟩
def zZY:CF:=cfD zHr 207
def zNP(L:Nat):CBC:=(xe 616 (zJC L) (xe 615 (zNp L) (xe 614 (zxr L) (xe 613 (zDQ L) (xe 494 (zim zth L) (xe 591 (zuV L) (xe 612 (zNs L) (xe 130 (zpQ zW L) (xe 611 (zJi L) (xe 453 (zfh zai L) noC))))))))))
def zPC(L:Nat):Dk:=fun _=>zh (zj []) (zNP L) L zZY
def zKO:Hint:=⟨[(0,1),(1,2),(1,3),(3,1),(5,0),(7,0),(8,2),(10,0),(13,2),(20,0),(22,0),(27,5),(28,0),(28,4),(32,5),(34,4),(34,5),(34,7),(36,1),(38,0),(38,2)],[(28,3)],[none,none,none,none,none,none,none,some ((bl 60129556512 134),(bl 21479575417666174971013579263329479457343 134)),none,some ((bl 6144 134),(bl 21479575417666174971013579263329479449119 134)),none,none,none,none,some ((bl 448 134),(bl 21479575417666174971013579263329479443423 134)),none,some ((bl 448 134),(bl 21479575417666174971013579263329479443423 134)),none,none,none,none,none,none,none,some ((bl 448 134),(bl 21479575417666174971013579263329479443423 134)),none],[],[],false,false,[]⟩
def z2l:CF:=cfD zKO 194
def zQi(L:Nat):CBC:=(xe 606 (zPC L) (xe 591 (zuV L) (xe 605 (zNK L) (xe 604 (zNY L) (xe 603 (zJO L) (xe 602 (zJy L) (xe 601 (zPu L) (xe 600 (zKk L) (xe 599 (zNn L) noC)))))))))
def zSh(L:Nat):Dk:=fun _=>zh (zj []) (zQi L) L z2l
def zwq:Hint:=⟨[(1,4),(1,5)],[],[none,none,none,none,none,none,none,none],[],[],false,false,[]⟩
def zQE:CF:=cfD zwq 185
def zzD(L:Nat):CBC:=(xe 591 (zuV L) (xe 590 (zSh L) noC))
def zBw(L:Nat):Dk:=fun _=>zh (zj []) (zzD L) L zQE
def zDL:Hint:=⟨[(0,0),(0,1),(1,5)],[],[none,none,none,none,none,none,none],[],[],false,false,[]⟩
def zYa:CF:=cfD zDL 168
def zJD(L:Nat):CBC:=(xe 560 (zBw L) (xe 559 (zFN L) noC))
def zNN(L:Nat):Dk:=fun _=>zh (zj []) (zJD L) L zYa
def zEj:Hint:=⟨[(0,0),(3,3)],[],[none,none,none,none,none,none,none,some ((bl 805306638 45),(bl 34634616271679 45)),none,some ((bl 256 45),(bl 34634616271671 45)),none,none,some ((bl 192 45),(bl 34634616271863 45)),none],[],[],false,false,[]⟩
def zW4:CF:=cfD zEj 137
def zJx(L:Nat):CBC:=(xe 524 (zNN L) (xe 134 (zsD zjx L) (xe 523 (zSt L) (xe 153 (zeQ zb L) noC))))
def zNx(L:Nat):Dk:=fun _=>zh (zj []) (zJx L) L zW4
def zzI:Hint:=⟨[(0,0),(1,4),(1,9)],[],[none],[],[],false,false,[]⟩
def zSS:CF:=cfD zzI 138
def zDF(L:Nat):CBC:=noC
def zGU(L:Nat):Dk:=fun _=>zh (zj []) (zDF L) L zSS
def zyR:Hint:=⟨[(0,0),(0,1),(1,0),(5,3),(6,0),(6,12),(8,0),(8,1)],[],[none,some ((bl 28774 33),(bl 6845103743 33)),none,some ((bl 32 33),(bl 6845103675 33)),none,none],[],[],false,false,[]⟩
def zTR:CF:=cfD zyR 142
def zDl(L:Nat):CBC:=(xe 153 (zeQ zb L) (xe 517 (zum L) noC))
def zwg(L:Nat):Dk:=fun _=>zh (zj []) (zDl L) L zTR
def zHv:Hint:=⟨[(0,0),(0,1),(1,0),(6,0),(6,7),(8,0),(8,5),(8,10)],[],[none,some ((bl 809 39),(bl 549553962943 39)),none,some ((bl 41 39),(bl 549553962943 39)),none,none,none],[],[],false,false,[]⟩
def z0j:CF:=cfD zHv 169
def zM6(L:Nat):CBC:=(xe 441 (zs5 L) (xe 136 (zok zy L) noC))
def zPq(L:Nat):Dk:=fun _=>zh (zj []) (zM6 L) L z0j
def zKI:Hint:=⟨[(0,0),(0,1),(3,2),(5,0),(9,2),(10,3),(12,0),(12,1)],[],[none,some ((bl 114709 39),(bl 549747422527 39)),none,some ((bl 21 39),(bl 549747422527 39)),none,none,some ((bl 192 39),(bl 549747422703 39)),none,some ((bl 1879048193 39),(bl 481036334575 39)),none,some ((bl 1 39),(bl 481036334575 39)),none,none],[],[],false,false,[]⟩
def z04:CF:=cfD zKI 140
def zQa(L:Nat):CBC:=(xe 525 (zPq L) (xe 480 (zvU L) (xe 483 (zwg L) noC)))
def zSo(L:Nat):Dk:=fun _=>zh (zj []) (zQa L) L z04
def zDV:Hint:=⟨[(4,2)],[],[none,some ((bl 456 19),(bl 524255 19)),none,some ((bl 8 19),(bl 524255 19)),none,none],[],[],false,false,[]⟩
def zYw:CF:=cfD zDV 141
def zJm(L:Nat):CBC:=noC
def zNj(L:Nat):Dk:=fun _=>zh (zj []) (zJm L) L zYw
def zyP:Hint:=⟨[(0,0),(0,1),(0,2),(0,3),(0,4),(8,3),(10,7),(10,8),(13,5),(18,2),(21,4),(22,6),(22,7)],[],[none,none,none,some ((bl 492581209251048 153),(bl 11417981541574946208765741796140502961711488751 153)),none,some ((bl 7392 153),(bl 11417981541574946208765741796140502961711488743 153)),none,none,none,some ((bl 448 153),(bl 11417981541574946208765741796140502961711481799 153)),none,some ((bl 448 153),(bl 11417981541574946208765741796140502961711481799 153)),none,some ((bl 67699845898911814992977128 153),(bl 11417981541647678929624043984199454700745523183 153)),none,some ((bl 492581209431272 153),(bl 11417981541647678929624043984199454700745523183 153)),none,none,some ((bl 448 153),(bl 11417981541574946208765741796140502961711481799 153)),none,none,none,none,none,none,none,none],[],[],false,false,[]⟩
def zTC:CF:=cfD zyP 88
def zCX(L:Nat):CBC:=(xe 482 (zNj L) (xe 483 (zwg L) (xe 481 (zSo L) (xe 479 (zGU L) (xe 480 (zvU L) (xe 478 (zNx L) (xe 477 (zNB L) (xe 472 (zud L) (xe 429 (ziE L) (xe 476 (zNQ L) noC))))))))))
def zGj(L:Nat):Dk:=fun _=>zh (zj []) (zCX L) L zTC
def zGp:Hint:=⟨[(0,0),(0,1)],[],[none],[],[],false,false,[]⟩
def z0r:CF:=cfD zGp 146
def zNO(L:Nat):CBC:=(xe 515 (zef L) noC)
def zQw(L:Nat):Dk:=fun _=>zh (zj []) (zNO L) L z0r
def zyB:Hint:=⟨[(0,0),(0,1),(0,3)],[],[none,none,none,none,none,none,none],[],[],false,false,[]⟩
def zTS:CF:=cfD zyB 90
def zEv(L:Nat):CBC:=(xe 429 (ziE L) (xe 487 (zQw L) noC))
def zuL(L:Nat):Dk:=fun _=>zh (zj []) (zEv L) L zTS
def zDv:Hint:=⟨[(0,0),(0,1),(1,4),(1,7),(8,3)],[],[none,none,none,none,none,none,none,none,none,none,none,none,none,none,none,none,none,none,some ((bl 132226261520350065984000 93),(bl 9903520314283042199192985231 93)),none,some ((bl 0 93),(bl 9903520314283042199192984719 93)),none,none,some ((bl 256 93),(bl 9903520314283042199192984975 93)),none],[],[],false,false,[]⟩
def zXE:CF:=cfD zDv 89
def zJT(L:Nat):CBC:=(xe 486 (zxk L) (xe 485 (zu7 L) (xe 484 (zCT L) (xe 446 (zuL L) noC))))
def zNi(L:Nat):Dk:=fun _=>zh (zj []) (zJT L) L zXE
def zKq:Hint:=⟨[(0,1),(6,16),(6,17),(7,6),(8,5),(8,9),(8,10),(10,6),(11,1),(11,6),(12,1),(12,6)],[],[none,some ((bl 3758096404 112),(bl 4941240693938888968870671530582079 112)),none,some ((bl 20 112),(bl 4941240693938888968870671530582079 112)),none,none,none,none],[],[],false,false,[]⟩
def z0T:CF:=cfD zKq 51
def zPr(L:Nat):CBC:=(xe 446 (zuL L) (xe 445 (zNi L) (xe 444 (zGj L) (xe 443 (zPi L) noC))))
def zSr(L:Nat):Dk:=fun _=>zh (zj []) (zPr L) L z0T
def zGl:Hint:=⟨[(0,0)],[],[none],[],[],false,false,[]⟩
def z0k:CF:=cfD zGl 20
def zNX(L:Nat):CBC:=(xe 424 (zSr L) (xe 442 (zO5 L) noC))
def zPp(L:Nat):Dk:=fun _=>zh (zj []) (zNX L) L z0k
def zK4(L:Nat):CBC:=(xe 501 (zim zE5 L) (xe 128 (zrL yA L) noC))
def zAV(L:Nat):Dk:=fun _=>zh (zj []) (zK4 L) L zDp
def zVm(L:Nat):CBC:=(xe 583 (zAV L) noC)
def zZk(L:Nat):Dk:=fun _=>zh (zj []) (zVm L) L z76
def zD0(L:Nat):CBC:=(xe 548 (zZk L) noC)
def zGW(L:Nat):Dk:=fun _=>zh (zj []) (zD0 L) L cf_block_coins
def zQr(L:Nat):CBC:=(xe 583 (zAV L) noC)
def zSg(L:Nat):Dk:=fun _=>zh (zj []) (zQr L) L zLS
def zEG(L:Nat):CBC:=(xe 458 (zim zth L) noC)
def zHI(L:Nat):Dk:=fun _=>zh (zj []) (zEG L) L zxF
def zza(L:Nat):CBC:=(xe 617 (zHI L) noC)
def zB0(L:Nat):Dk:=fun _=>zh (zj []) (zza L) L cf_merkle_levels
def zEW(L:Nat):CBC:=(xe 608 (zB0 L) noC)
def zGr(L:Nat):Dk:=fun _=>zh (zj []) (zEW L) L zxG
def zHw(L:Nat):CBC:=(xe 597 (zGr L) (xe 596 (zSg L) noC))
def zK0(L:Nat):Dk:=fun _=>zh (zj []) (zHw L) L cf_block_Root
def zEM(L:Nat):CBC:=(xe 579 (zK0 L) (xe 578 (zGW L) (xe 131 (zCv y5 L) (xe 151 (zmX yo L) (xe 577 (zls zB L) noC)))))
def zGg(L:Nat):Dk:=fun _=>zh (zj []) (zEM L) L cf_block_Check
end
end
section
noncomputable section
def zGe:Hint:=⟨[(1,5),(2,1)],[],[none],[],[],false,false,[]⟩
def zAr:CF:=cfD zGe 11
def zsu(L:Nat):CBC:=(xe 542 (zGg L) (xe 502 (zd0 zg L) (xe 422 (zPp L) noC)))
abbrev zes:=∀ (β:Type),Nat→Ob β→Ob β
def yR:zes:=fun β L k=>chk (30000≤L) k
theorem z1z(β:Type)(n:Nat)(k:KK β):zh (zj []) (zsu (n+30000)) (n+30000) zAr [] [] k=k (.sc (.bool true)) []:=by kernel_rfl
def zpe(yR:zes)(L:Nat):Dk:=d0 fun β k=>yR β L (k (.sc (.bool true)) [])
theorem zUi(L:Nat):DK (zpe yR L) (fun _=>zh (zj []) (zsu L) L zAr):=z9F (X:=fun L _=>zh (zj []) (zsu L) L zAr) z1z L
end
end
end Go.Proofs.YtgmhijonllockaaGreatDoor
