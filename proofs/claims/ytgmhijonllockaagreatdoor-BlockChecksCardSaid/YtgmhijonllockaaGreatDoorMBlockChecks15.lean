/- Part 15 of the proof of BlockChecks: an abstract machine over plain values, its soundness, and the functions of the program on plain values. -/
import Derived.Test.YtgmhijonllockaaGreatDoorMBlockChecks14
namespace Go.Proofs.YtgmhijonllockaaGreatDoor
set_option maxRecDepth 100000
set_option linter.unusedVariables false
set_option linter.unusedSimpArgs false
open List renaming getD_eq_getElem?_getD->Ws,replicate->We,length->XK,map_cons->QW,getD_cons_succ->Yk,getElem?_eq_getElem->Wc,take->XL,map_nil->Ym,mem_cons->Q9,getElem?_eq_none->Q3,getD_cons_zero->Yr,map->Xv,mem_replicate->Yb
open Nat renaming add->Yg,mod->Yh,shiftRight->Yi,xor->Yj,le_of_ble_eq_true->Yl,land->Yn,shiftLeft->Yo,mul->Yp
open IntKind renaming wrap->QG
open Int renaming toNat->XM,toNat_natCast->XV,natCast_emod->Yq
section
def frc{α:Type}(n:Nat)(k:Nat→α):α:=Nat.casesOn (motive:=fun _=>α) n (k 0) (fun m=>k (Nat.succ m))
theorem zq8{α:Type}(n:Nat)(k:Nat→α):frc n k=k n:=by cases n <;> rfl
def zrU(a n:Nat):Nat:=Nat.lor (Yh (Yo a (Nat.sub 32 n)) 4294967296) (Yi a n)
def s2N(a b c d:Nat):Nat:=Yh (Yg (Yh (Yg (Yh (Yg a (Yj (Yj (zrU b 7) (zrU b 18)) (Yi b 3))) 4294967296) c) 4294967296) (Yj (Yj (zrU d 17) (zrU d 19)) (Yi d 10))) 4294967296
def t1N(e f g h kk ww:Nat):Nat:=Yh (Yg (Yh (Yg (Yh (Yg (Yh (Yg h (Yj (Yj (zrU e 6) (zrU e 11)) (zrU e 25))) 4294967296) (Yj (Yn e f) (Yn (Yj 4294967295 e) g))) 4294967296) kk) 4294967296) ww) 4294967296
def t2N(a b c:Nat):Nat:=Yh (Yg (Yj (Yj (zrU a 2) (zrU a 13)) (zrU a 22)) (Yj (Yj (Yn a b) (Yn a c)) (Yn b c))) 4294967296
def zrk:Nat→Nat→List Nat→List Nat
 | 0,_,w=>w
 | m+1,t,w=>frc (s2N (w.getD (t-16) 0) (w.getD (t-15) 0) (w.getD (t-7) 0) (w.getD (t-2) 0)) fun x=>zrk m (t+1) (w.set t x)
def zzl(l:List Nat)(t:Nat):Nat:=Yg (Yp (Yg (Yp (Yg (Yp (l.getD (4*t) 0) 256) (l.getD (4*t+1) 0)) 256) (l.getD (4*t+2) 0)) 256) (l.getD (4*t+3) 0)
def ztU:Nat→Nat→List Nat→List Nat→List Nat
 | 0,_,_,w=>w
 | m+1,t,l,w=>frc (zzl l t) fun x=>ztU m (t+1) l (w.set t x)
def zix(l:List Nat):List Nat:=zrk 48 16 (ztU 16 0 l (We 64 0))
def kcN:List Nat:=[1116352408,1899447441,3049323471,3921009573,961987163,1508970993,2453635748,2870763221,3624381080,310598401,607225278,1426881987,1925078388,2162078206,2614888103,3248222580,3835390401,4022224774,264347078,604807628,770255983,1249150122,1555081692,1996064986,2554220882,2821834349,2952996808,3210313671,3336571891,3584528711,113926993,338241895,666307205,773529912,1294757372,1396182291,1695183700,1986661051,2177026350,2456956037,2730485921,2820302411,3259730800,3345764771,3516065817,3600352804,4094571909,275423344,430227734,506948616,659060556,883997877,958139571,1322822218,1537002063,1747873779,1955562222,2024104815,2227730452,2361852424,2428436474,2756734187,3204031479,3329325298]
def zEn(w:List Nat):List Nat→Nat→Nat→Nat→Nat→Nat→Nat→Nat→Nat→Nat→List Nat
 | kk::ks,t,a,b,c,d,e,f,g,h=>frc (t1N e f g h kk (w.getD t 0)) fun x=>frc (Yh (Yg x (t2N a b c)) 4294967296) fun y=>frc (Yh (Yg d x) 4294967296) fun z=>zEn w ks (t+1) y a b c z e f g
 | [],_,a,b,c,d,e,f,g,h=>[a,b,c,d,e,f,g,h]
def zTh:List Nat→List Nat→List Nat
 | x::xs,y::ys=>frc (Yh (Yg x y) 4294967296) fun z=>z::zTh xs ys
 | _,_=>[]
def zQs(hs l:List Nat):List Nat:=zTh hs (zEn (zix l) kcN 0 (hs.getD 0 0) (hs.getD 1 0) (hs.getD 2 0) (hs.getD 3 0) (hs.getD 4 0) (hs.getD 5 0) (hs.getD 6 0) (hs.getD 7 0))
def goN:List Nat→Nat→Nat→Nat→Nat→Nat→Nat→Nat→Nat→Nat→Nat→Nat→Nat→Nat→Nat→Nat→Nat→Nat→Nat→Nat→Nat→Nat→Nat→Nat→Nat→List Nat
 | [],_,_,_,_,_,_,_,_,_,_,_,_,_,_,_,_,a,b,c,d,e,f,g,h=>[a,b,c,d,e,f,g,h]
 | kk::ks,w0,w1,w2,w3,w4,w5,w6,w7,w8,w9,w10,w11,w12,w13,w14,w15,a,b,c,d,e,f,g,h=>frc (t1N e f g h kk w0) fun x=>frc (Yh (Yg x (t2N a b c)) 4294967296) fun y=>frc (Yh (Yg d x) 4294967296) fun z=>frc (s2N w0 w1 w9 w14) fun v=>goN ks w1 w2 w3 w4 w5 w6 w7 w8 w9 w10 w11 w12 w13 w14 w15 v y a b c z e f g
def zP3:List Nat→List Nat
 | a::b::c::d::r=>frc (Yg (Yp (Yg (Yp (Yg (Yp a 256) b) 256) c) 256) d) fun w=>w::zP3 r
 | _=>[]
def zQB(hs l:List Nat):List Nat:=match hs with
 | a::b::c::d::e::f::g::h::_=>(match zP3 l with
  | w0::w1::w2::w3::w4::w5::w6::w7::w8::w9::w10::w11::w12::w13::w14::w15::_=>zTh hs (goN kcN w0 w1 w2 w3 w4 w5 w6 w7 w8 w9 w10 w11 w12 w13 w14 w15 a b c d e f g h)
  | _=>[])
 | _=>[]
def zQq:Nat→Nat→List Nat→List Nat→List Nat
 | 0,_,_,h=>h
 | m+1,i,p,h=>zQq m (i+1) p (zQB h ((p.drop (64*i)).take 64))
def init0N:List Nat:=[1779033703,3144134277,1013904242,2773480762,1359893119,2600822924,528734635,1541459225]
def zk2(x i:Nat):Nat:=Yh (Yi x i) 256
def zQr:List Nat→List Nat
 | []=>[]
 | x::xs=>zk2 x 24::zk2 x 16::zk2 x 8::zk2 x 0::zQr xs
def z6o(n:Nat):List Nat:=[zk2 (8*n) 56,zk2 (8*n) 48,zk2 (8*n) 40,zk2 (8*n) 32,zk2 (8*n) 24,zk2 (8*n) 16,zk2 (8*n) 8,zk2 (8*n) 0]
def zFh(n:Nat):List Nat:=(128::We (zs n) 0)++z6o n
def zum(l:List Nat):List Nat:=zQr (zQq ((l++zFh l.length).length / 64) 0 (l++zFh l.length) init0N)
def yZ(l:List Nat):List Int:=l.map fun (n:Nat)=>(n:Int)
def zkH(l:List Nat):Prop:=∀ x∈l,x<4294967296
theorem z1G(n:Nat):QG .u32 (n:Int)=((Yh n 4294967296:Nat):Int):=by
 show (n:Int) % ((4294967296:Nat):Int)=_
 rw [← Yq]; rfl
theorem zQL(n:Nat)(h:n<4294967296):QG .u32 (n:Int)=(n:Int):=by
 rw [z1G]; congr 1; exact Nat.mod_eq_of_lt h
theorem zSE{a:Nat}(h:a<4294967296):(BitVec.ofInt (IntKind.bits .u32) (a:Int)).toNat=a:=by
 rw [BitVec.toNat_ofInt]
 show ((a:Int) % ((2 ^ 32:Nat):Int)).toNat=_
 rw [← Yq,XV,Nat.mod_eq_of_lt (by omega)]
theorem zvj{a b:Nat}(ha:a<4294967296)(hb:b<4294967296):Yj a b<4294967296:=Nat.xor_lt_two_pow (n:=32) ha hb
theorem z7F{a b:Nat}(ha:a<4294967296)(hb:b<4294967296):Nat.lor a b<4294967296:=Nat.or_lt_two_pow (n:=32) ha hb
theorem zz0{a b:Nat}(ha:a<4294967296):Yn a b<4294967296:=Nat.lt_of_le_of_lt Nat.and_le_left ha
theorem zqc{a b:Nat}(ha:a<4294967296)(hb:b<4294967296):zdR .u32 (a:Int) (b:Int)=((Yj a b:Nat):Int):=by
 unfold zdR
 rw [BitVec.toNat_xor,zSE ha,zSE hb]
 exact zQL _ (zvj ha hb)
theorem yay{a b:Nat}(ha:a<4294967296)(hb:b<4294967296):ior .u32 (a:Int) (b:Int)=((Nat.lor a b:Nat):Int):=by
 unfold ior
 rw [BitVec.toNat_or,zSE ha,zSE hb]
 exact zQL _ (z7F ha hb)
theorem zPw{a b:Nat}(ha:a<4294967296)(hb:b<4294967296):zhm .u32 (a:Int) (b:Int)=((Yn a b:Nat):Int):=by
 unfold zhm
 rw [BitVec.toNat_and,zSE ha,zSE hb]
 exact zQL _ (zz0 ha)
theorem z8U{a:Nat}(ha:a<4294967296):z0Y .u32 (a:Int)=((Yj 4294967295 a:Nat):Int):=by
 unfold z0Y
 rw [BitVec.toNat_xor,zSE ha]
 exact zQL _ (zvj (by decide) ha)
theorem z8T(a n:Nat)(hn:n≤32):zkq .u32 (a:Int) (n:Int)=((Yh (Yo a n) 4294967296:Nat):Int):=by
 unfold zkq
 have:min (XM (n:Int)) (IntKind.bits .u32)=n:=by
  rw [XV]; exact Nat.min_eq_left hn
 rw [this,show ((a:Int)*2 ^ n)=((Yo a n:Nat):Int) by
  rw [show Yo a n=a <<< n from rfl,Nat.shiftLeft_eq,Int.natCast_mul,Int.natCast_pow]; rfl]
 exact z1G _
theorem zVH(k:IntKind)(a n:Nat)(hn:n≤k.bits):zdB k (a:Int) (n:Int)=((Yi a n:Nat):Int):=by
 unfold zdB
 have:min (XM (n:Int)) k.bits=n:=by
  rw [XV]; exact Nat.min_eq_left hn
 rw [this,show Yi a n=a >>> n from rfl,Nat.shiftRight_eq_div_pow]
 rw [show ((2:Int) ^ n)=((2 ^ n:Nat):Int) by rw [Int.natCast_pow]; rfl]
 rw [Int.fdiv_eq_ediv_of_nonneg _ (Int.natCast_nonneg _)]
 exact Int.natCast_ediv a (2 ^ n) |>.symm
theorem m32(n:Nat):Yh n 4294967296<4294967296:=Nat.mod_lt _ (by decide)
theorem zT9{a:Nat}(h:a<4294967296)(n:Nat):Yi a n<4294967296:=Nat.lt_of_le_of_lt (Nat.shiftRight_le a n) h
theorem zeJ{a:Nat}(h:a<4294967296)(n:Nat):zrU a n<4294967296:=z7F (m32 _) (zT9 h n)
def rk(n:Nat):Prop:=zhm .u64 (QG .u64 (QG .i64 (0-(n:Int)))) 31=((Nat.sub 32 n:Nat):Int)∧QG .u64 (32-((Nat.sub 32 n:Nat):Int))=(n:Int)∧n≤32
theorem z3H{a n:Nat}(ha:a<4294967296)(hk:rk n):zhh (a:Int) (n:Int)=((zrU a n:Nat):Int):=by
 obtain ⟨h1,h2,h3⟩:=hk
 unfold zhh zrU
 rw [h1,h2,z8T _ _ (by show 32-n≤32; omega),zVH .u32 _ _ h3,yay (m32 _) (zT9 ha n)]
theorem rk7:rk 7:=by unfold rk; decide +kernel
theorem ybc:rk 18:=by unfold rk; decide +kernel
theorem ya2:rk 17:=by unfold rk; decide +kernel
theorem ybe:rk 19:=by unfold rk; decide +kernel
theorem rk6:rk 6:=by unfold rk; decide +kernel
theorem yaX:rk 11:=by unfold rk; decide +kernel
theorem yaO:rk 25:=by unfold rk; decide +kernel
theorem rk2:rk 2:=by unfold rk; decide +kernel
theorem yba:rk 13:=by unfold rk; decide +kernel
theorem ya0:rk 22:=by unfold rk; decide +kernel
theorem zwH(a b:Nat):QG .u32 ((a:Int)+(b:Int))=((Yh (Yg a b) 4294967296:Nat):Int):=by
 rw [← Int.natCast_add]; exact z1G _
theorem zAl(l:List Nat)(i:Nat):(yZ l).getD i 0=((l.getD i 0:Nat):Int):=by
 simp only [yZ,Ws,List.getElem?_map]
 cases l[i]? <;> rfl
theorem zUs{l:List Nat}(h:zkH l)(i:Nat):l.getD i 0<4294967296:=by
 rw [Ws]
 by_cases hi:i<l.length
 ·rw [Wc hi]; exact h _ (List.getElem_mem hi)
 ·rw [Q3 (by omega)]; simp
theorem ybb{w:List Nat}(h:zkH w)(t:Nat):s2 (yZ w) t=((s2N (w.getD (t-16) 0) (w.getD (t-15) 0) (w.getD (t-7) 0) (w.getD (t-2) 0):Nat):Int):=by
 have r:∀ {a n:Nat},a<4294967296→rk n→zhh (a:Int) (n:Int)=((zrU a n:Nat):Int):=z3H
 have h1:=zUs h (t-15)
 have h2:=zUs h (t-2)
 unfold s2 s2N
 simp only [zAl]
 generalize w.getD (t-16) 0=a at *
 generalize w.getD (t-15) 0=b at *
 generalize w.getD (t-7) 0=c at *
 generalize w.getD (t-2) 0=d at *
 rw [show zhh (b:Int) 7=_ from r h1 rk7,show zhh (b:Int) 18=_ from r h1 ybc,show zhh (d:Int) 17=_ from r h2 ya2,show zhh (d:Int) 19=_ from r h2 ybe,
  show zdB .u32 (b:Int) 3=_ from zVH .u32 b 3 (by decide),show zdB .u32 (d:Int) 10=_ from zVH .u32 d 10 (by decide),
  zqc (zeJ h1 _) (zeJ h1 _),zqc (zvj (zeJ h1 _) (zeJ h1 _)) (zT9 h1 _),zqc (zeJ h2 _) (zeJ h2 _),zqc (zvj (zeJ h2 _) (zeJ h2 _)) (zT9 h2 _),
  zwH,zwH,zwH]
theorem ya5{e f g h kk ww:Nat}(he:e<4294967296)(hf:f<4294967296)(hg:g<4294967296):t1 (e:Int) (f:Int) (g:Int) (h:Int) (kk:Int) (ww:Int)=((t1N e f g h kk ww:Nat):Int):=by
 have r:∀ {a n:Nat},a<4294967296→rk n→zhh (a:Int) (n:Int)=((zrU a n:Nat):Int):=z3H
 unfold t1 t1N
 rw [show zhh (e:Int) 6=_ from r he rk6,show zhh (e:Int) 11=_ from r he yaX,show zhh (e:Int) 25=_ from r he yaO,
  zqc (zeJ he _) (zeJ he _),zqc (zvj (zeJ he _) (zeJ he _)) (zeJ he _),zPw he hf,z8U he,zPw (zvj (by decide) he) hg,zqc (zz0 he) (zz0 (zvj (by decide) he)),
  zwH,zwH,zwH,zwH]
theorem yaZ{a b c:Nat}(ha:a<4294967296)(hb:b<4294967296)(hc:c<4294967296):t2 (a:Int) (b:Int) (c:Int)=((t2N a b c:Nat):Int):=by
 have r:∀ {a n:Nat},a<4294967296→rk n→zhh (a:Int) (n:Int)=((zrU a n:Nat):Int):=z3H
 unfold t2 t2N
 rw [show zhh (a:Int) 2=_ from r ha rk2,show zhh (a:Int) 13=_ from r ha yba,show zhh (a:Int) 22=_ from r ha ya0,
  zqc (zeJ ha _) (zeJ ha _),zqc (zvj (zeJ ha _) (zeJ ha _)) (zeJ ha _),zPw ha hb,zPw ha hc,zPw hb hc,zqc (zz0 ha) (zz0 ha),zqc (zvj (zz0 ha) (zz0 ha)) (zz0 hb),
  zwH]
theorem z0A(l:List Nat)(i x:Nat):(yZ l).set i (x:Int)=yZ (l.set i x):=by simp only [yZ,List.map_set]
theorem zYP{l:List Nat}(h:zkH l)(i:Nat){x:Nat}(hx:x<4294967296):zkH (l.set i x):=fun y hy=>by
 rcases List.mem_or_eq_of_mem_set hy with h' | rfl
 ·exact h y h'
 ·exact hx
theorem z5o:∀ (m t:Nat) (w:List Nat),zkH w→zOx m t (yZ w)=yZ (zrk m t w)∧zkH (zrk m t w)
 | 0,_,_,h=>⟨rfl,h⟩
 | m+1,t,w,h=>by
  simp only [zOx,zrk,zq8]
  rw [ybb h,z0A]
  exact z5o m (t+1) _ (zYP h _ (m32 _))
theorem z9p(l:List Nat)(t:Nat):zMz (yZ l) t=((zzl l t:Nat):Int):=by
 unfold zMz zzl
 simp only [zAl]
 simp only [show ∀ a b:Nat,Yg a b=a+b from fun _ _=>rfl,show ∀ a b:Nat,Yp a b=a*b from fun _ _=>rfl]
 omega
def zfZ(l:List Nat):Prop:=∀ x∈l,x≤255
theorem zC9{l:List Nat}(h:zfZ l)(i:Nat):l.getD i 0≤255:=by
 rw [Ws]
 by_cases hi:i<l.length
 ·rw [Wc hi]; exact h _ (List.getElem_mem hi)
 ·rw [Q3 (by omega)]; simp
theorem z6b{l:List Nat}(h:zfZ l)(t:Nat):zzl l t<4294967296:=by
 have h0:=zC9 h (4*t)
 have h1:=zC9 h (4*t+1)
 have h2:=zC9 h (4*t+2)
 have h3:=zC9 h (4*t+3)
 unfold zzl
 simp only [show ∀ a b:Nat,Yg a b=a+b from fun _ _=>rfl,show ∀ a b:Nat,Yp a b=a*b from fun _ _=>rfl]
 omega
theorem z4H{l:List Nat}(hl:zfZ l):∀ (m t:Nat) (w:List Nat),zkH w→zP2 m t (yZ l) (yZ w)=yZ (ztU m t l w)∧zkH (ztU m t l w)
 | 0,_,_,h=>⟨rfl,h⟩
 | m+1,t,w,h=>by
  simp only [zP2,ztU,zq8]
  rw [z9p,z0A]
  exact z4H hl m (t+1) _ (zYP h _ (z6b hl t))
theorem z5x(n:Nat):zkH (We n 0):=fun x hx=>by rw [(Yb.1 hx).2]; decide
theorem z8q{l:List Nat}(hl:zfZ l):ztT (yZ l)=yZ (zix l)∧zkH (zix l):=by
 unfold ztT zix
 have e:We 64 (0:Int)=yZ (We 64 0):=by simp [yZ]
 obtain ⟨h1,h2⟩:=z4H hl 16 0 _ (z5x 64)
 rw [e,h1]
 exact z5o 48 16 _ h2
theorem yaU:kc=yZ kcN:=by kernel_rfl
def Sm8(a b c d e f g h:Nat):Prop:=a<4294967296∧b<4294967296∧c<4294967296∧d<4294967296∧e<4294967296∧f<4294967296∧g<4294967296∧h<4294967296
theorem z2Z{w:List Nat}(hs:List Int):∀ (ks:List Nat) (t a b c d e f g h:Nat),kcN.drop t=ks→t+ks.length=64→Sm8 a b c d e f g h →
  ∃ a' b' c' d' e' f' g' h',zEn w ks t a b c d e f g h=[a',b',c',d',e',f',g',h']∧zCS (yZ w) (zDn hs) ks.length t (a:Int) b c d e f g h=zDn hs a' b' c' d' e' f' g' h'
 | [],t,a,b,c,d,e,f,g,h,_,_,_=>⟨a,b,c,d,e,f,g,h,rfl,rfl⟩
 | kk::ks,t,a,b,c,d,e,f,g,h,hk,hl,hs8=>by
  obtain ⟨ha,hb,hc,hd,he,hf,hg,hh⟩:=hs8
  have hlt:t<kcN.length:=by show t<64; simp at hl; omega
  have hd':=List.drop_eq_getElem_cons hlt
  rw [hk] at hd'
  have hkk:kcN.getD t 0=kk:=by
   rw [Ws,Wc hlt]
   exact (List.cons.inj hd').1.symm
  simp only [zEn,zq8,List.length_cons,zCS]
  rw [show kc.getD t 0=(kk:Int) by rw [yaU,zAl,hkk],zAl,ya5 he hf hg,yaZ ha hb hc,zwH,zwH]
  exact z2Z hs ks (t+1) _ a b c _ e f g (List.cons.inj hd').2.symm (by simp at hl; omega) ⟨m32 _,ha,hb,hc,m32 _,he,hf,hg⟩
theorem z3G{l:List Nat}(h:l.length=8):∃ a b c d e f g i,l=[a,b,c,d,e,f,g,i]:=by
 match l,h with
 | [a,b,c,d,e,f,g,i],_=>exact ⟨a,b,c,d,e,f,g,i,rfl⟩
theorem z7L{hs l:List Nat}(h8:hs.length=8)(hsm:zkH hs)(hl:zfZ l):zLx (yZ hs) (yZ l)=yZ (zQs hs l)∧(zQs hs l).length=8∧zkH (zQs hs l):=by
 obtain ⟨a,b,c,d,e,f,g,h,rfl⟩:=z3G h8
 unfold zLx zQs
 rw [(z8q hl).1]
 have sm:Sm8 a b c d e f g h:=⟨hsm _ (by simp),hsm _ (by simp),hsm _ (by simp),hsm _ (by simp),hsm _ (by simp),hsm _ (by simp),hsm _ (by simp),hsm _ (by simp)⟩
 obtain ⟨a',b',c',d',e',f',g',h',e1,e2⟩:=z2Z (w:=zix l) (yZ [a,b,c,d,e,f,g,h]) kcN 0 a b c d e f g h rfl rfl sm
 simp only [Yr,Yk,yZ,QW,Ym] at e2 ⊢
 refine ⟨?_,?_,?_⟩
 ·refine Eq.trans e2 ?_
  rw [e1]
  simp only [zDn,zTh,zq8,Yr,Yk,zwH,QW,Ym]
 ·rw [e1]; simp only [zTh,zq8]; rfl
 ·rw [e1]; simp only [zTh,zq8]
  intro x hx
  simp only [Q9,List.not_mem_nil,or_false] at hx
  rcases hx with rfl | rfl | rfl | rfl | rfl | rfl | rfl | rfl <;> exact m32 _
theorem zR0{w:List Nat}{t:Nat}(h:t<w.length)(x:Nat):(w.set t x).getD t 0=x:=by
 simp [Ws,h]
theorem zRV{w:List Nat}{t i:Nat}(h:t≠i)(x:Nat):(w.set t x).getD i 0=w.getD i 0:=by
 simp [Ws,List.getElem?_set_ne h]
theorem zOA:∀ (m t:Nat) (w:List Nat),w.length=64→16≤t→t+m≤64→(∀ i,i<t→(zrk m t w).getD i 0=w.getD i 0) ∧
  ∀ i,t≤i→i<t+m→(zrk m t w).getD i 0=s2N ((zrk m t w).getD (i-16) 0) ((zrk m t w).getD (i-15) 0) ((zrk m t w).getD (i-7) 0) ((zrk m t w).getD (i-2) 0)
 | 0,t,w,_,_,_=>⟨fun _ _=>rfl,fun i h1 h2=>by omega⟩
 | m+1,t,w,hw,h16,hm=>by
  simp only [zrk,zq8]
  obtain ⟨g1,g2⟩:=zOA m (t+1) (w.set t (s2N (w.getD (t-16) 0) (w.getD (t-15) 0) (w.getD (t-7) 0) (w.getD (t-2) 0))) (by simpa using hw) (by omega) (by omega)
  have low:∀ i,i<t→(zrk m (t+1) (w.set t (s2N (w.getD (t-16) 0) (w.getD (t-15) 0) (w.getD (t-7) 0) (w.getD (t-2) 0)))).getD i 0=w.getD i 0:=fun i hi=>by
   rw [g1 i (by omega),zRV (by omega)]
  refine ⟨low,fun i h1 h2=>?_⟩
  by_cases e:i=t
  ·subst e
   rw [low (i-16) (by omega),low (i-15) (by omega),low (i-7) (by omega),low (i-2) (by omega),g1 i (by omega),zR0 (by omega)]
  ·exact g2 i (by omega) (by omega)
theorem zYE(l:List Nat):∀ (m t:Nat) (w:List Nat),w.length=64→t+m≤64→(∀ i,i<t→(ztU m t l w).getD i 0=w.getD i 0)∧∀ i,t≤i→i<t+m→(ztU m t l w).getD i 0=zzl l i
 | 0,t,w,_,_=>⟨fun _ _=>rfl,fun i h1 h2=>by omega⟩
 | m+1,t,w,hw,hm=>by
  simp only [ztU,zq8]
  obtain ⟨g1,g2⟩:=zYE l m (t+1) (w.set t (zzl l t)) (by simpa using hw) (by omega)
  refine ⟨fun i hi=>by rw [g1 i (by omega),zRV (by omega)],fun i h1 h2=>?_⟩
  by_cases e:i=t
  ·subst e; rw [g1 i (by omega),zR0 (by omega)]
  ·exact g2 i (by omega) (by omega)
theorem zO0(l:List Nat):∀ (m t:Nat) (w:List Nat),(ztU m t l w).length=w.length
 | 0,_,_=>rfl
 | m+1,t,w=>by simp only [ztU,zq8]; rw [zO0]; simp
theorem z4f(l:List Nat){i:Nat}(h:i<16):(zix l).getD i 0=zzl l i:=by
 unfold zix
 have hl:(ztU 16 0 l (We 64 0)).length=64:=by rw [zO0]; simp
 rw [(zOA 48 16 _ hl (by omega) (by omega)).1 i h]
 exact (zYE l 16 0 _ (by simp) (by omega)).2 i (by omega) (by omega)
theorem z2j(l:List Nat){i:Nat}(h1:16≤i)(h2:i<64):(zix l).getD i 0=s2N ((zix l).getD (i-16) 0) ((zix l).getD (i-15) 0) ((zix l).getD (i-7) 0) ((zix l).getD (i-2) 0):=by
 have hl:(ztU 16 0 l (We 64 0)).length=64:=by rw [zO0]; simp
 exact (zOA 48 16 _ hl (by omega) (by omega)).2 i h1 (by omega)
theorem zV8:∀ (n:Nat) (l:List Nat),l.length=4*n→(zP3 l).length=n∧∀ i,i<n→(zP3 l).getD i 0=zzl l i
 | 0,l,h=>by
  have:l=[]:=List.length_eq_zero_iff.1 (by omega)
  subst this
  exact ⟨rfl,fun i hi=>by omega⟩
 | n+1,l,h=>by
  match l,h with
  | a::b::c::d::r,h=>
   obtain ⟨g1,g2⟩:=zV8 n r (by simp at h; omega)
   simp only [zP3,zq8]
   refine ⟨by simp [g1],fun i hi=>?_⟩
   match i with
   | 0=>rfl
   | i+1=>
    rw [Yk,g2 i (by omega)]
    unfold zzl
    rw [show 4*(i+1)+1=(4*i+1)+1+1+1+1 by omega,show 4*(i+1)+2=(4*i+2)+1+1+1+1 by omega,show 4*(i+1)+3=(4*i+3)+1+1+1+1 by omega,show 4*(i+1)=4*i+1+1+1+1 by omega]
    simp only [Yk]
theorem z5g(l:List Nat):∀ (ks:List Nat) (t w0 w1 w2 w3 w4 w5 w6 w7 w8 w9 w10 w11 w12 w13 w14 w15 a b c d e f g h:Nat),t+ks.length=64→(∀ i,i<16→t+i<64→([w0,w1,w2,w3,w4,w5,w6,w7,w8,w9,w10,w11,w12,w13,w14,w15]:List Nat).getD i 0=(zix l).getD (t+i) 0)→goN ks w0 w1 w2 w3 w4 w5 w6 w7 w8 w9 w10 w11 w12 w13 w14 w15 a b c d e f g h=zEn (zix l) ks t a b c d e f g h
 | [],t,w0,w1,w2,w3,w4,w5,w6,w7,w8,w9,w10,w11,w12,w13,w14,w15,a,b,c,d,e,f,g,h,_,_=>rfl
 | kk::ks,t,w0,w1,w2,w3,w4,w5,w6,w7,w8,w9,w10,w11,w12,w13,w14,w15,a,b,c,d,e,f,g,h,ht,hw=>by
  simp only [List.length_cons] at ht
  simp only [goN,zEn,zq8]
  rw [show (zix l).getD t 0=w0 from (hw 0 (by omega) (by omega)).symm]
  refine z5g l ks (t+1) _ _ _ _ _ _ _ _ _ _ _ _ _ _ _ _ _ _ _ _ _ _ _ _ (by omega) fun i hi hlt=>?_
  have e:∀ v:Nat,([w1,w2,w3,w4,w5,w6,w7,w8,w9,w10,w11,w12,w13,w14,w15,v]:List Nat).getD i 0=(([w0,w1,w2,w3,w4,w5,w6,w7,w8,w9,w10,w11,w12,w13,w14,w15]:List Nat)++[v]).getD (i+1) 0:=fun v=>rfl
  rw [e]
  by_cases h15:i<15
  ·rw [Ws,List.getElem?_append_left (by show i+1<16; omega),← Ws,hw (i+1) (by omega) (by omega),show t+(i+1)=t+1+i by omega]
  ·have:i=15:=by omega
   subst this
   show s2N w0 w1 w9 w14=_
   rw [show t+1+15=t+16 by omega,z2j l (by omega) (by omega)]
   rw [show t+16-16=t+0 by omega,show t+16-15=t+1 by omega,show t+16-7=t+9 by omega,show t+16-2=t+14 by omega]
   rw [← hw 0 (by omega) (by omega),← hw 1 (by omega) (by omega),← hw 9 (by omega) (by omega),← hw 14 (by omega) (by omega)]
   rfl
theorem z9P{l:List Nat}(h:l.length=16):∃ w0 w1 w2 w3 w4 w5 w6 w7 w8 w9 w10 w11 w12 w13 w14 w15,l=[w0,w1,w2,w3,w4,w5,w6,w7,w8,w9,w10,w11,w12,w13,w14,w15]:=by
 match l,h with
 | [w0,w1,w2,w3,w4,w5,w6,w7,w8,w9,w10,w11,w12,w13,w14,w15],_=>exact ⟨w0,w1,w2,w3,w4,w5,w6,w7,w8,w9,w10,w11,w12,w13,w14,w15,rfl⟩
theorem z6e{hs l:List Nat}(h8:hs.length=8)(hl:l.length=64):zQB hs l=zQs hs l:=by
 obtain ⟨a,b,c,d,e,f,g,h,rfl⟩:=z3G h8
 obtain ⟨g1,g2⟩:=zV8 16 l (by omega)
 obtain ⟨w0,w1,w2,w3,w4,w5,w6,w7,w8,w9,w10,w11,w12,w13,w14,w15,hw⟩:=z9P g1
 unfold zQB zQs
 simp only [hw]
 refine congrArg (zTh [a,b,c,d,e,f,g,h]) (?_:goN kcN w0 w1 w2 w3 w4 w5 w6 w7 w8 w9 w10 w11 w12 w13 w14 w15 a b c d e f g h=zEn (zix l) kcN 0 a b c d e f g h)
 refine z5g l kcN 0 _ _ _ _ _ _ _ _ _ _ _ _ _ _ _ _ _ _ _ _ _ _ _ _ rfl fun i hi _=>?_
 rw [Nat.zero_add,z4f l hi,← g2 i hi,hw]
theorem z9Z{hs l:List Nat}(h8:hs.length=8)(hsm:zkH hs)(hl:zfZ l)(h64:l.length=64):zLx (yZ hs) (yZ l)=yZ (zQB hs l)∧(zQB hs l).length=8∧zkH (zQB hs l):=by
 rw [z6e h8 h64]; exact z7L h8 hsm hl
theorem z3j(l:List Nat)(n m:Nat):((yZ l).drop n).take m=yZ ((l.drop n).take m):=by simp only [yZ,List.map_drop,List.map_take]
theorem z4N{l:List Nat}(h:zfZ l)(n m:Nat):zfZ ((l.drop n).take m):=fun x hx=>h x (List.mem_of_mem_drop (List.mem_of_mem_take hx))
theorem z4K{p:List Nat}(hp:zfZ p):∀ (m i:Nat) (h:List Nat),64*(i+m)≤p.length→h.length=8→zkH h→zP4 m i (yZ p) (yZ h)=yZ (zQq m i p h)∧(zQq m i p h).length=8∧zkH (zQq m i p h)
 | 0,_,_,_,h1,h2=>⟨rfl,h1,h2⟩
 | m+1,i,h,hl,h1,h2=>by
  simp only [zP4,zQq]
  obtain ⟨e1,e2,e3⟩:=z9Z h1 h2 (z4N hp (64*i) 64) (by rw [List.length_take,List.length_drop]; omega)
  rw [z3j,e1]
  exact z4K hp m (i+1) _ (by omega) e2 e3
theorem z5c:init0=yZ init0N∧init0N.length=8:=⟨by kernel_rfl,rfl⟩
theorem z38:zkH init0N:=by
 have:init0N.all (fun x=>decide (x<4294967296))=true:=by kernel_rfl
 intro x hx
 simpa using List.all_eq_true.1 this x hx
theorem z48(k:IntKind)(x i:Nat)(hi:i≤k.bits):QG .u8 (zdB k (x:Int) ((i:Nat):Int))=((zk2 x i:Nat):Int):=by
 rw [zVH k _ _ hi]
 show ((Yi x i:Nat):Int) % ((256:Nat):Int)=_
 rw [← Yq]; rfl
theorem z8X{h:List Nat}(h8:h.length=8):zBq (yZ h)=yZ (zQr h):=by
 obtain ⟨a,b,c,d,e,f,g,i,rfl⟩:=z3G h8
 have q:∀ (x j:Nat),j≤32→QG .u8 (zdB .u32 (x:Int) ((j:Nat):Int))=((zk2 x j:Nat):Int):=fun x j hj=>z48 .u32 x j hj
 have r:List.range 32=[0,1,2,3,4,5,6,7,8,9,10,11,12,13,14,15,16,17,18,19,20,21,22,23,24,25,26,27,28,29,30,31]:=by kernel_rfl
 simp only [zBq,r,QW,Ym,ob,zAl]
 simp only [zQr,yZ,QW,Ym]
 rw [← q a 24 (by decide),← q a 16 (by decide),← q a 8 (by decide),← q a 0 (by decide),← q b 24 (by decide),← q b 16 (by decide),← q b 8 (by decide),← q b 0 (by decide),← q c 24 (by decide),← q c 16 (by decide),← q c 8 (by decide),← q c 0 (by decide),← q d 24 (by decide),← q d 16 (by decide),← q d 8 (by decide),← q d 0 (by decide),← q e 24 (by decide),← q e 16 (by decide),← q e 8 (by decide),← q e 0 (by decide),← q f 24 (by decide),← q f 16 (by decide),← q f 8 (by decide),← q f 0 (by decide),← q g 24 (by decide),← q g 16 (by decide),← q g 8 (by decide),← q g 0 (by decide),← q i 24 (by decide),← q i 16 (by decide),← q i 8 (by decide),← q i 0 (by decide)]
 rfl
theorem zFq(x i:Nat):zk2 x i≤255:=by
 have:zk2 x i<256:=Nat.mod_lt _ (by decide)
 omega
theorem zSj:∀ l:List Nat,zfZ (zQr l)
 | []=>fun x hx=>by cases hx
 | y::ys=>fun x hx=>by
  simp only [zQr,Q9] at hx
  rcases hx with rfl | rfl | rfl | rfl | h
  ·exact zFq _ _
  ·exact zFq _ _
  ·exact zFq _ _
  ·exact zFq _ _
  ·exact zSj ys x h
theorem zOM{n:Nat}(hn:n≤100000000)(i:Nat)(hi:i≤7):pb n i=((zk2 (8*n) (56-8*i):Nat):Int):=by
 unfold pb
 have:QG .u64 ((8:Int)*(n:Int))=((8*n:Nat):Int):=by
  show ((8:Int)*(n:Int)) % ((18446744073709551616:Nat):Int)=_
  omega
 rw [this]
 exact z48 .u64 _ _ (by show 56-8*i≤64; omega)
theorem yaC{n:Nat}(hn:n≤100000000):zhN n=yZ (zFh n):=by
 unfold zhN zFh
 simp only [yZ,List.map_append,QW,List.map_replicate]
 congr 1
 simp only [pbs,z6o,QW,Ym]
 rw [zOM hn 0 (by decide),zOM hn 1 (by decide),zOM hn 2 (by decide),zOM hn 3 (by decide),zOM hn 4 (by decide),zOM hn 5 (by decide),zOM hn 6 (by decide),zOM hn 7 (by decide)]
theorem z3g(n:Nat):zfZ (zFh n):=by
 intro x hx
 simp only [zFh,z6o,List.mem_append,Q9,List.not_mem_nil,or_false] at hx
 rcases hx with (rfl | h) | h
 ·decide
 ·rw [(Yb.1 h).2]; decide
 ·rcases h with rfl | rfl | rfl | rfl | rfl | rfl | rfl | rfl <;> exact zFq _ _
theorem zZM{l:List Nat}(hn:l.length≤100000000)(hl:zfZ l):zyt (yZ l)=yZ (zum l)∧zfZ (zum l):=by
 have e:yZ l++zhN (yZ l).length=yZ (l++zFh l.length):=by
  rw [show (yZ l).length=l.length by simp [yZ],yaC hn]; simp [yZ]
 have hb:zfZ (l++zFh l.length):=fun x hx=>(List.mem_append.1 hx).elim (hl x) (z3g _ x)
 unfold zyt zum
 rw [e,show (yZ (l++zFh l.length)).length=(l++zFh l.length).length by simp [yZ],z5c.1]
 obtain ⟨e1,e2,e3⟩:=z4K hb ((l++zFh l.length).length / 64) 0 init0N (by rw [Nat.zero_add]; exact Nat.mul_div_le _ _) z5c.2 z38
 rw [e1,z8X e2]
 exact ⟨rfl,zSj _⟩
theorem zVs:∀ {l:List Int},(∀ x∈l,0≤x∧x≤255)→l=yZ (l.map XM)
 | [],_=>rfl
 | x::l,h=>by
  have hx:=h x (by simp)
  simp only [yZ,QW]
  rw [show ((x.toNat:Nat):Int)=x by omega]
  congr 1
  exact zVs fun y hy=>h y (by simp [hy])
theorem z13{l:List Int}(h:∀ x∈l,0≤x∧x≤255):zfZ (l.map XM):=fun x hx=>by
 obtain ⟨y,hy,rfl⟩:=List.mem_map.1 hx
 have:=h y hy
 omega
def zDR(l:List Nat):List Nat:=zum (zum l)
theorem yar{l:List Int}(hn:l.length≤100000000)(h:∀ x∈l,0≤x∧x≤255):zQa l=yZ (zDR (l.map XM)):=by
 have e:=zVs h
 have hb:=z13 h
 generalize hm:l.map XM=m at *
 have hlen:m.length≤100000000:=by rw [← hm]; simpa using hn
 subst e
 unfold zQa zDR
 obtain ⟨e1,e2⟩:=zZM hlen hb
 rw [e1]
 have h32:(zum m).length=32:=by
  have:=zbt (yZ m)
  rw [e1] at this; simpa [yZ] using this
 exact (zZM (by rw [h32]; decide) e2).1
end
section
theorem zEt{T:Nat→Option CF}{L g D:Nat}{d d':Dk}(h:FOk T L g d D)(hd:DK d' d):FOk T L g d' D:=fun n hn β args bor k r hr=>h n hn β args bor k r (hd _ _ _ _ _ hr)
def zVX:Ls→Option (List Nat)
 | []=>some []
 | [.sc (.int .u8 (.ofNat n))]::r=>match Nat.ble n 255 with
  | true=>(zVX r).map (n::·)
  | false=>none
 | _=>none
theorem zT6:∀ {es:Ls} {l:List Nat},zVX es=some l→es=xA .u8 (yZ l)∧zfZ l
 | [],l,h=>by cases h; exact ⟨rfl,fun x hx=>by cases hx⟩
 | e::r,l,h=>by
  unfold zVX at h
  split at h
  ·rename_i he; cases he
  ·rename_i n r' he
   cases he
   split at h
   ·rename_i hn
    rw [Option.map_eq_some_iff] at h
    obtain ⟨m,hm,rfl⟩:=h
    obtain ⟨e1,e2⟩:=zT6 hm
    refine ⟨by rw [e1]; rfl,fun x hx=>?_⟩
    rcases Q9.1 hx with rfl | h'
    ·exact Yl hn
    ·exact e2 x h'
   ·cases h
  ·cases h
def z6m(l:List Nat):List V:=l.map fun n=>V.sc (.int .u8 (.ofNat n))
theorem z8w(l:List Nat):z6m l=row .u8 (yZ l):=by
 simp only [z6m,row,yZ,List.map_map]; rfl
def zjd(f:List Nat→List Nat)(L:Nat):Dk:=fun β a b k=>match a with
 | [.sl 1 es]=>(match b with
  | []=>(match zVX es with
   | some l=>(match Nat.ble (l.length+300) L&&Nat.ble l.length 100000000 with
    | true=>k (.agg (z6m (f l))) []
    | false=>none)
   | none=>none)
  | _=>none)
 | _=>none
theorem zHn{f:List Nat→List Nat}{L:Nat}{β:Type}{a:List V}{b:Bor}{k:V→Bor→Option β}{r:β}(h:zjd f L β a b k=some r):∃ l,a=[.sl 1 (xA .u8 (yZ l))]∧b=[]∧zfZ l∧l.length+300≤L∧l.length≤100000000∧k (.agg (row .u8 (yZ (f l)))) []=some r:=by
 unfold zjd at h
 split at h
 ·split at h
  ·split at h
   ·rename_i l hl
    split at h
    ·rename_i hc
     rw [Bool.and_eq_true] at hc
     obtain ⟨rfl,hb⟩:=zT6 hl
     exact ⟨l,rfl,rfl,hb,Yl hc.1,Yl hc.2,by rw [← z8w]; exact h⟩
    ·cases h
   ·cases h
  ·cases h
 ·cases h
theorem zld(l:List Nat):(yZ l).length=l.length:=by simp [yZ]
theorem zFb{l:List Nat}(h:zfZ l):∀ x∈yZ l,0≤x∧x≤255:=fun x hx=>by
 obtain ⟨y,hy,rfl⟩:=List.mem_map.1 hx
 have:=h y hy
 omega
theorem z4P(l:List Nat):(yZ l).map XM=l:=by
 simp only [yZ,List.map_map]
 exact (List.map_congr_left fun x _=>(by simp:(XM ∘ fun (n:Nat)=>(n:Int)) x=id x)).trans (List.map_id l)
theorem z7r{l:List Nat}(hn:l.length≤100000000)(h:zfZ l):zQa (yZ l)=yZ (zDR l):=by
 have:=yar (l:=yZ l) (by rw [zld]; exact hn) (zFb h)
 rwa [z4P] at this
theorem zQY(L:Nat):DK (zjd zDR L) (zmn yQ L):=by
 intro β a b k r h
 obtain ⟨l,rfl,rfl,hb,h1,h2,hk⟩:=zHn h
 show yQ β L (xA .u8 (yZ l)) (fun p0=>k (V.agg p0) [])=some r
 rw [zLC (by rw [zld]; omega) (by rw [zld]; omega) (zFb hb),z7r h2 hb]; exact hk
theorem zWR(L:Nat):DK (zjd zum L) (ztl zY L):=by
 intro β a b k r h
 obtain ⟨l,rfl,rfl,hb,h1,h2,hk⟩:=zHn h
 show zY β L (xA .u8 (yZ l)) (fun p0=>k (V.agg p0) [])=some r
 rw [zQF (by rw [zld]; omega) (by rw [zld]; omega) (zFb hb),(zZM h2 hb).1]; exact hk
theorem zUV(L:Nat):DK (zjd zDR L) (zxc zaU L):=by
 intro β a b k r h
 obtain ⟨l,rfl,rfl,hb,h1,h2,hk⟩:=zHn h
 show zaU β L (xA .u8 (yZ l)) (fun p0=>k (V.agg p0) [])=some r
 rw [zYb (by rw [zld]; omega) (by rw [zld]; omega) (zFb hb),z7r h2 hb]; exact hk
theorem z1w(L:Nat):DK (zjd zum L) (zzM zaq L):=by
 intro β a b k r h
 obtain ⟨l,rfl,rfl,hb,h1,h2,hk⟩:=zHn h
 show zaq β L (xA .u8 (yZ l)) (fun p0=>k (V.agg p0) [])=some r
 rw [zV2 (by rw [zld]; omega) (by rw [zld]; omega) (zFb hb),(zZM h2 hb).1]; exact hk
end
section
theorem z8g(β:Type)(n:Nat)(k:List V→Int→Option β):yU β (n+300) 545259519 k=k [.sc (.int .u64 0),.sc (.int .u64 0),.sc (.int .u64 0),.sc (.int .u64 9223370937343148032)] 0:=by kernel_rfl
def zVA(L:Nat):Dk:=dA (AI .u32) fun x=>d0 fun β k=>chk (x=545259519∧300≤L) (k (.tup [.agg [.sc (.int .u64 0),.sc (.int .u64 0),.sc (.int .u64 0),.sc (.int .u64 9223370937343148032)],.sc (.int .i64 0)]) [])
theorem zRj(L:Nat):DK (zVA L) (zmz yU L):=by
 refine zF zdJ fun x=>?_
 intro β a b k r h
 obtain ⟨rfl,rfl,h2⟩:=z1e h
 obtain ⟨hc,h3⟩:=yM h2
 obtain ⟨rfl,hL⟩:=hc
 obtain ⟨n,rfl⟩:∃ n,L=n+300:=⟨L-300,by omega⟩
 show yU β (n+300) 545259519 (fun p0 p1=>k (V.tup [V.agg p0,V.sc (.int .i64 p1)]) [])=some r
 rw [z8g]; exact h3
end
section
noncomputable section
def zJJ:Hint:=⟨[],[],[none],[],[],false,false,[]⟩
def z03:CF:=cfD zJJ 148
def zOu(L:Nat):CBC:=noC
def zSk(L:Nat):Dk:=fun _=>yj (zl []) (zOu L) L z03
def zFP:Hint:=⟨[(0,0)],[],[none],[],[],false,false,[]⟩
def zW7:CF:=cfD zFP 91
def zJ3(L:Nat):CBC:=(xg 513 (zop zbq L) (xg 514 (zSk L) noC))
def zNk(L:Nat):Dk:=fun _=>yj (zl []) (zJ3 L) L zW7
def zEV(L:Nat):CBC:=(xg 528 (zea yY L) (xg 527 (zVA L) (xg 553 (zdX xL L) noC)))
def zeC(L:Nat):Dk:=fun _=>yj (zl []) (zEV L) L cf_ref13_Valid
def zHJ:Hint:=⟨[],[],[none],[],[],false,false,[]⟩
def zZm:CF:=cfD zHJ 30
def zNC(L:Nat):CBC:=(xg 454 (zjd zDR L) (xg 455 (zi1 xu L) noC))
def zmJ(L:Nat):Dk:=fun _=>yj (zl []) (zNC L) L zZm
def zFJ:Hint:=⟨[(0,0),(0,1)],[],[none,none,none],[],[],false,false,[]⟩
def zWH:CF:=cfD zFJ 92
def zKR(L:Nat):CBC:=(xg 429 (zmJ L) (xg 515 (zeC L) noC))
def zNJ(L:Nat):Dk:=fun _=>yj (zl []) (zKR L) L zWH
def zEo:Hint:=⟨[(0,0),(0,1)],[],[none,none,none],[],[],false,false,[]⟩
def zWr:CF:=cfD zEo 93
def zJN(L:Nat):CBC:=(xg 429 (zmJ L) (xg 515 (zeC L) noC))
def zNM(L:Nat):Dk:=fun _=>yj (zl []) (zJN L) L zWr
def zGS:Hint:=⟨[(0,0),(1,2),(2,2),(2,5),(3,2),(3,5)],[],[none],[],[],false,false,[]⟩
def zZi:CF:=cfD zGS 52
def zMP(L:Nat):CBC:=(xg 469 (zNM L) (xg 468 (zNJ L) (xg 467 (zNk L) noC)))
def zPH(L:Nat):Dk:=fun _=>yj (zl []) (zMP L) L zZi
def zM3:Hint:=⟨[(0,0),(2,0),(3,5)],[],[none,none,none],[],[],false,false,[]⟩
def z2h:CF:=cfD zM3 182
def zRY(L:Nat):CBC:=noC
def zUw(L:Nat):Dk:=fun _=>yj (zl []) (zRY L) L z2h
def zD4:Hint:=⟨[(0,0),(1,4)],[],[none],[],[],false,false,[]⟩
def zWT:CF:=cfD zD4 132
def zJ0(L:Nat):CBC:=noC
def zBK(L:Nat):Dk:=fun _=>yj (zl []) (zJ0 L) L zWT
def zH7:Hint:=⟨[(0,0),(0,1),(3,10),(7,1),(8,1)],[],[none,none],[],[],false,false,[]⟩
def zZn:CF:=cfD zH7 162
def zNx(L:Nat):CBC:=(xg 448 (zBK L) (xg 554 (zUw L) noC))
def zOG(L:Nat):Dk:=fun _=>yj (zl []) (zNx L) L zZn
def zM5(L:Nat):CBC:=(xg 454 (zjd zDR L) (xg 149 (zfn xd L) (xg 148 (zeN xb L) noC)))
def zw2(L:Nat):Dk:=fun _=>yj (zl []) (zM5 L) L zIi
def zth:Hint:=⟨[(0,0),(0,1),(0,2),(1,0),(3,3),(12,4),(14,5),(14,8),(15,0),(15,7),(16,4),(16,9),(20,3),(21,0),(21,12),(23,0),(23,2)],[],[none,some ((bl 3868 113),(bl 9411032330560892913360804356558847 113)),none,some ((bl 768 113),(bl 9411032330560892913360804356555751 113)),none,none,some ((bl 16156 113),(bl 9411032330560892913360806504054783 113)),none,some ((bl 3868 113),(bl 9411032330560892913360806504046591 113)),none,none,none,none,some ((bl 17331160549995323848588005148 113),(bl 9411038056094375076711524595040255 113)),none,some ((bl 3868 113),(bl 9411038056094375076711524594778111 113)),none,some ((bl 3868 113),(bl 9411032330560892913360806504046591 113)),none],[],[],false,false,[]⟩
def zLM:CF:=cfD zth 129
def zvD(L:Nat):CBC:=(xg 517 (zw2 L) (xg 516 (zOG L) noC))
def zxZ(L:Nat):Dk:=fun _=>yj (zl []) (zvD L) L zLM
def zz8:Hint:=⟨[(0,0)],[],[none,none,none,some ((bl 96 31),(bl 2147483643 31)),none,some ((bl 32 31),(bl 2147483579 31)),none,none],[],[],false,false,[]⟩
def zTE:CF:=cfD zz8 131
def zER(L:Nat):CBC:=(xg 515 (zeC L) noC)
def zvQ(L:Nat):Dk:=fun _=>yj (zl []) (zER L) L zTE
def zKs:Hint:=⟨[],[],[none],[],[],false,false,[]⟩
def z0w:CF:=cfD zKs 163
def zOZ(L:Nat):CBC:=noC
def zR6(L:Nat):Dk:=fun _=>yj (zl []) (zOZ L) L z0w
def zAc:Hint:=⟨[(0,0)],[],[none],[],[],false,false,[]⟩
def zSY:CF:=cfD zAc 130
def zEF(L:Nat):CBC:=(xg 518 (zR6 L) noC)
def zHL(L:Nat):Dk:=fun _=>yj (zl []) (zEF L) L zSY
def zHc(L:Nat):CBC:=(xg 454 (zjd zDR L) (xg 149 (zfn xd L) (xg 148 (zeN xb L) noC)))
def zLq(L:Nat):Dk:=fun _=>yj (zl []) (zHc L) L zAL
def zG8(L:Nat):CBC:=(xg 494 (zjd zum L) (xg 453 (zgm zao L) noC))
def zKH(L:Nat):Dk:=fun _=>yj (zl []) (zG8 L) L zA9
def zCl(L:Nat):CBC:=(xg 588 (zKH L) noC)
def zE4(L:Nat):Dk:=fun _=>yj (zl []) (zCl L) L cf_ref07_levels
def zHq(L:Nat):CBC:=(xg 555 (zE4 L) noC)
def zKX(L:Nat):Dk:=fun _=>yj (zl []) (zHq L) L zBo
def zH5(L:Nat):CBC:=(xg 520 (zKX L) (xg 519 (zLq L) noC))
def zx7(L:Nat):Dk:=fun _=>yj (zl []) (zH5 L) L cf_ref11_Root
def zCf:Hint:=⟨[],[],[none],[],[],false,false,[]⟩
def zUD:CF:=cfD zCf 134
def zHm(L:Nat):CBC:=noC
def zKP(L:Nat):Dk:=fun _=>yj (zl []) (zHm L) L zUD
def zwA:Hint:=⟨[],[],[none],[],[],false,false,[]⟩
def zPM:CF:=cfD zwA 196
def zzB(L:Nat):CBC:=noC
def zBW(L:Nat):Dk:=fun _=>yj (zl []) (zzB L) L zPM
def zK8:Hint:=⟨[(9,7),(10,7),(11,3)],[],[none,some ((bl 32892 71),(bl 2361183116363495866495 71)),none,some ((bl 112 71),(bl 2361183116363495866483 71)),none,none,some ((bl 295420 71),(bl 2361183116363495866879 71)),none,some ((bl 33276 71),(bl 2361183116363495866879 71)),none,none],[],[],false,false,[]⟩
def zZZ:CF:=cfD zK8 186
def zPZ(L:Nat):CBC:=(xg 117 (zBW L) noC)
def zIU(L:Nat):Dk:=fun _=>yj (zl []) (zPZ L) L zZZ
def zKV:Hint:=⟨[(6,9)],[],[none,some ((bl 732 29),(bl 522190591 29)),none,some ((bl 208 29),(bl 522190579 29)),none,none],[],[],false,false,[]⟩
def zZ2:CF:=cfD zKV 199
def zO5(L:Nat):CBC:=noC
def ztk(L:Nat):Dk:=fun _=>yj (zl []) (zO5 L) L zZ2
def zJE:Hint:=⟨[(8,3),(12,3)],[],[none,none,none,some ((bl 752 61),(bl 2304855642529070071 61)),none,some ((bl 192 61),(bl 2304855642529069511 61)),none,none,none,none],[],[],false,false,[]⟩
def z1p:CF:=cfD zJE 188
def zP6(L:Nat):CBC:=(xg 594 (ztk L) (xg 593 (zs1 yO L) (xg 552 (zov xt L) (xg 528 (zea yY L) noC))))
def zzc(L:Nat):Dk:=fun _=>yj (zl []) (zP6 L) L z1p
def zAx:Hint:=⟨[],[],[none,none,none,some ((bl 10 40),(bl 1096816721899 40)),none,none,none,none,none,some ((bl 4 40),(bl 1096816721893 40))],[],[],false,false,[]⟩
def zSZ:CF:=cfD zAx 189
def zDU(L:Nat):CBC:=(xg 565 (zs7 zbI L) (xg 528 (zea yY L) (xg 513 (zop zbq L) (xg 566 (zzo zbF L) (xg 553 (zdX xL L) noC)))))
def zGm(L:Nat):Dk:=fun _=>yj (zl []) (zDU L) L zSZ
def zCn:Hint:=⟨[(0,0),(3,2),(10,4),(11,5)],[],[none,none,none,none,none,none,none,none],[],[],false,false,[]⟩
def zWg:CF:=cfD zCn 170
def zGz(L:Nat):CBC:=(xg 564 (zGm L) (xg 553 (zdX xL L) (xg 528 (zea yY L) (xg 563 (zzc L) (xg 561 (zIU L) (xg 562 (zcQ y4 L) (xg 527 (zVA L) (xg 515 (zeC L) noC))))))))
def zKT(L:Nat):Dk:=fun _=>yj (zl []) (zGz L) L zWg
def zGF:Hint:=⟨[(0,0),(0,1)],[],[none,none,none,none,none],[],[],false,false,[]⟩
def zY4:CF:=cfD zGF 143
def zMU(L:Nat):CBC:=(xg 526 (zKT L) (xg 515 (zeC L) noC))
def zFn(L:Nat):Dk:=fun _=>yj (zl []) (zMU L) L zY4
def zB4:Hint:=⟨[(1,0),(8,6),(8,11)],[],[none,some ((bl 904 48),(bl 281264523280287 48)),none,some ((bl 8 48),(bl 281264523280287 48)),none,none,some ((bl 1000 48),(bl 281474976677887 48)),none,some ((bl 1000 48),(bl 281474976677887 48)),none,none,none,none],[],[],false,false,[]⟩
def zVo:CF:=cfD zB4 145
def zHD(L:Nat):CBC:=noC
def zyD(L:Nat):Dk:=fun _=>yj (zl []) (zHD L) L zVo
def zDE(L:Nat):CBC:=(xg 528 (zea yY L) (xg 529 (zeq zaZ L) (xg 527 (zVA L) noC)))
def zvt(L:Nat):Dk:=fun _=>yj (zl []) (zDE L) L zXM
def zLd:Hint:=⟨[(0,0),(0,1),(1,3)],[],[none,some ((bl 2816 45),(bl 29686813949839 45)),none,some ((bl 2304 45),(bl 29686813949839 45)),none,none,some ((bl 256 45),(bl 29686813947791 45)),none],[],[],false,false,[]⟩
def z0s:CF:=cfD zLd 133
def zP9(L:Nat):CBC:=(xg 485 (zvt L) (xg 429 (zmJ L) (xg 486 (zyD L) (xg 484 (zFn L) noC))))
def zSc(L:Nat):Dk:=fun _=>yj (zl []) (zP9 L) L z0s
def zGO:Hint:=⟨[(0,0),(0,1),(0,2),(0,3),(1,4),(1,5),(2,18)],[],[none],[],[],false,false,[]⟩
def zZt:CF:=cfD zGO 87
def zNw(L:Nat):CBC:=(xg 473 (zSc L) (xg 475 (zKP L) (xg 474 (zx7 L) (xg 471 (zHL L) (xg 448 (zBK L) (xg 472 (zvQ L) (xg 470 (zxZ L) noC)))))))
def zQc(L:Nat):Dk:=fun _=>yj (zl []) (zNw L) L zZt
def zEk(L:Nat):CBC:=(xg 474 (zx7 L) (xg 558 (ztF zi L) (xg 557 (zps xe L) (xg 556 (zon xc L) (xg 517 (zw2 L) (xg 132 (zoc yh L) (xg 153 (zfh za L) (xg 449 (zxo zj L) noC))))))))
def zHK(L:Nat):Dk:=fun _=>yj (zl []) (zEk L) L cf_ref11_Check
def zFG:Hint:=⟨[(0,0),(0,1),(0,2)],[],[none,none,none,none,none,none,none,none,none,none,none,none,none,none],[],[],false,false,[]⟩
def zXo:CF:=cfD zFG 135
def zJW(L:Nat):CBC:=(xg 134 (ztY zkz L) (xg 522 (zHK L) (xg 521 (zA4 zok L) (xg 515 (zeC L) noC))))
def zNc(L:Nat):Dk:=fun _=>yj (zl []) (zJW L) L zXo
def zHg:Hint:=⟨[],[],[none,some ((bl 393 20),(bl 1048527 20)),none,some ((bl 0 20),(bl 1048519 20)),none,none,some ((bl 16 20),(bl 1048535 20)),none],[],[],false,false,[]⟩
def zZr:CF:=cfD zHg 139
def zNB(L:Nat):CBC:=noC
def zvp(L:Nat):Dk:=fun _=>yj (zl []) (zNB L) L zZr
def zxP:Hint:=⟨[(0,1)],[],[none],[],[],false,false,[]⟩
def zQ4:CF:=cfD zxP 166
def zCM(L:Nat):CBC:=(xg 453 (zgm zao L) noC)
def zuD(L:Nat):Dk:=fun _=>yj (zl []) (zCM L) L zQ4
def zFf:Hint:=⟨[(0,0),(0,1),(0,2),(1,0),(4,2),(7,0),(8,0),(8,8),(12,2),(14,0),(16,0),(16,1)],[],[none,some ((bl 918554 57),(bl 144115067749616831 57)),none,some ((bl 1048 57),(bl 144115067749616831 57)),none,none,some ((bl 768 57),(bl 144115067749616559 57)),none,some ((bl 1924145349656 57),(bl 144115188075818175 57)),none,some ((bl 1024 57),(bl 144115188075818159 57)),none,none,some ((bl 768 57),(bl 144115188075818927 57)),none],[],[],false,false,[]⟩
def zXi:CF:=cfD zFf 136
def zKm(L:Nat):CBC:=(xg 441 (zuD L) (xg 480 (zvp L) noC))
def zNA(L:Nat):Dk:=fun _=>yj (zl []) (zKm L) L zXi
def zJM:Hint:=⟨[(0,0),(15,2),(24,2)],[],[none,none,none,none,none,some ((bl 100663302 81),(bl 2417851639229258349407055 81)),none,some ((bl 6 81),(bl 2417851639229258349407055 81)),none,none,some ((bl 48 81),(bl 2417851639229258349407099 81)),none,some ((bl 30786325577988 81),(bl 2417851639229258349407183 81)),none,some ((bl 260 81),(bl 2417851639229258349407183 81)),none,none,some ((bl 48 81),(bl 2417851639229258349406971 81)),none,none,none,some ((bl 1033017668127734890752 81),(bl 2417851639229258349407227 81)),none,some ((bl 256 81),(bl 2417851639229258349407227 81)),none,none,none,none],[],[],false,false,[]⟩
def z1l:CF:=cfD zJM 167
def zOS(L:Nat):CBC:=(xg 132 (zoc yh L) noC)
def zSl(L:Nat):Dk:=fun _=>yj (zl []) (zOS L) L z1l
def zCH:Hint:=⟨[],[],[none],[],[],false,false,[]⟩
def zUI:CF:=cfD zCH 193
def zHy(L:Nat):CBC:=(xg 494 (zjd zum L) noC)
def zyV(L:Nat):Dk:=fun _=>yj (zl []) (zHy L) L zUI
def zz6:Hint:=⟨[(0,0),(0,1),(5,0),(5,1),(5,2),(8,2),(9,0),(9,5),(14,2),(15,0),(15,4),(17,3),(18,4),(19,4),(20,4),(21,4),(22,4),(23,0)],[],[none,none,none,none,none,some ((bl 30786325579626 98),(bl 316912650056978537380696797183 98)),none,some ((bl 1898 98),(bl 316912650056978537380696797183 98)),none,none,some ((bl 4035225266123966314 98),(bl 316912649614335492605146542079 98)),none,some ((bl 1898 98),(bl 316912649614335492605146542079 98)),none,none],[],[],false,false,[]⟩
def zTq:CF:=cfD zz6 184
def zD7(L:Nat):CBC:=(xg 589 (zyV L) (xg 160 (zh9 xp L) (xg 494 (zjd zum L) (xg 186 (zzi xj L) (xg 159 (zgz zb L) (xg 138 (ztX xf L) (xg 148 (zeN xb L) noC)))))))
def zHx(L:Nat):Dk:=fun _=>yj (zl []) (zD7 L) L zTq
def zEg:Hint:=⟨[(0,0)],[],[none,none,none,none,none,none,none,none,none,none,none],[],[],false,false,[]⟩
def zXV:CF:=cfD zEg 216
def zLn(L:Nat):CBC:=noC
def zNv(L:Nat):Dk:=fun _=>yj (zl []) (zLn L) L zXV
def zKz:Hint:=⟨[(0,0),(0,1),(3,2),(4,0),(4,2),(8,2),(10,5),(10,10),(13,2),(14,8),(14,14),(15,1),(15,5)],[],[none,none,none,none,none,none,none,none,none,none],[],[],false,false,[]⟩
def z1a:CF:=cfD zKz 209
def zPx(L:Nat):CBC:=(xg 618 (zNv L) (xg 453 (zgm zao L) noC))
def zR8(L:Nat):Dk:=fun _=>yj (zl []) (zPx L) L z1a
def zFH:Hint:=⟨[(0,0),(2,0),(3,0),(5,2),(5,4),(5,6),(7,1),(8,0),(8,5),(9,0),(9,1)],[],[none,none,none,some ((bl 17 29),(bl 435220243 29)),none,some ((bl 16 29),(bl 435220242 29)),none,none,some ((bl 12 29),(bl 435220238 29)),none],[],[],false,false,[]⟩
def zXx:CF:=cfD zFH 200
def zJX(L:Nat):CBC:=(xg 610 (zR8 L) noC)
def zNe(L:Nat):Dk:=fun _=>yj (zl []) (zJX L) L zXx
def zB6:Hint:=⟨[(1,0),(4,2),(7,0),(7,3),(15,5)],[(7,2)],[none,some ((bl 456 51),(bl 2232953357844443 51)),none,some ((bl 8 51),(bl 2232953357844443 51)),none,none,none,none,none,some ((bl 4 51),(bl 2232953357844439 51)),none,none,some ((bl 4 51),(bl 2232953357844439 51)),none],[],[],false,false,[]⟩
def zUG:CF:=cfD zB6 201
def zG9(L:Nat):CBC:=noC
def zJY(L:Nat):Dk:=fun _=>yj (zl []) (zG9 L) L zUG
def zHi:Hint:=⟨[],[],[none,none,none,some ((bl 1792 18),(bl 229355 18)),none,some ((bl 0 18),(bl 229355 18)),none,none,some ((bl 4 18),(bl 229359 18)),none],[],[],false,false,[]⟩
def zZG:CF:=cfD zHi 202
def zNN(L:Nat):CBC:=noC
def zPN(L:Nat):Dk:=fun _=>yj (zl []) (zNN L) L zZG
def zCs:Hint:=⟨[(0,0),(1,3),(5,0),(5,6),(7,0),(7,1)],[],[none,some ((bl 3592 23),(bl 6422495 23)),none,some ((bl 8 23),(bl 6422495 23)),none,none],[],[],false,false,[]⟩
def zUm:CF:=cfD zCs 203
def zHF(L:Nat):CBC:=(xg 453 (zgm zao L) noC)
def zJv(L:Nat):Dk:=fun _=>yj (zl []) (zHF L) L zUm
def zCL:Hint:=⟨[],[],[none],[],[],false,false,[]⟩
def zVS:CF:=cfD zCL 204
def zHa(L:Nat):CBC:=noC
def zLa(L:Nat):Dk:=fun _=>yj (zl []) (zHa L) L zVS
def zD2:Hint:=⟨[(0,0)],[],[none,none,none,none,none,none,none,none],[],[],false,false,[]⟩
def zWv:CF:=cfD zD2 205
def zKb(L:Nat):CBC:=noC
def zNy(L:Nat):Dk:=fun _=>yj (zl []) (zKb L) L zWv
def zEx:Hint:=⟨[(0,0)],[],[none,none,none,none,none,none,none,none,none,none,none,none,none,none,none,none,none,none],[],[],false,false,[]⟩
def zWZ:CF:=cfD zEx 206
def zKL(L:Nat):CBC:=noC
def zNu(L:Nat):Dk:=fun _=>yj (zl []) (zKL L) L zWZ
def zG7:Hint:=⟨[],[],[none,some ((bl 224 14),(bl 16363 14)),none,some ((bl 0 14),(bl 16363 14)),none,none,some ((bl 4 14),(bl 16367 14)),none],[],[],false,false,[]⟩
def zZk:CF:=cfD zG7 195
def zMR(L:Nat):CBC:=noC
def zv8(L:Nat):Dk:=fun _=>yj (zl []) (zMR L) L zZk
def zBR:Hint:=⟨[(0,0),(2,0),(3,9)],[],[none,none,none],[],[],false,false,[]⟩
def zUT:CF:=cfD zBR 210
def zGW(L:Nat):CBC:=noC
def zKZ(L:Nat):Dk:=fun _=>yj (zl []) (zGW L) L zUT
def zGK:Hint:=⟨[],[],[none],[],[],false,false,[]⟩
def zZx:CF:=cfD zGK 15
def zNd(L:Nat):CBC:=noC
def zPX(L:Nat):Dk:=fun _=>yj (zl []) (zNd L) L zZx
def zGw:Hint:=⟨[(0,0),(1,0),(4,0),(4,5),(5,0),(5,1)],[],[none,some ((bl 9 14),(bl 10239 14)),none,some ((bl 8 14),(bl 10238 14)),none,none],[],[],false,false,[]⟩
def zZw:CF:=cfD zGw 212
def zNP(L:Nat):CBC:=noC
def zFw(L:Nat):Dk:=fun _=>yj (zl []) (zNP L) L zZw
def zEu:Hint:=⟨[(0,0),(2,1),(3,1)],[],[none,none,none],[],[],false,false,[]⟩
def zWp:CF:=cfD zEu 211
def zJt(L:Nat):CBC:=(xg 613 (zFw L) noC)
def zNK(L:Nat):Dk:=fun _=>yj (zl []) (zJt L) L zWp
def zzJ:Hint:=⟨[(1,3)],[],[none],[],[],false,false,[]⟩
def zSv:CF:=cfD zzJ 228
def zFu(L:Nat):CBC:=(xg 594 (ztk L) (xg 562 (zcQ y4 L) noC))
def zle(L:Nat):Dk:=fun _=>yj (zl []) (zFu L) L zSv
def zDJ:Hint:=⟨[],[],[none],[],[],false,false,[]⟩
def zWJ:CF:=cfD zDJ 223
def zLc(L:Nat):CBC:=(xg 513 (zop zbq L) (xg 630 (zle L) noC))
def zol(L:Nat):Dk:=fun _=>yj (zl []) (zLc L) L zWJ
def zBT:Hint:=⟨[(1,4)],[],[none],[],[],false,false,[]⟩
def zU4:CF:=cfD zBT 234
def zHk(L:Nat):CBC:=(xg 563 (zzc L) noC)
def zrp(L:Nat):Dk:=fun _=>yj (zl []) (zHk L) L zU4
def zB2:Hint:=⟨[(3,7),(4,4)],[],[none,none,none],[],[],false,false,[]⟩
def zVG:CF:=cfD zB2 230
def zH0(L:Nat):CBC:=(xg 563 (zzc L) (xg 561 (zIU L) (xg 636 (zrp L) (xg 553 (zdX xL L) noC))))
def zzb(L:Nat):Dk:=fun _=>yj (zl []) (zH0 L) L zVG
def zCi:Hint:=⟨[],[],[none,none,none,some ((bl 504 34),(bl 12582911999 34)),none,some ((bl 192 34),(bl 12582911687 34)),none,none,none],[],[],false,false,[]⟩
def zUE:CF:=cfD zCi 231
def zGA(L:Nat):CBC:=(xg 552 (zov xt L) (xg 632 (zzb L) (xg 565 (zs7 zbI L) (xg 636 (zrp L) (xg 562 (zcQ y4 L) (xg 553 (zdX xL L) noC))))))
def zKQ(L:Nat):Dk:=fun _=>yj (zl []) (zGA L) L zUE
def zLb:Hint:=⟨[],[],[none],[],[],false,false,[]⟩
def z0n:CF:=cfD zLb 226
def zPL(L:Nat):CBC:=(xg 633 (zKQ L) (xg 630 (zle L) noC))
def zzm(L:Nat):Dk:=fun _=>yj (zl []) (zPL L) L z0n
def zKv:Hint:=⟨[],[],[none],[],[],false,false,[]⟩
def z0d:CF:=cfD zKv 229
def zPP(L:Nat):CBC:=(xg 562 (zcQ y4 L) noC)
def zRO(L:Nat):Dk:=fun _=>yj (zl []) (zPP L) L z0d
def zCF:Hint:=⟨[],[],[none],[],[],false,false,[]⟩
def zUe:CF:=cfD zCF 221
def zHV(L:Nat):CBC:=(xg 631 (zRO L) (xg 628 (zzm L) (xg 625 (zol L) (xg 528 (zea yY L) (xg 630 (zle L) (xg 553 (zdX xL L) noC))))))
def zKx(L:Nat):Dk:=fun _=>yj (zl []) (zHV L) L zUe
def zFL:Hint:=⟨[],[],[none],[],[],false,false,[]⟩
def zWy:CF:=cfD zFL 217
def zJB(L:Nat):CBC:=(xg 623 (zKx L) (xg 562 (zcQ y4 L) noC))
def zBb(L:Nat):Dk:=fun _=>yj (zl []) (zJB L) L zWy
def zE1:Hint:=⟨[],[],[none],[],[],false,false,[]⟩
def zWY:CF:=cfD zE1 222
def zJy(L:Nat):CBC:=(xg 528 (zea yY L) (xg 625 (zol L) noC))
def zAP(L:Nat):Dk:=fun _=>yj (zl []) (zJy L) L zWY
def zCG:Hint:=⟨[(5,1)],[],[none,none,none,none,none],[],[],false,false,[]⟩
def zU3:CF:=cfD zCG 218
def zHj(L:Nat):CBC:=(xg 624 (zAP L) (xg 529 (zeq zaZ L) noC))
def zJF(L:Nat):Dk:=fun _=>yj (zl []) (zHj L) L zU3
def zEz:Hint:=⟨[],[],[none],[],[],false,false,[]⟩
def zWV:CF:=cfD zEz 225
def zLp(L:Nat):CBC:=(xg 628 (zzm L) (xg 562 (zcQ y4 L) noC))
def zNf(L:Nat):Dk:=fun _=>yj (zl []) (zLp L) L zWV
def zJz:Hint:=⟨[],[],[none],[],[],false,false,[]⟩
def z1j:CF:=cfD zJz 224
def zPl(L:Nat):CBC:=(xg 632 (zzb L) (xg 630 (zle L) noC))
def zRW(L:Nat):Dk:=fun _=>yj (zl []) (zPl L) L z1j
def zDH:Hint:=⟨[],[],[none,some ((bl 78 24),(bl 16777167 24)),none,some ((bl 12 24),(bl 16777165 24)),none,none],[],[],false,false,[]⟩
def zW5:CF:=cfD zDH 236
def zKj(L:Nat):CBC:=noC
def zNG(L:Nat):Dk:=fun _=>yj (zl []) (zKj L) L zW5
def zCv:Hint:=⟨[(0,1),(2,1)],[],[none],[],[],false,false,[]⟩
def zTY:CF:=cfD zCv 233
def zGq(L:Nat):CBC:=(xg 638 (zNG L) noC)
def zJw(L:Nat):Dk:=fun _=>yj (zl []) (zGq L) L zTY
def zCq:Hint:=⟨[(4,3),(6,3)],[],[none,none,none,none],[],[],false,false,[]⟩
def zVB:CF:=cfD zCq 237
def zGr(L:Nat):CBC:=(xg 594 (ztk L) (xg 528 (zea yY L) (xg 593 (zs1 yO L) (xg 636 (zrp L) (xg 553 (zdX xL L) noC)))))
def zJq(L:Nat):Dk:=fun _=>yj (zl []) (zGr L) L zVB
def zxa:Hint:=⟨[],[],[none],[],[],false,false,[]⟩
def zOY:CF:=cfD zxa 235
def zAr(L:Nat):CBC:=(xg 639 (zJq L) (xg 625 (zol L) noC))
def zCx(L:Nat):Dk:=fun _=>yj (zl []) (zAr L) L zOY
def zB0:Hint:=⟨[],[],[none],[],[],false,false,[]⟩
def zVd:CF:=cfD zB0 232
def zHB(L:Nat):CBC:=(xg 637 (zCx L) (xg 529 (zeq zaZ L) noC))
def zLk(L:Nat):Dk:=fun _=>yj (zl []) (zHB L) L zVd
def zxA:Hint:=⟨[],[],[none],[(1,[5])],[],false,false,[]⟩
def zOq:CF:=cfD zxA 227
def zzX(L:Nat):CBC:=(xg 634 (zLk L) (xg 589 (zyV L) (xg 453 (zgm zao L) (xg 635 (zJw L) noC))))
def zB3(L:Nat):Dk:=fun _=>yj (zl []) (zzX L) L zOq
def zCk:Hint:=⟨[(3,4)],[],[none,none,none],[],[],false,false,[]⟩
def zTP:CF:=cfD zCk 219
def zHp(L:Nat):CBC:=(xg 629 (zB3 L) (xg 626 (zRW L) (xg 628 (zzm L) (xg 627 (zNf L) (xg 594 (ztk L) (xg 625 (zol L) (xg 624 (zAP L) (xg 619 (zBb L) noC))))))))
def zKq(L:Nat):Dk:=fun _=>yj (zl []) (zHp L) L zTP
def zCj:Hint:=⟨[(10,2)],[],[none,none,none,none,none,none,none,none,none],[],[],false,false,[]⟩
def zVN:CF:=cfD zCj 213
def zGZ(L:Nat):CBC:=(xg 621 (zKq L) (xg 620 (zJF L) (xg 619 (zBb L) (xg 529 (zeq zaZ L) noC))))
def zy5(L:Nat):Dk:=fun _=>yj (zl []) (zGZ L) L zVN
def zFM:Hint:=⟨[(0,0),(5,13)],[],[none,some ((bl 810 44),(bl 17577153655615 44)),none,some ((bl 264 44),(bl 17577153655071 44)),none,none,some ((bl 192 44),(bl 17577153654999 44)),none,none],[],[],false,false,[]⟩
def zXp:CF:=cfD zFM 214
def zLe(L:Nat):CBC:=(xg 614 (zy5 L) noC)
def zND(L:Nat):Dk:=fun _=>yj (zl []) (zLe L) L zXp
def zBZ:Hint:=⟨[],[],[none,none,none,some ((bl 50331665 40),(bl 1099511627743 40)),none,some ((bl 16 40),(bl 1099511627743 40)),none,none],[],[],false,false,[]⟩
def zU5:CF:=cfD zBZ 220
def zGQ(L:Nat):CBC:=noC
def zKf(L:Nat):Dk:=fun _=>yj (zl []) (zGQ L) L zU5
def zCr:Hint:=⟨[(1,2)],[],[none,none,none,none,none],[],[],false,false,[]⟩
def zT0:CF:=cfD zCr 215
def zHZ(L:Nat):CBC:=(xg 622 (zKf L) noC)
def zKl(L:Nat):Dk:=fun _=>yj (zl []) (zHZ L) L zT0
def zH8:Hint:=⟨[(0,0),(0,2),(4,6),(4,8),(6,7),(6,9),(8,0),(8,4),(10,18),(12,20),(14,16),(17,0),(18,0),(18,4),(21,0),(21,9),(23,10),(23,12),(25,13),(26,0),(26,11),(29,7),(30,0),(30,9),(32,9),(34,9),(35,0)],[],[none,none,none,none,none,none,none,none,none,none,none,none,none,none,none,none,none,none,none,none,none,none,none,none,none,none,none,none,none,none],[(21,[9])],[],false,false,[]⟩
def zZe:CF:=cfD zH8 207
def zNh(L:Nat):CBC:=(xg 616 (zKl L) (xg 615 (zND L) (xg 614 (zy5 L) (xg 613 (zFw L) (xg 494 (zjd zum L) (xg 591 (zv8 L) (xg 612 (zNK L) (xg 130 (zPX L) (xg 611 (zKZ L) (xg 453 (zgm zao L) noC))))))))))
def zPk(L:Nat):Dk:=fun _=>yj (zl []) (zNh L) L zZe
def zKB:Hint:=⟨[(0,1),(1,2),(1,3),(3,1),(5,0),(7,0),(8,2),(10,0),(13,2),(20,0),(22,0),(27,5),(28,0),(28,4),(32,5),(34,4),(34,5),(34,7),(36,1),(38,0),(38,2)],[(28,3)],[none,none,none,none,none,none,none,some ((bl 60129556512 134),(bl 21479575417666174971013579263329479457343 134)),none,some ((bl 6144 134),(bl 21479575417666174971013579263329479449119 134)),none,none,none,none,some ((bl 448 134),(bl 21479575417666174971013579263329479443423 134)),none,some ((bl 448 134),(bl 21479575417666174971013579263329479443423 134)),none,none,none,none,none,none,none,some ((bl 448 134),(bl 21479575417666174971013579263329479443423 134)),none],[],[],false,false,[]⟩
def z1i:CF:=cfD zKB 194
def zPz(L:Nat):CBC:=(xg 606 (zPk L) (xg 591 (zv8 L) (xg 605 (zNu L) (xg 604 (zNy L) (xg 603 (zLa L) (xg 602 (zJv L) (xg 601 (zPN L) (xg 600 (zJY L) (xg 599 (zNe L) noC)))))))))
def zR1(L:Nat):Dk:=fun _=>yj (zl []) (zPz L) L z1i
def zwR:Hint:=⟨[(1,4),(1,5)],[],[none,none,none,none,none,none,none,none],[],[],false,false,[]⟩
def zOL:CF:=cfD zwR 185
def zAo(L:Nat):CBC:=(xg 591 (zv8 L) (xg 590 (zR1 L) noC))
def zBX(L:Nat):Dk:=fun _=>yj (zl []) (zAo L) L zOL
def zEp:Hint:=⟨[(0,0),(0,1),(1,5)],[],[none,none,none,none,none,none,none],[],[],false,false,[]⟩
def zXK:CF:=cfD zEp 168
def zK0(L:Nat):CBC:=(xg 560 (zBX L) (xg 559 (zHx L) noC))
def zNH(L:Nat):Dk:=fun _=>yj (zl []) (zK0 L) L zXK
def zFB:Hint:=⟨[(0,0),(3,3)],[],[none,none,none,none,none,none,none,some ((bl 805306638 45),(bl 34634616271679 45)),none,some ((bl 256 45),(bl 34634616271671 45)),none,none,some ((bl 192 45),(bl 34634616271863 45)),none],[],[],false,false,[]⟩
def zWG:CF:=cfD zFB 137
def zJs(L:Nat):CBC:=(xg 524 (zNH L) (xg 134 (ztY zkz L) (xg 523 (zSl L) (xg 153 (zfh za L) noC))))
def zMS(L:Nat):Dk:=fun _=>yj (zl []) (zJs L) L zWG
def zzR:Hint:=⟨[(0,0),(1,4),(1,9)],[],[none],[],[],false,false,[]⟩
def zTm:CF:=cfD zzR 138
def zEE(L:Nat):CBC:=noC
def zGU(L:Nat):Dk:=fun _=>yj (zl []) (zEE L) L zTm
def zAg:Hint:=⟨[(0,0),(0,1),(1,0),(5,3),(6,0),(6,12),(8,0),(8,1)],[],[none,some ((bl 28774 33),(bl 6845103743 33)),none,some ((bl 32 33),(bl 6845103675 33)),none,none],[],[],false,false,[]⟩
def zTF:CF:=cfD zAg 142
def zEO(L:Nat):CBC:=(xg 153 (zfh za L) (xg 517 (zw2 L) noC))
def zwW(L:Nat):Dk:=fun _=>yj (zl []) (zEO L) L zTF
def zGJ:Hint:=⟨[(0,0),(0,1),(1,0),(6,0),(6,7),(8,0),(8,5),(8,10)],[],[none,some ((bl 809 39),(bl 549553962943 39)),none,some ((bl 41 39),(bl 549553962943 39)),none,none,none],[],[],false,false,[]⟩
def zZb:CF:=cfD zGJ 169
def zNL(L:Nat):CBC:=(xg 441 (zuD L) (xg 136 (zpz zC L) noC))
def zOs(L:Nat):Dk:=fun _=>yj (zl []) (zNL L) L zZb
def zLh:Hint:=⟨[(0,0),(0,1),(3,2),(5,0),(9,2),(10,3),(12,0),(12,1)],[],[none,some ((bl 114709 39),(bl 549747422527 39)),none,some ((bl 21 39),(bl 549747422527 39)),none,none,some ((bl 192 39),(bl 549747422703 39)),none,some ((bl 1879048193 39),(bl 481036334575 39)),none,some ((bl 1 39),(bl 481036334575 39)),none,none],[],[],false,false,[]⟩
def z0S:CF:=cfD zLh 140
def zOt(L:Nat):CBC:=(xg 525 (zOs L) (xg 480 (zvp L) (xg 483 (zwW L) noC)))
def zSg(L:Nat):Dk:=fun _=>yj (zl []) (zOt L) L z0S
def zDW:Hint:=⟨[(4,2)],[],[none,some ((bl 456 19),(bl 524255 19)),none,some ((bl 8 19),(bl 524255 19)),none,none],[],[],false,false,[]⟩
def zWQ:CF:=cfD zDW 141
def zJQ(L:Nat):CBC:=noC
def zMW(L:Nat):Dk:=fun _=>yj (zl []) (zJQ L) L zWQ
def zz7:Hint:=⟨[(0,0),(0,1),(0,2),(0,3),(0,4),(8,3),(10,7),(10,8),(13,5),(18,2),(21,4),(22,6),(22,7)],[],[none,none,none,some ((bl 492581209251048 153),(bl 11417981541574946208765741796140502961711488751 153)),none,some ((bl 7392 153),(bl 11417981541574946208765741796140502961711488743 153)),none,none,none,some ((bl 448 153),(bl 11417981541574946208765741796140502961711481799 153)),none,some ((bl 448 153),(bl 11417981541574946208765741796140502961711481799 153)),none,some ((bl 67699845898911814992977128 153),(bl 11417981541647678929624043984199454700745523183 153)),none,some ((bl 492581209431272 153),(bl 11417981541647678929624043984199454700745523183 153)),none,none,some ((bl 448 153),(bl 11417981541574946208765741796140502961711481799 153)),none,none,none,none,none,none,none,none],[],[],false,false,[]⟩
def zTA:CF:=cfD zz7 88
def zDG(L:Nat):CBC:=(xg 482 (zMW L) (xg 483 (zwW L) (xg 481 (zSg L) (xg 479 (zGU L) (xg 480 (zvp L) (xg 478 (zMS L) (xg 477 (zNA L) (xg 472 (zvQ L) (xg 429 (zmJ L) (xg 476 (zNc L) noC))))))))))
def zGR(L:Nat):Dk:=fun _=>yj (zl []) (zDG L) L zTA
def zGP:Hint:=⟨[(0,0),(0,1)],[],[none],[],[],false,false,[]⟩
def zYU:CF:=cfD zGP 146
def zNa(L:Nat):CBC:=(xg 515 (zeC L) noC)
def zP0(L:Nat):Dk:=fun _=>yj (zl []) (zNa L) L zYU
def zzV:Hint:=⟨[(0,0),(0,1),(0,3)],[],[none,none,none,none,none,none,none],[],[],false,false,[]⟩
def zTD:CF:=cfD zzV 90
def zE5(L:Nat):CBC:=(xg 429 (zmJ L) (xg 487 (zP0 L) noC))
def zvE(L:Nat):Dk:=fun _=>yj (zl []) (zE5 L) L zTD
def zEU:Hint:=⟨[(0,0),(0,1),(1,4),(1,7),(8,3)],[],[none,none,none,none,none,none,none,none,none,none,none,none,none,none,none,none,none,none,some ((bl 132226261520350065984000 93),(bl 9903520314283042199192985231 93)),none,some ((bl 0 93),(bl 9903520314283042199192984719 93)),none,none,some ((bl 256 93),(bl 9903520314283042199192984975 93)),none],[],[],false,false,[]⟩
def zWS:CF:=cfD zEU 89
def zJo(L:Nat):CBC:=(xg 486 (zyD L) (xg 485 (zvt L) (xg 484 (zFn L) (xg 446 (zvE L) noC))))
def zNr(L:Nat):Dk:=fun _=>yj (zl []) (zJo L) L zWS
def zJG:Hint:=⟨[(0,1),(6,16),(6,17),(7,6),(8,5),(8,9),(8,10),(10,6),(11,1),(11,6),(12,1),(12,6)],[],[none,some ((bl 3758096404 112),(bl 4941240693938888968870671530582079 112)),none,some ((bl 20 112),(bl 4941240693938888968870671530582079 112)),none,none,none,none],[],[],false,false,[]⟩
def z1g:CF:=cfD zJG 51
def zOl(L:Nat):CBC:=(xg 446 (zvE L) (xg 445 (zNr L) (xg 444 (zGR L) (xg 443 (zQc L) noC))))
def zRZ(L:Nat):Dk:=fun _=>yj (zl []) (zOl L) L z1g
def zG0:Hint:=⟨[(0,0)],[],[none],[],[],false,false,[]⟩
def zZp:CF:=cfD zG0 20
def zNE(L:Nat):CBC:=(xg 424 (zRZ L) (xg 442 (zPH L) noC))
def zON(L:Nat):Dk:=fun _=>yj (zl []) (zNE L) L zZp
def zKo(L:Nat):CBC:=(xg 501 (zjd zDR L) (xg 128 (zsV xD L) noC))
def zBM(L:Nat):Dk:=fun _=>yj (zl []) (zKo L) L zFv
def zVh(L:Nat):CBC:=(xg 583 (zBM L) noC)
def zYf(L:Nat):Dk:=fun _=>yj (zl []) (zVh L) L zTL
def zFI(L:Nat):CBC:=(xg 548 (zYf L) noC)
def zHG(L:Nat):Dk:=fun _=>yj (zl []) (zFI L) L cf_block_coins
def zP7(L:Nat):CBC:=(xg 583 (zBM L) noC)
def zSi(L:Nat):Dk:=fun _=>yj (zl []) (zP7 L) L zLY
def zDM(L:Nat):CBC:=(xg 458 (zjd zum L) noC)
def zHH(L:Nat):Dk:=fun _=>yj (zl []) (zDM L) L zyb
def zzQ(L:Nat):CBC:=(xg 617 (zHH L) noC)
def zCh(L:Nat):Dk:=fun _=>yj (zl []) (zzQ L) L cf_merkle_levels
def zEe(L:Nat):CBC:=(xg 608 (zCh L) noC)
def zGM(L:Nat):Dk:=fun _=>yj (zl []) (zEe L) L zyv
def zHf(L:Nat):CBC:=(xg 597 (zGM L) (xg 596 (zSi L) noC))
def zKF(L:Nat):Dk:=fun _=>yj (zl []) (zHf L) L cf_block_Root
def zET(L:Nat):CBC:=(xg 579 (zKF L) (xg 578 (zHG L) (xg 131 (zDl zx L) (xg 151 (zoi zf L) (xg 577 (zro zn L) noC)))))
def zGp(L:Nat):Dk:=fun _=>yj (zl []) (zET L) L cf_block_Check
end
end
section
noncomputable section
def zHl:Hint:=⟨[(1,5),(2,1)],[],[none],[],[],false,false,[]⟩
def zAE:CF:=cfD zHl 11
def ztM(L:Nat):CBC:=(xg 542 (zGp L) (xg 502 (zi3 yq L) (xg 422 (zON L) noC)))
abbrev zqG:=∀ (β:Type),Nat→Ob β→Ob β
def zbz:zqG:=fun β L k=>chk (30000≤L) k
theorem zZY(β:Type)(n:Nat)(k:KK β):yj (zl []) (ztM (n+30000)) (n+30000) zAE [] [] k=k (.sc (.bool true)) []:=by kernel_rfl
def zEh(zbz:zqG)(L:Nat):Dk:=d0 fun β k=>zbz β L (k (.sc (.bool true)) [])
theorem zT7(L:Nat):DK (zEh zbz L) (fun _=>yj (zl []) (ztM L) L zAE):=z8j (X:=fun L _=>yj (zl []) (ztM L) L zAE) zZY L
end
end
section
noncomputable section
def zs2:Hint:=⟨[(0,0),(5,1)],[],[none,none,none,none,none],[],[],false,false,[]⟩
def zwY:CF:=cfD zs2 4
def znf:Nat→Sh:=zl [(11,(.sl 4))]
def znk(zbz:zqG)(zbc:zqx)(xh:xN)(zaQ:zod)(zaR:zoe)(L:Nat):CBC:=(xg 522 (zBn zaR L) (xg 542 (zA3 zaQ L) (xg 474 (zwy xh L) (xg 670 (zEN zbc L) (xg 669 (zEh zbz L) noC)))))
def zoO{β:Type}(zbz:zqG)(zbc:zqx)(xh:xN)(zaQ:zod)(zaR:zoe)(L:Nat)(p:List V)(z:Bool→Ob β):Ob β:=zbz β L  (chk (0+69≤(XK p)) (zbc β L (Xv V.dem (XL 69 p)) (fun E=>ifb (!E) (z true) (chk (0+69≤(XK p)) (chk ((XK (XL 69 p))=69∧0+69≤69) (lt (zq ([(Qc (0:Int))]++We 64 (Qa (0:Int))++[(Qc (0:Int)),(Qc (0:Int)),(Qc (0:Int)),(V.gs 4 ([]:Ls))]) 0 (XL 69 p)) fun C=>cLd 4 p 68 fun F=>xh β L F (fun D=>chk ((XK D)=32∧33+32≤(XK C)) (lt (zq C 33 D) fun A=>chk (0+69≤(XK p)) (zaQ β L (Xv V.dem (XL 69 p)) (fun G=>chk (0+69≤(XK p)) (zaR β L (Xv V.dem (XL 69 p)) (fun H=>ifb ((G:Int)==H) (chk (0+69≤(XK A)) (zaQ β L (Xv V.dem (XL 69 A)) (fun I=>chk (0+69≤(XK A)) (zaR β L (Xv V.dem (XL 69 A)) (fun J=>z ((I:Int)==J)))))) (z false)))))))))))))
theorem zIM{β:Type}(zbz:zqG)(zbc:zqx)(xh:xN)(zaQ:zod)(zaR:zoe)(L:Nat)(p:List V)(k:KK β):yj znf (znk zbz zbc xh zaQ zaR L) L zwY [(V.agg p)] [] k=zoO zbz zbc xh zaQ zaR L p (fun p=>k (V.sc (.bool p)) []):=by kernel_rfl
abbrev zxS:=∀ (β:Type),Nat→List V→(Bool→Ob β)→Ob β
def zcm:zxS:=fun β=>@zoO β zbz zbc xh zaQ zaR
def zoX(zcm:zxS)(L:Nat):Dk:=dA AG fun p=>d0 fun β k=>zcm β L p (fun p=>k (V.sc (.bool p)) [])
theorem zIm(L:Nat):DK (zoX zcm L) (fun _=>yj znf (znk zbz zbc xh zaQ zaR L) L zwY):=zF zap fun p=>zP fun _ k=>zIM zbz zbc xh zaQ zaR L p k
theorem zez{P:Program}{ren:Rn}{fg:List (Nat × Nat)}{l m:List (Nat × Nat × Hint)}(p:zif P ren fg l=true)(z:zif P ren fg m=true):zif P ren fg (l++m)=true:=by
 unfold zif at *
 rw [List.all_append,p,z]; rfl
def rh0:List (Nat × Nat × Hint):=[(73,145,zHN),(35,127,zPJ),(12,670,zGo),(106,194,zCD),(105,193,zCI),(64,159,zwc),(79,185,zuY),(65,160,zu1),(95,138,zFF),(153,206,zwi),(97,187,zs5),(96,186,zKW)]
theorem z9K:zif Tryz.prog (zdC fg gls) fg rh0=true:=by kernel_rfl
def rh1:List (Nat × Nat × Hint):=[(55,149,zCc),(53,148,zHr),(150,531,zK2),(151,532,zzz),(192,572,zm7),(178,571,zGE),(176,569,zx0),(177,570,zwZ),(152,533,zx1),(94,494,zJI),(54,454,zCu),(22,519,zHX)]
theorem z9g:zif Tryz.prog (zdC fg gls) fg rh1=true:=by kernel_rfl
def rh2:List (Nat × Nat × Hint):=[(98,453,zGY),(57,588,zGu),(56,555,zCt),(42,520,zH4),(17,474,zHC),(103,192,zB7),(74,191,zBV),(61,157,zws),(62,158,zu3),(28,502,zrJ),(75,205,zwl),(76,183,zxB)]
theorem z8Y:zif Tryz.prog (zdC fg gls) fg rh2=true:=by kernel_rfl
def rh3:List (Nat × Nat × Hint):=[(36,182,zu2),(126,137,zMQ),(127,184,zte),(78,147,zK6),(77,146,zQm),(37,128,zKN),(13,577,zCz),(83,188,zOK),(43,151,zD0),(84,150,zNm),(44,131,zNo),(155,497,zOn)]
theorem z9f:zif Tryz.prog (zdC fg gls) fg rh3=true:=by kernel_rfl
def rh4:List (Nat × Nat × Hint):=[(154,496,zOO),(180,535,zNp),(179,534,zCC),(156,498,zCy),(104,458,zPd),(63,501,zGH),(81,583,zLi),(85,548,zVT),(45,578,zDL),(40,596,zOW),(128,617,zFE),(82,608,zzw)]
theorem z95:zif Tryz.prog (zdC fg gls) fg rh4=true:=by kernel_rfl
def rh5:List (Nat × Nat × Hint):=[(41,597,zD1),(16,579,zG6),(18,542,zEG),(31,455,zrL),(80,129,zB1),(39,488,zBS),(38,449,zH3),(86,152,zHP),(46,153,zx5),(47,132,zD9),(25,517,zNI),(48,556,zE2)]
theorem z9F:zif Tryz.prog (zdC fg gls) fg rh5=true:=by kernel_rfl
def rh6:List (Nat × Nat × Hint):=[(49,557,zzO),(50,558,zEK),(19,522,zFC),(187,562,zxK),(174,552,zJK),(147,513,zKK),(175,553,zHS),(190,565,zKM),(198,593,zJ5),(191,566,zJp),(171,527,zCe),(173,529,zwD)]
theorem z9u:zif Tryz.prog (zdC fg gls) fg rh6=true:=by kernel_rfl
def rh7:List (Nat × Nat × Hint):=[(172,528,zKy),(144,485,zFK),(149,515,zE0),(183,136,zzK),(164,521,zDT),(165,134,zFz),(148,514,zJJ),(91,467,zFP),(30,429,zHJ),(92,468,zFJ),(93,469,zEo),(52,442,zGS)]
theorem z9b:zif Tryz.prog (zdC fg gls) fg rh7=true:=by kernel_rfl
def rh8:List (Nat × Nat × Hint):=[(182,554,zM3),(132,448,zD4),(162,516,zH7),(129,470,zth),(131,472,zz8),(163,518,zKs),(130,471,zAc),(134,475,zCf),(196,117,zwA),(186,561,zK8),(199,594,zKV),(188,563,zJE)]
theorem z9O:zif Tryz.prog (zdC fg gls) fg rh8=true:=by kernel_rfl
def rh9:List (Nat × Nat × Hint):=[(189,564,zAx),(170,526,zCn),(143,484,zGF),(145,486,zB4),(133,473,zLd),(87,443,zGO),(135,476,zFG),(139,480,zHg),(166,441,zxP),(136,477,zFf),(167,523,zJM),(193,589,zCH)]
theorem z9y:zif Tryz.prog (zdC fg gls) fg rh9=true:=by kernel_rfl
def z92:List (Nat × Nat × Hint):=[(184,559,zz6),(216,618,zEg),(209,610,zKz),(200,599,zFH),(201,600,zB6),(202,601,zHi),(203,602,zCs),(204,603,zCL),(205,604,zD2),(206,605,zEx),(195,591,zG7),(210,611,zBR)]
theorem z8l:zif Tryz.prog (zdC fg gls) fg z92=true:=by kernel_rfl
def z89:List (Nat × Nat × Hint):=[(15,130,zGK),(212,613,zGw),(211,612,zEu),(228,630,zzJ),(223,625,zDJ),(234,636,zBT),(230,632,zB2),(231,633,zCi),(226,628,zLb),(229,631,zKv),(221,623,zCF),(217,619,zFL)]
theorem z7G:zif Tryz.prog (zdC fg gls) fg z89=true:=by kernel_rfl
def z87:List (Nat × Nat × Hint):=[(222,624,zE1),(218,620,zCG),(225,627,zEz),(224,626,zJz),(236,638,zDH),(233,635,zCv),(237,639,zCq),(235,637,zxa),(232,634,zB0),(227,629,zxA),(219,621,zCk),(213,614,zCj)]
theorem z77:zif Tryz.prog (zdC fg gls) fg z87=true:=by kernel_rfl
def z97:List (Nat × Nat × Hint):=[(214,615,zFM),(220,622,zBZ),(215,616,zCr),(207,606,zH8),(194,590,zKB),(185,560,zwR),(168,524,zEp),(137,478,zFB),(138,479,zzR),(142,483,zAg),(169,525,zGJ),(140,481,zLh)]
theorem z8u:zif Tryz.prog (zdC fg gls) fg z97=true:=by kernel_rfl
def z83:List (Nat × Nat × Hint):=[(141,482,zDW),(88,444,zz7),(146,487,zGP),(90,446,zzV),(89,445,zEU),(51,424,zJG),(20,422,zG0),(11,669,zHl),(4,662,zs2)]
theorem z8N:zif Tryz.prog (zdC fg gls) fg z83=true:=by kernel_rfl
noncomputable def rows:List Row:=z7u Tryz.prog (zdC fg gls) (rh0++(rh1++(rh2++(rh3++(rh4++(rh5++(rh6++(rh7++(rh8++(rh9++(z92++(z89++(z87++(z97++(z83)))))))))))))))
theorem z74:∀ r∈rows,(r.f,r.g)∈fg∧zhe Tryz.prog r.f=true∧zJg Tryz.prog (zdC fg gls) r.h r.f=some r.c:=z7p (zez z9K (zez z9g (zez z8Y (zez z9f (zez z95 (zez z9F (zez z9u (zez z9b (zez z9O (zez z9y (zez z8l (zez z7G (zez z77 (zez z8u (z8N)))))))))))))))
theorem yao:Tryz.prog.follows .mixedOrders=true:=by kernel_rfl
theorem yaB:z6M fg=true:=by kernel_rfl
theorem yaq:zlj Tryz.prog (zdC fg gls) zOE:=z8L (z8G (by kernel_rfl)) (z9D (by kernel_rfl))
theorem yaE(L d:Nat):zlj Tryz.prog (zdC fg gls) (zFm (evF (zp rows) zOE L d)):=z7P yao yaB yaq z74 L d
theorem zW0(L:Nat):FOk (zp rows) L 145 (zEY xr L) 1:=zm (D:=0) (by kernel_rfl) fun m hm=>⟨zd3,zd5 L,xl,zVt L⟩
theorem z15(L:Nat):FOk (zp rows) L 127 (zPs zR L) 2:=zm (D:=1) (by kernel_rfl) fun m hm=>⟨zb1,zb7 xr L,(zc xl (zW0 L m (by omega))),z1h L⟩
theorem zXL(L:Nat):FOk (zp rows) L 670 (zEN zbc L) 3:=zm (D:=2) (by kernel_rfl) fun m hm=>⟨zd9,zd7 zR L,(zc xl (z15 L m (by omega))),zWj L⟩
theorem zus(L:Nat):FOk (zp rows) L 194 (zmS xC L) 1:=zm (D:=0) (by kernel_rfl) fun m hm=>⟨zdl,zdn L,xl,zRq L⟩
theorem zhi(L:Nat):FOk (zp rows) L 193 (zfw zh L) 1:=zm (D:=0) (by kernel_rfl) fun m hm=>⟨zvY,zxh L,xl,zRC L⟩
theorem zj4(L:Nat):FOk (zp rows) L 159 (zgz zb L) 2:=zm (D:=1) (by kernel_rfl) fun m hm=>⟨zqS,zq3 xC zh L,(zc (zc xl (zus L m (by omega))) (zhi L m (by omega))),zMf L⟩
theorem zn1(L:Nat):FOk (zp rows) L 185 (zh3 xa L) 2:=zm (D:=1) (by kernel_rfl) fun m hm=>⟨zox,zoI xC zh L,(zc (zc xl (zus L m (by omega))) (zhi L m (by omega))),zKc L⟩
theorem znC(L:Nat):FOk (zp rows) L 160 (zh9 xp L) 2:=zm (D:=1) (by kernel_rfl) fun m hm=>⟨zow,zpk zh L,(zc xl (zhi L m (by omega))),zJO L⟩
theorem zGI(L:Nat):FOk (zp rows) L 138 (ztX xf L) 3:=zm (D:=2) (by kernel_rfl) fun m hm=>⟨zyB,zyM xp zb L,(zc (zc xl (znC L m (by omega))) (zj4 L m (by omega))),zSI L⟩
theorem zOb(L:Nat):FOk (zp rows) L 206 (zsp zam L) 2:=zm (D:=1) (by kernel_rfl) fun m hm=>⟨zqW,zpQ xC zh L,(zc (zc xl (zus L m (by omega))) (zhi L m (by omega))),zMk L⟩
theorem zu5(L:Nat):FOk (zp rows) L 187 (zj6 yc L) 3:=zm (D:=2) (by kernel_rfl) fun m hm=>⟨znL,znP xa zh L,(zc (zc xl (zn1 L m (by omega))) (zhi L m (by omega))),zIA L⟩
theorem zNs(L:Nat):FOk (zp rows) L 186 (zzi xj L) 4:=zm (D:=3) (by kernel_rfl) fun m hm=>⟨zDF,zFl zam yc L,(zc (zc xl (zOb L m (by omega))) (zu5 L m (by omega))),zXk L⟩
theorem zhg(L:Nat):FOk (zp rows) L 149 (zfn xd L) 5:=zm (D:=4) (by kernel_rfl) fun m hm=>⟨xS,yS zb xa xf xj yc L,(zc (zc (zc (zc (zc xl (zj4 L m (by omega))) (zn1 L m (by omega))) (zGI L m (by omega))) (zNs L m (by omega))) (zu5 L m (by omega))),zQQ L⟩
theorem zfy(L:Nat):FOk (zp rows) L 148 (zeN xb L) 6:=zm (D:=5) (by kernel_rfl) fun m hm=>⟨zac,zad xd L,(zc xl (zhg L m (by omega))),zVP L⟩
theorem zZv(L:Nat):FOk (zp rows) L 531 (zIc xx L) 1:=zm (D:=0) (by kernel_rfl) fun m hm=>⟨zbS,zbR L,xl,zWX L⟩
theorem zRl(L:Nat):FOk (zp rows) L 532 (zvX yo L) 1:=zm (D:=0) (by kernel_rfl) fun m hm=>⟨zt5,zt8 L,xl,zPg L⟩
theorem zom(L:Nat):FOk (zp rows) L 572 (zfW yB L) 1:=zm (D:=0) (by kernel_rfl) fun m hm=>⟨zi6,ziZ L,xl,zAt L⟩
theorem zJr(L:Nat):FOk (zp rows) L 571 (zxg yi L) 2:=zm (D:=1) (by kernel_rfl) fun m hm=>⟨zAW,zBD yB L,(zc xl (zom L m (by omega))),zUu L⟩
theorem zOR(L:Nat):FOk (zp rows) L 569 (zuy zA L) 3:=zm (D:=2) (by kernel_rfl) fun m hm=>⟨zaD,zaC yi L,(zc xl (zJr L m (by omega))),zOc L⟩
theorem zNR(L:Nat):FOk (zp rows) L 570 (zrW yy L) 1:=zm (D:=0) (by kernel_rfl) fun m hm=>⟨zqg,zpZ L,xl,zLO L⟩
theorem zOU(L:Nat):FOk (zp rows) L 533 (zuA xm L) 4:=zm (D:=3) (by kernel_rfl) fun m hm=>⟨zcp,zcn zA yy yi L,(zc (zc (zc xl (zOR L m (by omega))) (zNR L m (by omega))) (zJr L m (by omega))),zNY L⟩
theorem zBO(L:Nat):FOk (zp rows) L 494 (ztl zY L) 5:=zm (D:=4) (by kernel_rfl) fun m hm=>⟨zbM,zbN xx yo xm L,(zc (zc (zc xl (zZv L m (by omega))) (zRl L m (by omega))) (zOU L m (by omega))),zXQ L⟩
theorem zkX(L:Nat):FOk (zp rows) L 494 (zjd zum L) 5:=zEt (zBO L) (zWR L)
theorem zuK(L:Nat):FOk (zp rows) L 454 (zmn yQ L) 6:=zm (D:=5) (by kernel_rfl) fun m hm=>⟨zwu,zw5 zY L,(zc xl (zBO L m (by omega))),zQN L⟩
theorem zmb(L:Nat):FOk (zp rows) L 454 (zjd zDR L) 6:=zEt (zuK L) (zQY L)
theorem zWK(L:Nat):FOk (zp rows) L 519 (zFA yK L) 7:=zm (D:=6) (by kernel_rfl) fun m hm=>⟨zBJ,zAS xb xd yQ L,(zc (zc (zc xl (zfy L m (by omega))) (zhg L m (by omega))) (zuK L m (by omega))),zWb L⟩
theorem zhk(L:Nat):FOk (zp rows) L 453 (zgm zao L) 2:=zm (D:=1) (by kernel_rfl) fun m hm=>⟨zfc,ze8 zh L,(zc xl (zhi L m (by omega))),zWe L⟩
theorem zWC(L:Nat):FOk (zp rows) L 588 (zFe yv L) 6:=zm (D:=5) (by kernel_rfl) fun m hm=>⟨zAY,zAQ zao zY L,(zc (zc xl (zhk L m (by omega))) (zBO L m (by omega))),zWi L⟩
theorem zTl(L:Nat):FOk (zp rows) L 555 (zyE za0 L) 7:=zm (D:=6) (by kernel_rfl) fun m hm=>⟨zaW,zaX yv L,(zc xl (zWC L m (by omega))),zQS L⟩
theorem zXf(L:Nat):FOk (zp rows) L 520 (zEq xK L) 8:=zm (D:=7) (by kernel_rfl) fun m hm=>⟨zBE,zBz za0 L,(zc xl (zTl L m (by omega))),zUd L⟩
theorem zLg(L:Nat):FOk (zp rows) L 474 (zwy xh L) 9:=zm (D:=8) (by kernel_rfl) fun m hm=>⟨zfd,zfa yK xK L,(zc (zc xl (zWK L m (by omega))) (zXf L m (by omega))),zVF L⟩
theorem zuL(L:Nat):FOk (zp rows) L 192 (zm0 zH L) 1:=zm (D:=0) (by kernel_rfl) fun m hm=>⟨zdr,zdu L,xl,zRA L⟩
theorem zhc(L:Nat):FOk (zp rows) L 191 (zfu zo L) 1:=zm (D:=0) (by kernel_rfl) fun m hm=>⟨zxn,zwz L,xl,zRg L⟩
theorem zj9(L:Nat):FOk (zp rows) L 157 (zgB yb L) 2:=zm (D:=1) (by kernel_rfl) fun m hm=>⟨zqf,zqP zH zo L,(zc (zc xl (zuL L m (by omega))) (zhc L m (by omega))),zLB L⟩
theorem zwS(L:Nat):FOk (zp rows) L 158 (zkF xI L) 2:=zm (D:=1) (by kernel_rfl) fun m hm=>⟨zoy,zoY zo L,(zc xl (zhc L m (by omega))),zKp L⟩
theorem ztd(L:Nat):FOk (zp rows) L 502 (zi3 yq L) 3:=zm (D:=2) (by kernel_rfl) fun m hm=>⟨zmk,zmp yb xI L,(zc (zc xl (zj9 L m (by omega))) (zwS L m (by omega))),zF9 L⟩
theorem zOe(L:Nat):FOk (zp rows) L 205 (zsP zal L) 2:=zm (D:=1) (by kernel_rfl) fun m hm=>⟨zqk,zqE zH zo L,(zc (zc xl (zuL L m (by omega))) (zhc L m (by omega))),zMC L⟩
theorem zx3(L:Nat):FOk (zp rows) L 183 (zl0 yd L) 2:=zm (D:=1) (by kernel_rfl) fun m hm=>⟨zq4,zp1 zH zo L,(zc (zc xl (zuL L m (by omega))) (zhc L m (by omega))),zMG L⟩
theorem znm(L:Nat):FOk (zp rows) L 182 (zhP ya L) 3:=zm (D:=2) (by kernel_rfl) fun m hm=>⟨zoF,zpg zo zal yb yd L,(zc (zc (zc (zc xl (zhc L m (by omega))) (zOe L m (by omega))) (zj9 L m (by omega))) (zx3 L m (by omega))),zJ7 L⟩
theorem z0q(L:Nat):FOk (zp rows) L 137 (zLH yl L) 3:=zm (D:=2) (by kernel_rfl) fun m hm=>⟨zIv,zI7 xI yb L,(zc (zc xl (zwS L m (by omega))) (zj9 L m (by omega))),zYV L⟩
theorem zLj(L:Nat):FOk (zp rows) L 184 (zpe zd L) 4:=zm (D:=3) (by kernel_rfl) fun m hm=>⟨zn7,znU ya zo L,(zc (zc xl (znm L m (by omega))) (zhc L m (by omega))),zIX L⟩
theorem zMZ(L:Nat):FOk (zp rows) L 147 (zzd zk L) 5:=zm (D:=4) (by kernel_rfl) fun m hm=>⟨z9,y8 yb ya yl yd zd L,(zc (zc (zc (zc (zc xl (zj9 L m (by omega))) (znm L m (by omega))) (z0q L m (by omega))) (zx3 L m (by omega))) (zLj L m (by omega))),zXh L⟩
theorem zSm(L:Nat):FOk (zp rows) L 146 (zGv zJ L) 6:=zm (D:=5) (by kernel_rfl) fun m hm=>⟨zaP,zaO zk L,(zc xl (zMZ L m (by omega))),z0F L⟩
theorem zBL(L:Nat):FOk (zp rows) L 128 (zsV xD L) 7:=zm (D:=6) (by kernel_rfl) fun m hm=>⟨zDQ,zE3 zJ zk L,(zc (zc xl (zSm L m (by omega))) (zMZ L m (by omega))),zXs L⟩
theorem zE8(L:Nat):FOk (zp rows) L 577 (zro zn L) 8:=zm (D:=7) (by kernel_rfl) fun m hm=>⟨zcD,zcC yq ya xD L,(zc (zc (zc xl (ztd L m (by omega))) (znm L m (by omega))) (zBL L m (by omega))),zRw L⟩
theorem z2a(L:Nat):FOk (zp rows) L 188 (zPj zcI L) 1:=zm (D:=0) (by kernel_rfl) fun m hm=>⟨zLG,zLU L,xl,z0I L⟩
theorem zwe(L:Nat):FOk (zp rows) L 151 (zoi zf L) 2:=zm (D:=1) (by kernel_rfl) fun m hm=>⟨zyY,zym zcI L,(zc xl (z2a L m (by omega))),zSR L⟩
theorem z05(L:Nat):FOk (zp rows) L 150 (zLS zM L) 1:=zm (D:=0) (by kernel_rfl) fun m hm=>⟨zfS,zfR L,xl,zZg L⟩
theorem zPn(L:Nat):FOk (zp rows) L 131 (zDl zx L) 7:=zm (D:=6) (by kernel_rfl) fun m hm=>⟨zfT,zfQ zJ zM zf L,(zc (zc (zc xl (zSm L m (by omega))) (z05 L m (by omega))) (zwe L m (by omega))),zY8 L⟩
theorem z1Z(L:Nat):FOk (zp rows) L 497 (zPh zG L) 1:=zm (D:=0) (by kernel_rfl) fun m hm=>⟨zfb,ze9 L,xl,z1f L⟩
theorem z1U(L:Nat):FOk (zp rows) L 496 (zP8 xE L) 1:=zm (D:=0) (by kernel_rfl) fun m hm=>⟨zje,zjf L,xl,z0b L⟩
theorem zOf(L:Nat):FOk (zp rows) L 535 (zDh yg L) 2:=zm (D:=1) (by kernel_rfl) fun m hm=>⟨zJh,zIB yB L,(zc xl (zom L m (by omega))),zZD L⟩
theorem zTK(L:Nat):FOk (zp rows) L 534 (zx6 xG L) 3:=zm (D:=2) (by kernel_rfl) fun m hm=>⟨zaa,y9 yg L,(zc xl (zOf L m (by omega))),zRh L⟩
theorem zSC(L:Nat):FOk (zp rows) L 498 (zx8 xq L) 4:=zm (D:=3) (by kernel_rfl) fun m hm=>⟨zds,zdp xG yg L,(zc (zc xl (zTK L m (by omega))) (zOf L m (by omega))),zRy L⟩
theorem zIS(L:Nat):FOk (zp rows) L 458 (zzM zaq L) 5:=zm (D:=4) (by kernel_rfl) fun m hm=>⟨zcL,zcP zG xE xq L,(zc (zc (zc xl (z1Z L m (by omega))) (z1U L m (by omega))) (zSC L m (by omega))),z1J L⟩
theorem zTJ(L:Nat):FOk (zp rows) L 458 (zjd zum L) 5:=zEt (zIS L) (z1w L)
theorem zKO(L:Nat):FOk (zp rows) L 501 (zxc zaU L) 6:=zm (D:=5) (by kernel_rfl) fun m hm=>⟨zBh,zBg zaq L,(zc xl (zIS L m (by omega))),zT2 L⟩
theorem zNV(L:Nat):FOk (zp rows) L 501 (zjd zDR L) 6:=zEt (zKO L) (zUV L)
theorem zMV(L:Nat):FOk (zp rows) L 583 (zzp zag L) 8:=zm (D:=7) (by kernel_rfl) fun m hm=>⟨zEv,zE6 xD zaU L,(zc (zc xl (zBL L m (by omega))) (zKO L m (by omega))),zWA L⟩
theorem z5M(L:Nat):FOk (zp rows) L 548 (zXv xk L) 9:=zm (D:=8) (by kernel_rfl) fun m hm=>⟨zTO,zTf zag L,(zc xl (zMV L m (by omega))),z4i L⟩
theorem zTQ(L:Nat):FOk (zp rows) L 578 (zBr yp L) 10:=zm (D:=9) (by kernel_rfl) fun m hm=>⟨xJ,yJ xk L,(zc xl (z5M L m (by omega))),zTc L⟩
theorem z1R(L:Nat):FOk (zp rows) L 596 (zP1 yV L) 9:=zm (D:=8) (by kernel_rfl) fun m hm=>⟨zLR,zMM zag L,(zc xl (zMV L m (by omega))),zZX L⟩
theorem zVJ(L:Nat):FOk (zp rows) L 617 (zBv yt L) 6:=zm (D:=5) (by kernel_rfl) fun m hm=>⟨zy3,zyK zaq L,(zc xl (zIS L m (by omega))),zTb L⟩
theorem zRz(L:Nat):FOk (zp rows) L 608 (zvC zaK L) 7:=zm (D:=6) (by kernel_rfl) fun m hm=>⟨zaJ,zaI yt L,(zc xl (zVJ L m (by omega))),zQh L⟩
theorem zVY(L:Nat):FOk (zp rows) L 597 (zAZ zI L) 8:=zm (D:=7) (by kernel_rfl) fun m hm=>⟨zy7,zy2 zaK L,(zc xl (zRz L m (by omega))),zTs L⟩
theorem zWF(L:Nat):FOk (zp rows) L 579 (zFQ yr L) 10:=zm (D:=9) (by kernel_rfl) fun m hm=>⟨ze7,zff yV zI L,(zc (zc xl (z1R L m (by omega))) (zVY L m (by omega))),zUW L⟩
theorem zVq(L:Nat):FOk (zp rows) L 542 (zA3 zaQ L) 11:=zm (D:=10) (by kernel_rfl) fun m hm=>⟨zaL,zaM zn zf zx yp yr L,(zc (zc (zc (zc (zc xl (zE8 L m (by omega))) (zwe L m (by omega))) (zPn L m (by omega))) (zTQ L m (by omega))) (zWF L m (by omega))),zS6 L⟩
theorem zts(L:Nat):FOk (zp rows) L 455 (zi1 xu L) 3:=zm (D:=2) (by kernel_rfl) fun m hm=>⟨zbp,zbm zb xp L,(zc (zc xl (zj4 L m (by omega))) (znC L m (by omega))),zF4 L⟩
theorem zS8(L:Nat):FOk (zp rows) L 129 (zyN yH L) 7:=zm (D:=6) (by kernel_rfl) fun m hm=>⟨zwp,zxd xb xd L,(zc (zc xl (zfy L m (by omega))) (zhg L m (by omega))),zQX L⟩
theorem zSL(L:Nat):FOk (zp rows) L 488 (zyi zD L) 8:=zm (D:=7) (by kernel_rfl) fun m hm=>⟨zdt,zdv xu xa yH L,(zc (zc (zc xl (zts L m (by omega))) (zn1 L m (by omega))) (zS8 L m (by omega))),zQU L⟩
theorem zLf(L:Nat):FOk (zp rows) L 449 (zxo zj L) 9:=zm (D:=8) (by kernel_rfl) fun m hm=>⟨zd6,zd4 xb zD L,(zc (zc xl (zfy L m (by omega))) (zSL L m (by omega))),zTR L⟩
theorem zK4(L:Nat):FOk (zp rows) L 152 (zvW ye L) 1:=zm (D:=0) (by kernel_rfl) fun m hm=>⟨zAN,zBH L,xl,zVa L⟩
theorem zh8(L:Nat):FOk (zp rows) L 153 (zfh za L) 2:=zm (D:=1) (by kernel_rfl) fun m hm=>⟨zrS,zsr ye L,(zc xl (zK4 L m (by omega))),zNS L⟩
theorem zv5(L:Nat):FOk (zp rows) L 132 (zoc yh L) 7:=zm (D:=6) (by kernel_rfl) fun m hm=>⟨xP,yP xb ye za L,(zc (zc (zc xl (zfy L m (by omega))) (zK4 L m (by omega))) (zh8 L m (by omega))),zTj L⟩
theorem z0f(L:Nat):FOk (zp rows) L 517 (zLt yn L) 7:=zm (D:=6) (by kernel_rfl) fun m hm=>⟨zIa,zJa xb xd yQ L,(zc (zc (zc xl (zfy L m (by omega))) (zhg L m (by omega))) (zuK L m (by omega))),zZj L⟩
theorem zvM(L:Nat):FOk (zp rows) L 556 (zon xc L) 1:=zm (D:=0) (by kernel_rfl) fun m hm=>⟨zc9,zdb L,xl,zTp L⟩
theorem zCg(L:Nat):FOk (zp rows) L 557 (zps xe L) 2:=zm (D:=1) (by kernel_rfl) fun m hm=>⟨zaw,zax xc L,(zc xl (zvM L m (by omega))),zPv L⟩
theorem zHU(L:Nat):FOk (zp rows) L 558 (ztF zi L) 1:=zm (D:=0) (by kernel_rfl) fun m hm=>⟨zW,xW L,xl,zTr L⟩
theorem zV5(L:Nat):FOk (zp rows) L 522 (zBn zaR L) 10:=zm (D:=9) (by kernel_rfl) fun m hm=>⟨y5,y6 zj za yh yn xc xe zi xh L,(zc (zc (zc (zc (zc (zc (zc (zc xl (zLf L m (by omega))) (zh8 L m (by omega))) (zv5 L m (by omega))) (z0f L m (by omega))) (zvM L m (by omega))) (zCg L m (by omega))) (zHU L m (by omega))) (zLg L m (by omega))),zS2 L⟩
theorem zdP(L:Nat):FOk (zp rows) L 562 (zcQ y4 L) 1:=zm (D:=0) (by kernel_rfl) fun m hm=>⟨zsa,zsN L,xl,zNW L⟩
theorem ztS(L:Nat):FOk (zp rows) L 552 (zov xt L) 1:=zm (D:=0) (by kernel_rfl) fun m hm=>⟨zEW,zDN L,xl,zWW L⟩
theorem ztH(L:Nat):FOk (zp rows) L 513 (zop zbq L) 2:=zm (D:=1) (by kernel_rfl) fun m hm=>⟨zgr,zfY xt L,(zc xl (ztS L m (by omega))),zXu L⟩
theorem zfq(L:Nat):FOk (zp rows) L 553 (zdX xL L) 1:=zm (D:=0) (by kernel_rfl) fun m hm=>⟨zAI,zBm L,xl,zVW L⟩
theorem zAR(L:Nat):FOk (zp rows) L 565 (zs7 zbI L) 2:=zm (D:=1) (by kernel_rfl) fun m hm=>⟨zeU,zeQ xt L,(zc xl (ztS L m (by omega))),zXE L⟩
theorem zBw(L:Nat):FOk (zp rows) L 593 (zs1 yO L) 1:=zm (D:=0) (by kernel_rfl) fun m hm=>⟨zgu,zf4 L,xl,zXT L⟩
theorem zNn(L:Nat):FOk (zp rows) L 566 (zzo zbF L) 2:=zm (D:=1) (by kernel_rfl) fun m hm=>⟨zgv,zf7 yO L,(zc xl (zBw L m (by omega))),zWL L⟩
theorem zSt(L:Nat):FOk (zp rows) L 527 (zmz yU L) 3:=zm (D:=2) (by kernel_rfl) fun m hm=>⟨zwQ,zwg y4 zbq xL zbI zbF L,(zc (zc (zc (zc (zc xl (zdP L m (by omega))) (ztH L m (by omega))) (zfq L m (by omega))) (zAR L m (by omega))) (zNn L m (by omega))),zQ6 L⟩
theorem zmf(L:Nat):FOk (zp rows) L 527 (zVA L) 3:=zEt (zSt L) (zRj L)
theorem zj2(L:Nat):FOk (zp rows) L 529 (zeq zaZ L) 1:=zm (D:=0) (by kernel_rfl) fun m hm=>⟨zb4,zb5 L,xl,zL1 L⟩
theorem zgE(L:Nat):FOk (zp rows) L 528 (zea yY L) 1:=zm (D:=0) (by kernel_rfl) fun m hm=>⟨zeP,ze3 L,xl,zW3 L⟩
theorem zCm(L:Nat):FOk (zp rows) L 136 (zpz zC L) 1:=zm (D:=0) (by kernel_rfl) fun m hm=>⟨zcc,zb8 L,xl,zO2 L⟩
theorem zUg(L:Nat):FOk (zp rows) L 521 (zA4 zok L) 2:=zm (D:=1) (by kernel_rfl) fun m hm=>⟨zcZ,zc2 zC L,(zc xl (zCm L m (by omega))),zSs L⟩
theorem zH2(L:Nat):FOk (zp rows) L 134 (ztY zkz L) 1:=zm (D:=0) (by kernel_rfl) fun m hm=>⟨zc4,zc0 L,xl,zSQ L⟩
theorem zZC(L:Nat):FOk (zp rows) L 514 (zSk L) 1:=zm (D:=0) (by kernel_rfl) fun m hm=>⟨zl [],zOu L,xl,fun _ _ _ _ _ h=>h⟩
theorem zTV(L:Nat):FOk (zp rows) L 467 (zNk L) 3:=zm (D:=2) (by kernel_rfl) fun m hm=>⟨zl [],zJ3 L,(zc (zc xl (zZC L m (by omega))) (ztH L m (by omega))),fun _ _ _ _ _ h=>h⟩
theorem zep(L:Nat):FOk (zp rows) L 515 (zeC L) 4:=zm (D:=3) (by kernel_rfl) fun m hm=>⟨zl [],zEV L,(zc (zc (zc xl (zfq L m (by omega))) (zmf L m (by omega))) (zgE L m (by omega))),fun _ _ _ _ _ h=>h⟩
theorem zmO(L:Nat):FOk (zp rows) L 429 (zmJ L) 7:=zm (D:=6) (by kernel_rfl) fun m hm=>⟨zl [],zNC L,(zc (zc xl (zts L m (by omega))) (zmb L m (by omega))),fun _ _ _ _ _ h=>h⟩
theorem zUO(L:Nat):FOk (zp rows) L 468 (zNJ L) 8:=zm (D:=7) (by kernel_rfl) fun m hm=>⟨zl [],zKR L,(zc (zc xl (zep L m (by omega))) (zmO L m (by omega))),fun _ _ _ _ _ h=>h⟩
theorem zU8(L:Nat):FOk (zp rows) L 469 (zNM L) 8:=zm (D:=7) (by kernel_rfl) fun m hm=>⟨zl [],zJN L,(zc (zc xl (zep L m (by omega))) (zmO L m (by omega))),fun _ _ _ _ _ h=>h⟩
theorem zXn(L:Nat):FOk (zp rows) L 442 (zPH L) 9:=zm (D:=8) (by kernel_rfl) fun m hm=>⟨zl [],zMP L,(zc (zc (zc xl (zTV L m (by omega))) (zUO L m (by omega))) (zU8 L m (by omega))),fun _ _ _ _ _ h=>h⟩
theorem zZW(L:Nat):FOk (zp rows) L 554 (zUw L) 1:=zm (D:=0) (by kernel_rfl) fun m hm=>⟨zl [],zRY L,xl,fun _ _ _ _ _ h=>h⟩
theorem zHM(L:Nat):FOk (zp rows) L 448 (zBK L) 1:=zm (D:=0) (by kernel_rfl) fun m hm=>⟨zl [],zJ0 L,xl,fun _ _ _ _ _ h=>h⟩
theorem zXw(L:Nat):FOk (zp rows) L 516 (zOG L) 2:=zm (D:=1) (by kernel_rfl) fun m hm=>⟨zl [],zNx L,(zc (zc xl (zZW L m (by omega))) (zHM L m (by omega))),fun _ _ _ _ _ h=>h⟩
theorem zyR(L:Nat):FOk (zp rows) L 517 (zw2 L) 7:=zm (D:=6) (by kernel_rfl) fun m hm=>⟨zl [],zM5 L,(zc (zc (zc xl (zfy L m (by omega))) (zhg L m (by omega))) (zmb L m (by omega))),fun _ _ _ _ _ h=>h⟩
theorem zK7(L:Nat):FOk (zp rows) L 470 (zxZ L) 8:=zm (D:=7) (by kernel_rfl) fun m hm=>⟨zl [],zvD L,(zc (zc xl (zXw L m (by omega))) (zyR L m (by omega))),fun _ _ _ _ _ h=>h⟩
theorem zCN(L:Nat):FOk (zp rows) L 472 (zvQ L) 5:=zm (D:=4) (by kernel_rfl) fun m hm=>⟨zl [],zER L,(zc xl (zep L m (by omega))),fun _ _ _ _ _ h=>h⟩
theorem zY7(L:Nat):FOk (zp rows) L 518 (zR6 L) 1:=zm (D:=0) (by kernel_rfl) fun m hm=>⟨zl [],zOZ L,xl,fun _ _ _ _ _ h=>h⟩
theorem zRb(L:Nat):FOk (zp rows) L 471 (zHL L) 2:=zm (D:=1) (by kernel_rfl) fun m hm=>⟨zl [],zEF L,(zc xl (zY7 L m (by omega))),fun _ _ _ _ _ h=>h⟩
theorem zTa(L:Nat):FOk (zp rows) L 519 (zLq L) 7:=zm (D:=6) (by kernel_rfl) fun m hm=>⟨zl [],zHc L,(zc (zc (zc xl (zfy L m (by omega))) (zhg L m (by omega))) (zmb L m (by omega))),fun _ _ _ _ _ h=>h⟩
theorem zSz(L:Nat):FOk (zp rows) L 588 (zKH L) 6:=zm (D:=5) (by kernel_rfl) fun m hm=>⟨zl [],zG8 L,(zc (zc xl (zhk L m (by omega))) (zkX L m (by omega))),fun _ _ _ _ _ h=>h⟩
theorem zPT(L:Nat):FOk (zp rows) L 555 (zE4 L) 7:=zm (D:=6) (by kernel_rfl) fun m hm=>⟨zl [],zCl L,(zc xl (zSz L m (by omega))),fun _ _ _ _ _ h=>h⟩
theorem zTB(L:Nat):FOk (zp rows) L 520 (zKX L) 8:=zm (D:=7) (by kernel_rfl) fun m hm=>⟨zl [],zHq L,(zc xl (zPT L m (by omega))),fun _ _ _ _ _ h=>h⟩
theorem zDS(L:Nat):FOk (zp rows) L 474 (zx7 L) 9:=zm (D:=8) (by kernel_rfl) fun m hm=>⟨zl [],zH5 L,(zc (zc xl (zTa L m (by omega))) (zTB L m (by omega))),fun _ _ _ _ _ h=>h⟩
theorem zTG(L:Nat):FOk (zp rows) L 475 (zKP L) 1:=zm (D:=0) (by kernel_rfl) fun m hm=>⟨zl [],zHm L,xl,fun _ _ _ _ _ h=>h⟩
theorem zN0(L:Nat):FOk (zp rows) L 117 (zBW L) 1:=zm (D:=0) (by kernel_rfl) fun m hm=>⟨zl [],zzB L,xl,fun _ _ _ _ _ h=>h⟩
theorem zNq(L:Nat):FOk (zp rows) L 561 (zIU L) 2:=zm (D:=1) (by kernel_rfl) fun m hm=>⟨zl [],zPZ L,(zc xl (zN0 L m (by omega))),fun _ _ _ _ _ h=>h⟩
theorem ztR(L:Nat):FOk (zp rows) L 594 (ztk L) 1:=zm (D:=0) (by kernel_rfl) fun m hm=>⟨zl [],zO5 L,xl,fun _ _ _ _ _ h=>h⟩
theorem zA6(L:Nat):FOk (zp rows) L 563 (zzc L) 2:=zm (D:=1) (by kernel_rfl) fun m hm=>⟨zl [],zP6 L,(zc (zc (zc (zc xl (zgE L m (by omega))) (ztS L m (by omega))) (zBw L m (by omega))) (ztR L m (by omega))),fun _ _ _ _ _ h=>h⟩
theorem zRc(L:Nat):FOk (zp rows) L 564 (zGm L) 3:=zm (D:=2) (by kernel_rfl) fun m hm=>⟨zl [],zDU L,(zc (zc (zc (zc (zc xl (zfq L m (by omega))) (zNn L m (by omega))) (ztH L m (by omega))) (zgE L m (by omega))) (zAR L m (by omega))),fun _ _ _ _ _ h=>h⟩
theorem zTn(L:Nat):FOk (zp rows) L 526 (zKT L) 5:=zm (D:=4) (by kernel_rfl) fun m hm=>⟨zl [],zGz L,(zc (zc (zc (zc (zc (zc (zc (zc xl (zep L m (by omega))) (zmf L m (by omega))) (zdP L m (by omega))) (zNq L m (by omega))) (zA6 L m (by omega))) (zgE L m (by omega))) (zfq L m (by omega))) (zRc L m (by omega))),fun _ _ _ _ _ h=>h⟩
theorem zJZ(L:Nat):FOk (zp rows) L 484 (zFn L) 6:=zm (D:=5) (by kernel_rfl) fun m hm=>⟨zl [],zMU L,(zc (zc xl (zep L m (by omega))) (zTn L m (by omega))),fun _ _ _ _ _ h=>h⟩
theorem zEP(L:Nat):FOk (zp rows) L 486 (zyD L) 1:=zm (D:=0) (by kernel_rfl) fun m hm=>⟨zl [],zHD L,xl,fun _ _ _ _ _ h=>h⟩
theorem zBP(L:Nat):FOk (zp rows) L 485 (zvt L) 4:=zm (D:=3) (by kernel_rfl) fun m hm=>⟨zl [],zDE L,(zc (zc (zc xl (zmf L m (by omega))) (zj2 L m (by omega))) (zgE L m (by omega))),fun _ _ _ _ _ h=>h⟩
theorem zZs(L:Nat):FOk (zp rows) L 473 (zSc L) 8:=zm (D:=7) (by kernel_rfl) fun m hm=>⟨zl [],zP9 L,(zc (zc (zc (zc xl (zJZ L m (by omega))) (zEP L m (by omega))) (zmO L m (by omega))) (zBP L m (by omega))),fun _ _ _ _ _ h=>h⟩
theorem zXJ(L:Nat):FOk (zp rows) L 443 (zQc L) 10:=zm (D:=9) (by kernel_rfl) fun m hm=>⟨zl [],zNw L,(zc (zc (zc (zc (zc (zc (zc xl (zK7 L m (by omega))) (zCN L m (by omega))) (zHM L m (by omega))) (zRb L m (by omega))) (zDS L m (by omega))) (zTG L m (by omega))) (zZs L m (by omega))),fun _ _ _ _ _ h=>h⟩
theorem zQO(L:Nat):FOk (zp rows) L 522 (zHK L) 10:=zm (D:=9) (by kernel_rfl) fun m hm=>⟨zl [],zEk L,(zc (zc (zc (zc (zc (zc (zc (zc xl (zLf L m (by omega))) (zh8 L m (by omega))) (zv5 L m (by omega))) (zyR L m (by omega))) (zvM L m (by omega))) (zCg L m (by omega))) (zHU L m (by omega))) (zDS L m (by omega))),fun _ _ _ _ _ h=>h⟩
theorem zVr(L:Nat):FOk (zp rows) L 476 (zNc L) 11:=zm (D:=10) (by kernel_rfl) fun m hm=>⟨zl [],zJW L,(zc (zc (zc (zc xl (zep L m (by omega))) (zUg L m (by omega))) (zQO L m (by omega))) (zH2 L m (by omega))),fun _ _ _ _ _ h=>h⟩
theorem zyg(L:Nat):FOk (zp rows) L 480 (zvp L) 1:=zm (D:=0) (by kernel_rfl) fun m hm=>⟨zl [],zNB L,xl,fun _ _ _ _ _ h=>h⟩
theorem zAn(L:Nat):FOk (zp rows) L 441 (zuD L) 3:=zm (D:=2) (by kernel_rfl) fun m hm=>⟨zl [],zCM L,(zc xl (zhk L m (by omega))),fun _ _ _ _ _ h=>h⟩
theorem zUj(L:Nat):FOk (zp rows) L 477 (zNA L) 4:=zm (D:=3) (by kernel_rfl) fun m hm=>⟨zl [],zKm L,(zc (zc xl (zyg L m (by omega))) (zAn L m (by omega))),fun _ _ _ _ _ h=>h⟩
theorem zZu(L:Nat):FOk (zp rows) L 523 (zSl L) 8:=zm (D:=7) (by kernel_rfl) fun m hm=>⟨zl [],zOS L,(zc xl (zv5 L m (by omega))),fun _ _ _ _ _ h=>h⟩
theorem zFd(L:Nat):FOk (zp rows) L 589 (zyV L) 6:=zm (D:=5) (by kernel_rfl) fun m hm=>⟨zl [],zHy L,(zc xl (zkX L m (by omega))),fun _ _ _ _ _ h=>h⟩
theorem zQ0(L:Nat):FOk (zp rows) L 559 (zHx L) 7:=zm (D:=6) (by kernel_rfl) fun m hm=>⟨zl [],zD7 L,(zc (zc (zc (zc (zc (zc (zc xl (zfy L m (by omega))) (zGI L m (by omega))) (zj4 L m (by omega))) (zNs L m (by omega))) (zkX L m (by omega))) (znC L m (by omega))) (zFd L m (by omega))),fun _ _ _ _ _ h=>h⟩
theorem zUk(L:Nat):FOk (zp rows) L 618 (zNv L) 1:=zm (D:=0) (by kernel_rfl) fun m hm=>⟨zl [],zLn L,xl,fun _ _ _ _ _ h=>h⟩
theorem zYX(L:Nat):FOk (zp rows) L 610 (zR8 L) 3:=zm (D:=2) (by kernel_rfl) fun m hm=>⟨zl [],zPx L,(zc (zc xl (zhk L m (by omega))) (zUk L m (by omega))),fun _ _ _ _ _ h=>h⟩
theorem zV3(L:Nat):FOk (zp rows) L 599 (zNe L) 4:=zm (D:=3) (by kernel_rfl) fun m hm=>⟨zl [],zJX L,(zc xl (zYX L m (by omega))),fun _ _ _ _ _ h=>h⟩
theorem zTw(L:Nat):FOk (zp rows) L 600 (zJY L) 1:=zm (D:=0) (by kernel_rfl) fun m hm=>⟨zl [],zG9 L,xl,fun _ _ _ _ _ h=>h⟩
theorem zWu(L:Nat):FOk (zp rows) L 601 (zPN L) 1:=zm (D:=0) (by kernel_rfl) fun m hm=>⟨zl [],zNN L,xl,fun _ _ _ _ _ h=>h⟩
theorem zSp(L:Nat):FOk (zp rows) L 602 (zJv L) 3:=zm (D:=2) (by kernel_rfl) fun m hm=>⟨zl [],zHF L,(zc xl (zhk L m (by omega))),fun _ _ _ _ _ h=>h⟩
theorem zST(L:Nat):FOk (zp rows) L 603 (zLa L) 1:=zm (D:=0) (by kernel_rfl) fun m hm=>⟨zl [],zHa L,xl,fun _ _ _ _ _ h=>h⟩
theorem zVc(L:Nat):FOk (zp rows) L 604 (zNy L) 1:=zm (D:=0) (by kernel_rfl) fun m hm=>⟨zl [],zKb L,xl,fun _ _ _ _ _ h=>h⟩
theorem zVO(L:Nat):FOk (zp rows) L 605 (zNu L) 1:=zm (D:=0) (by kernel_rfl) fun m hm=>⟨zl [],zKL L,xl,fun _ _ _ _ _ h=>h⟩
theorem zyS(L:Nat):FOk (zp rows) L 591 (zv8 L) 1:=zm (D:=0) (by kernel_rfl) fun m hm=>⟨zl [],zMR L,xl,fun _ _ _ _ _ h=>h⟩
theorem zSB(L:Nat):FOk (zp rows) L 611 (zKZ L) 1:=zm (D:=0) (by kernel_rfl) fun m hm=>⟨zl [],zGW L,xl,fun _ _ _ _ _ h=>h⟩
theorem zWM(L:Nat):FOk (zp rows) L 130 (zPX L) 1:=zm (D:=0) (by kernel_rfl) fun m hm=>⟨zl [],zNd L,xl,fun _ _ _ _ _ h=>h⟩
theorem zKt(L:Nat):FOk (zp rows) L 613 (zFw L) 1:=zm (D:=0) (by kernel_rfl) fun m hm=>⟨zl [],zNP L,xl,fun _ _ _ _ _ h=>h⟩
theorem zWh(L:Nat):FOk (zp rows) L 612 (zNK L) 2:=zm (D:=1) (by kernel_rfl) fun m hm=>⟨zl [],zJt L,(zc xl (zKt L m (by omega))),fun _ _ _ _ _ h=>h⟩
theorem zlU(L:Nat):FOk (zp rows) L 630 (zle L) 2:=zm (D:=1) (by kernel_rfl) fun m hm=>⟨zl [],zFu L,(zc (zc xl (zdP L m (by omega))) (ztR L m (by omega))),fun _ _ _ _ _ h=>h⟩
theorem zpJ(L:Nat):FOk (zp rows) L 625 (zol L) 3:=zm (D:=2) (by kernel_rfl) fun m hm=>⟨zl [],zLc L,(zc (zc xl (zlU L m (by omega))) (ztH L m (by omega))),fun _ _ _ _ _ h=>h⟩
theorem zud(L:Nat):FOk (zp rows) L 636 (zrp L) 3:=zm (D:=2) (by kernel_rfl) fun m hm=>⟨zl [],zHk L,(zc xl (zA6 L m (by omega))),fun _ _ _ _ _ h=>h⟩
theorem zEC(L:Nat):FOk (zp rows) L 632 (zzb L) 4:=zm (D:=3) (by kernel_rfl) fun m hm=>⟨zl [],zH0 L,(zc (zc (zc (zc xl (zfq L m (by omega))) (zud L m (by omega))) (zNq L m (by omega))) (zA6 L m (by omega))),fun _ _ _ _ _ h=>h⟩
theorem zSK(L:Nat):FOk (zp rows) L 633 (zKQ L) 5:=zm (D:=4) (by kernel_rfl) fun m hm=>⟨zl [],zGA L,(zc (zc (zc (zc (zc (zc xl (zfq L m (by omega))) (zdP L m (by omega))) (zud L m (by omega))) (zAR L m (by omega))) (zEC L m (by omega))) (ztS L m (by omega))),fun _ _ _ _ _ h=>h⟩
theorem zA5(L:Nat):FOk (zp rows) L 628 (zzm L) 6:=zm (D:=5) (by kernel_rfl) fun m hm=>⟨zl [],zPL L,(zc (zc xl (zlU L m (by omega))) (zSK L m (by omega))),fun _ _ _ _ _ h=>h⟩
theorem zZh(L:Nat):FOk (zp rows) L 631 (zRO L) 2:=zm (D:=1) (by kernel_rfl) fun m hm=>⟨zl [],zPP L,(zc xl (zdP L m (by omega))),fun _ _ _ _ _ h=>h⟩
theorem zSM(L:Nat):FOk (zp rows) L 623 (zKx L) 7:=zm (D:=6) (by kernel_rfl) fun m hm=>⟨zl [],zHV L,(zc (zc (zc (zc (zc (zc xl (zfq L m (by omega))) (zlU L m (by omega))) (zgE L m (by omega))) (zpJ L m (by omega))) (zA5 L m (by omega))) (zZh L m (by omega))),fun _ _ _ _ _ h=>h⟩
theorem zGL(L:Nat):FOk (zp rows) L 619 (zBb L) 8:=zm (D:=7) (by kernel_rfl) fun m hm=>⟨zl [],zJB L,(zc (zc xl (zdP L m (by omega))) (zSM L m (by omega))),fun _ _ _ _ _ h=>h⟩
theorem zGs(L:Nat):FOk (zp rows) L 624 (zAP L) 4:=zm (D:=3) (by kernel_rfl) fun m hm=>⟨zl [],zJy L,(zc (zc xl (zpJ L m (by omega))) (zgE L m (by omega))),fun _ _ _ _ _ h=>h⟩
theorem zTH(L:Nat):FOk (zp rows) L 620 (zJF L) 5:=zm (D:=4) (by kernel_rfl) fun m hm=>⟨zl [],zHj L,(zc (zc xl (zj2 L m (by omega))) (zGs L m (by omega))),fun _ _ _ _ _ h=>h⟩
theorem zT8(L:Nat):FOk (zp rows) L 627 (zNf L) 7:=zm (D:=6) (by kernel_rfl) fun m hm=>⟨zl [],zLp L,(zc (zc xl (zdP L m (by omega))) (zA5 L m (by omega))),fun _ _ _ _ _ h=>h⟩
theorem zY9(L:Nat):FOk (zp rows) L 626 (zRW L) 5:=zm (D:=4) (by kernel_rfl) fun m hm=>⟨zl [],zPl L,(zc (zc xl (zlU L m (by omega))) (zEC L m (by omega))),fun _ _ _ _ _ h=>h⟩
theorem zU7(L:Nat):FOk (zp rows) L 638 (zNG L) 1:=zm (D:=0) (by kernel_rfl) fun m hm=>⟨zl [],zKj L,xl,fun _ _ _ _ _ h=>h⟩
theorem zS4(L:Nat):FOk (zp rows) L 635 (zJw L) 2:=zm (D:=1) (by kernel_rfl) fun m hm=>⟨zl [],zGq L,(zc xl (zU7 L m (by omega))),fun _ _ _ _ _ h=>h⟩
theorem zTo(L:Nat):FOk (zp rows) L 639 (zJq L) 4:=zm (D:=3) (by kernel_rfl) fun m hm=>⟨zl [],zGr L,(zc (zc (zc (zc (zc xl (zfq L m (by omega))) (zud L m (by omega))) (zBw L m (by omega))) (zgE L m (by omega))) (ztR L m (by omega))),fun _ _ _ _ _ h=>h⟩
theorem zNT(L:Nat):FOk (zp rows) L 637 (zCx L) 5:=zm (D:=4) (by kernel_rfl) fun m hm=>⟨zl [],zAr L,(zc (zc xl (zpJ L m (by omega))) (zTo L m (by omega))),fun _ _ _ _ _ h=>h⟩
theorem zSW(L:Nat):FOk (zp rows) L 634 (zLk L) 6:=zm (D:=5) (by kernel_rfl) fun m hm=>⟨zl [],zHB L,(zc (zc xl (zj2 L m (by omega))) (zNT L m (by omega))),fun _ _ _ _ _ h=>h⟩
theorem zNU(L:Nat):FOk (zp rows) L 629 (zB3 L) 7:=zm (D:=6) (by kernel_rfl) fun m hm=>⟨zl [],zzX L,(zc (zc (zc (zc xl (zS4 L m (by omega))) (zhk L m (by omega))) (zFd L m (by omega))) (zSW L m (by omega))),fun _ _ _ _ _ h=>h⟩
theorem zTI(L:Nat):FOk (zp rows) L 621 (zKq L) 9:=zm (D:=8) (by kernel_rfl) fun m hm=>⟨zl [],zHp L,(zc (zc (zc (zc (zc (zc (zc (zc xl (zGL L m (by omega))) (zGs L m (by omega))) (zpJ L m (by omega))) (ztR L m (by omega))) (zT8 L m (by omega))) (zA5 L m (by omega))) (zY9 L m (by omega))) (zNU L m (by omega))),fun _ _ _ _ _ h=>h⟩
theorem zFi(L:Nat):FOk (zp rows) L 614 (zy5 L) 10:=zm (D:=9) (by kernel_rfl) fun m hm=>⟨zl [],zGZ L,(zc (zc (zc (zc xl (zj2 L m (by omega))) (zGL L m (by omega))) (zTH L m (by omega))) (zTI L m (by omega))),fun _ _ _ _ _ h=>h⟩
theorem zUZ(L:Nat):FOk (zp rows) L 615 (zND L) 11:=zm (D:=10) (by kernel_rfl) fun m hm=>⟨zl [],zLe L,(zc xl (zFi L m (by omega))),fun _ _ _ _ _ h=>h⟩
theorem zTM(L:Nat):FOk (zp rows) L 622 (zKf L) 1:=zm (D:=0) (by kernel_rfl) fun m hm=>⟨zl [],zGQ L,xl,fun _ _ _ _ _ h=>h⟩
theorem zS0(L:Nat):FOk (zp rows) L 616 (zKl L) 2:=zm (D:=1) (by kernel_rfl) fun m hm=>⟨zl [],zHZ L,(zc xl (zTM L m (by omega))),fun _ _ _ _ _ h=>h⟩
theorem zW9(L:Nat):FOk (zp rows) L 606 (zPk L) 12:=zm (D:=11) (by kernel_rfl) fun m hm=>⟨zl [],zNh L,(zc (zc (zc (zc (zc (zc (zc (zc (zc (zc xl (zhk L m (by omega))) (zSB L m (by omega))) (zWM L m (by omega))) (zWh L m (by omega))) (zyS L m (by omega))) (zkX L m (by omega))) (zKt L m (by omega))) (zFi L m (by omega))) (zUZ L m (by omega))) (zS0 L m (by omega))),fun _ _ _ _ _ h=>h⟩
theorem zY0(L:Nat):FOk (zp rows) L 590 (zR1 L) 13:=zm (D:=12) (by kernel_rfl) fun m hm=>⟨zl [],zPz L,(zc (zc (zc (zc (zc (zc (zc (zc (zc xl (zV3 L m (by omega))) (zTw L m (by omega))) (zWu L m (by omega))) (zSp L m (by omega))) (zST L m (by omega))) (zVc L m (by omega))) (zVO L m (by omega))) (zyS L m (by omega))) (zW9 L m (by omega))),fun _ _ _ _ _ h=>h⟩
theorem zNZ(L:Nat):FOk (zp rows) L 560 (zBX L) 14:=zm (D:=13) (by kernel_rfl) fun m hm=>⟨zl [],zAo L,(zc (zc xl (zY0 L m (by omega))) (zyS L m (by omega))),fun _ _ _ _ _ h=>h⟩
theorem zUJ(L:Nat):FOk (zp rows) L 524 (zNH L) 15:=zm (D:=14) (by kernel_rfl) fun m hm=>⟨zl [],zK0 L,(zc (zc xl (zQ0 L m (by omega))) (zNZ L m (by omega))),fun _ _ _ _ _ h=>h⟩
theorem zWf(L:Nat):FOk (zp rows) L 478 (zMS L) 16:=zm (D:=15) (by kernel_rfl) fun m hm=>⟨zl [],zJs L,(zc (zc (zc (zc xl (zh8 L m (by omega))) (zZu L m (by omega))) (zH2 L m (by omega))) (zUJ L m (by omega))),fun _ _ _ _ _ h=>h⟩
theorem zQ1(L:Nat):FOk (zp rows) L 479 (zGU L) 1:=zm (D:=0) (by kernel_rfl) fun m hm=>⟨zl [],zEE L,xl,fun _ _ _ _ _ h=>h⟩
theorem zCJ(L:Nat):FOk (zp rows) L 483 (zwW L) 8:=zm (D:=7) (by kernel_rfl) fun m hm=>⟨zl [],zEO L,(zc (zc xl (zyR L m (by omega))) (zh8 L m (by omega))),fun _ _ _ _ _ h=>h⟩
theorem zXd(L:Nat):FOk (zp rows) L 525 (zOs L) 4:=zm (D:=3) (by kernel_rfl) fun m hm=>⟨zl [],zNL L,(zc (zc xl (zCm L m (by omega))) (zAn L m (by omega))),fun _ _ _ _ _ h=>h⟩
theorem zZf(L:Nat):FOk (zp rows) L 481 (zSg L) 9:=zm (D:=8) (by kernel_rfl) fun m hm=>⟨zl [],zOt L,(zc (zc (zc xl (zCJ L m (by omega))) (zyg L m (by omega))) (zXd L m (by omega))),fun _ _ _ _ _ h=>h⟩
theorem zUN(L:Nat):FOk (zp rows) L 482 (zMW L) 1:=zm (D:=0) (by kernel_rfl) fun m hm=>⟨zl [],zJQ L,xl,fun _ _ _ _ _ h=>h⟩
theorem zRs(L:Nat):FOk (zp rows) L 444 (zGR L) 17:=zm (D:=16) (by kernel_rfl) fun m hm=>⟨zl [],zDG L,(zc (zc (zc (zc (zc (zc (zc (zc (zc (zc xl (zVr L m (by omega))) (zmO L m (by omega))) (zCN L m (by omega))) (zUj L m (by omega))) (zWf L m (by omega))) (zyg L m (by omega))) (zQ1 L m (by omega))) (zZf L m (by omega))) (zCJ L m (by omega))) (zUN L m (by omega))),fun _ _ _ _ _ h=>h⟩
theorem zWP(L:Nat):FOk (zp rows) L 487 (zP0 L) 5:=zm (D:=4) (by kernel_rfl) fun m hm=>⟨zl [],zNa L,(zc xl (zep L m (by omega))),fun _ _ _ _ _ h=>h⟩
theorem zCB(L:Nat):FOk (zp rows) L 446 (zvE L) 8:=zm (D:=7) (by kernel_rfl) fun m hm=>⟨zl [],zE5 L,(zc (zc xl (zWP L m (by omega))) (zmO L m (by omega))),fun _ _ _ _ _ h=>h⟩
theorem zUc(L:Nat):FOk (zp rows) L 445 (zNr L) 9:=zm (D:=8) (by kernel_rfl) fun m hm=>⟨zl [],zJo L,(zc (zc (zc (zc xl (zCB L m (by omega))) (zJZ L m (by omega))) (zBP L m (by omega))) (zEP L m (by omega))),fun _ _ _ _ _ h=>h⟩
theorem zY3(L:Nat):FOk (zp rows) L 424 (zRZ L) 18:=zm (D:=17) (by kernel_rfl) fun m hm=>⟨zl [],zOl L,(zc (zc (zc (zc xl (zXJ L m (by omega))) (zRs L m (by omega))) (zUc L m (by omega))) (zCB L m (by omega))),fun _ _ _ _ _ h=>h⟩
theorem zWB(L:Nat):FOk (zp rows) L 422 (zON L) 19:=zm (D:=18) (by kernel_rfl) fun m hm=>⟨zl [],zNE L,(zc (zc xl (zXn L m (by omega))) (zY3 L m (by omega))),fun _ _ _ _ _ h=>h⟩
theorem zHI(L:Nat):FOk (zp rows) L 583 (zBM L) 8:=zm (D:=7) (by kernel_rfl) fun m hm=>⟨zl [],zKo L,(zc (zc xl (zBL L m (by omega))) (zNV L m (by omega))),fun _ _ _ _ _ h=>h⟩
theorem z1V(L:Nat):FOk (zp rows) L 548 (zYf L) 9:=zm (D:=8) (by kernel_rfl) fun m hm=>⟨zl [],zVh L,(zc xl (zHI L m (by omega))),fun _ _ _ _ _ h=>h⟩
theorem zRa(L:Nat):FOk (zp rows) L 578 (zHG L) 10:=zm (D:=9) (by kernel_rfl) fun m hm=>⟨zl [],zFI L,(zc xl (z1V L m (by omega))),fun _ _ _ _ _ h=>h⟩
theorem zY6(L:Nat):FOk (zp rows) L 596 (zSi L) 9:=zm (D:=8) (by kernel_rfl) fun m hm=>⟨zl [],zP7 L,(zc xl (zHI L m (by omega))),fun _ _ _ _ _ h=>h⟩
theorem zRv(L:Nat):FOk (zp rows) L 617 (zHH L) 6:=zm (D:=5) (by kernel_rfl) fun m hm=>⟨zl [],zDM L,(zc xl (zTJ L m (by omega))),fun _ _ _ _ _ h=>h⟩
theorem zOd(L:Nat):FOk (zp rows) L 608 (zCh L) 7:=zm (D:=6) (by kernel_rfl) fun m hm=>⟨zl [],zzQ L,(zc xl (zRv L m (by omega))),fun _ _ _ _ _ h=>h⟩
theorem zRi(L:Nat):FOk (zp rows) L 597 (zGM L) 8:=zm (D:=7) (by kernel_rfl) fun m hm=>⟨zl [],zEe L,(zc xl (zOd L m (by omega))),fun _ _ _ _ _ h=>h⟩
theorem zSH(L:Nat):FOk (zp rows) L 579 (zKF L) 10:=zm (D:=9) (by kernel_rfl) fun m hm=>⟨zl [],zHf L,(zc (zc xl (zY6 L m (by omega))) (zRi L m (by omega))),fun _ _ _ _ _ h=>h⟩
theorem zQP(L:Nat):FOk (zp rows) L 542 (zGp L) 11:=zm (D:=10) (by kernel_rfl) fun m hm=>⟨zl [],zET L,(zc (zc (zc (zc (zc xl (zE8 L m (by omega))) (zwe L m (by omega))) (zPn L m (by omega))) (zRa L m (by omega))) (zSH L m (by omega))),fun _ _ _ _ _ h=>h⟩
theorem zWw(L:Nat):FOk (zp rows) L 669 (zEh zbz L) 20:=zm (D:=19) (by kernel_rfl) fun m hm=>⟨zl [],ztM L,(zc (zc (zc xl (zWB L m (by omega))) (ztd L m (by omega))) (zQP L m (by omega))),zT7 L⟩
theorem zJV(L:Nat):FOk (zp rows) L 662 (zoX zcm L) 21:=zm (D:=20) (by kernel_rfl) fun m hm=>⟨znf,znk zbz zbc xh zaQ zaR L,(zc (zc (zc (zc (zc xl (zWw L m (by omega))) (zXL L m (by omega))) (zLg L m (by omega))) (zVq L m (by omega))) (zV5 L m (by omega))),zIm L⟩
end
end
end Go.Proofs.YtgmhijonllockaaGreatDoor
