/- Part 13 of the proof of BlockDecodes: an abstract machine over plain values, its soundness, and the functions of the program on plain values. -/
import Derived.Test.YtgmhijonllockaaGreatDoorMBlockDecodes12
namespace Go.Proofs.YtgmhijonllockaaGreatDoor
set_option maxRecDepth 100000
set_option linter.unusedVariables false
set_option linter.unusedSimpArgs false
open IntKind renaming wrap->QG,bits->X7
open List renaming replicate->We,getD_eq_getElem?_getD->Ws,take_of_length_le->Xy,length->XI,take->XK,length_replicate->XW,getElem?_eq_getElem->Wc,length_set->QI,append_assoc->Wu,map_cons->QW,length_cons->XQ,length_drop->XS,nil_append->XT,mem_cons->Q9,length_take->Ww,getD_cons_succ->X9,map_append->X0,mem_append->QD,length_append->Wm,cons_append->Yc,getElem_mem->W2,getElem?_eq_none->Q3,mem_of_mem_take->WV,append_nil->XV,map_nil->X2,getElem?_append_right->Wt,not_mem_nil->Yj,mem_map->Xz,set_set->Yl,length_nil->XR,length_map->QB,drop_left->Yo,getElem?_set_ne->WE,mem_of_mem_drop->WU,map_congr_left->Yp,getD_cons_zero->Yq,mem_replicate->Yr,map_map->Ys
open Int renaming toNat_natCast->XZ,toNat->XJ,natCast_emod->X8,ofNat_tmod->Yf,eq_ofNat_of_zero_le->Ym,natCast_pow->Yn,tmod->XN,tdiv->Yt
open Nat renaming add->X3,mod->X4,zero_add->WB,shiftRight->X5,xor->X6,mul_one->Ya,exists_eq_add_of_le->Yb,mod_eq_of_lt->XE,le_of_ble_eq_true->Yd,min_eq_left->Ye,land->Yg,shiftLeft->Yh,mul->Yi,shiftLeft_eq->Yk
open Bool renaming false_eq_true->WP
section
set_option linter.unusedSectionVars false
variable {β:Type}
structure HdT where
 ver:Int
 prev:List Int
 root:List Int
 tm:Int
 bits:Int
 nonce:Int
def hrow(h:HdT):List V:=V.sc (.int .u32 h.ver)::(row .u8 h.prev++(row .u8 h.root++[V.sc (.int .u32 h.tm),V.sc (.int .u32 h.bits),V.sc (.int .u32 h.nonce)]))
structure HdOk (h:HdT):Prop where
 pl:h.prev.length=32
 rl:h.root.length=32
 pb:zBL h.prev
 rb:zBL h.root
 ver:0≤h.ver∧h.ver≤4294967295
 tm:0≤h.tm∧h.tm≤4294967295
 bits:0≤h.bits∧h.bits≤4294967295
 nonce:0≤h.nonce∧h.nonce≤4294967295
structure BkT where
 hd:HdT
 txs:List TxT
def zb8(b:BkT):List V:=hrow b.hd++[V.sl 4 (b.txs.map zaK)]
theorem zUm(k:IntKind)(l:List Int):(row k l).map V.dem=row k l:=by
 simp only [row,Ys]; rfl
theorem zSe(h:HdT):(hrow h).map V.dem=hrow h:=by
 simp only [hrow,QW,X0,zUm]; rfl
structure BkW (b:BkT):Prop where
 hd:HdOk b.hd
 tx:∀ t∈b.txs,TxOk t
theorem zIY(A B C D:List V)(h:B.length=C.length):xd (A++(B++D)) A.length C=A++(C++D):=by
 unfold xd
 rw [List.take_left,Wu,← h,← List.drop_drop,Yo,Yo]
def zHd:HdT:=⟨0,We 32 0,We 32 0,0,0,0⟩
theorem zKa(v:Int):[(Qc v)]++We 64 (Qa (0:Int))++[(Qc (0:Int)),(Qc (0:Int)),(Qc (0:Int))]=hrow { zHd with ver:=v }:=by rfl
structure HL (h:HdT):Prop where
 p:h.prev.length=32
 r:h.root.length=32
theorem HL.len{h:HdT}(hl:HL h):(hrow h).length=68:=by
 simp only [hrow,XQ,Wm,zk,hl.p,hl.r,XR]
theorem zPD{h:HdT}(hl:HL h){r:List Int}(hr:r.length=32):xd (hrow h) 1 (row .u8 r)=hrow { h with prev:=r }:=
 zIY [V.sc (.int .u32 h.ver)] (row .u8 h.prev) (row .u8 r) _ (by rw [zk,zk,hl.p,hr])
theorem zQL{h:HdT}(hl:HL h){r:List Int}(hr:r.length=32):xd (hrow h) 33 (row .u8 r)=hrow { h with root:=r }:=by
 have e:∀ (c:HdT),hrow c=(V.sc (.int .u32 c.ver)::row .u8 c.prev)++(row .u8 c.root++[V.sc (.int .u32 c.tm),V.sc (.int .u32 c.bits),V.sc (.int .u32 c.nonce)]):=fun c=>by simp [hrow]
 rw [e,e]
 have l:(V.sc (.int .u32 h.ver)::row .u8 h.prev).length=33:=by simp [zk,hl.p]
 rw [← l]
 exact zIY _ _ _ _ (by rw [zk,zk,hr,hl.r])
theorem zpc(c:HdT):hrow c=(V.sc (.int .u32 c.ver)::(row .u8 c.prev++row .u8 c.root))++[V.sc (.int .u32 c.tm),V.sc (.int .u32 c.bits),V.sc (.int .u32 c.nonce)]:=by simp [hrow]
theorem zDN{h:HdT}(hl:HL h):(V.sc (.int .u32 h.ver)::(row .u8 h.prev++row .u8 h.root)).length=65:=by simp [zk,hl.p,hl.r]
theorem zxE(A B x:List V)(j:Nat):xd (A++B) (A.length+j) x=A++xd B j x:=by
 unfold xd
 rw [List.take_append,Xy (by omega),show A.length+j-A.length=j by omega,List.drop_append,List.drop_of_length_le (by omega),show A.length+j+x.length-A.length=j+x.length by omega]
 simp [Wu]
theorem zQF{h:HdT}(hl:HL h)(x:Int):xd (hrow h) 65 [V.sc (.int .u32 x)]=hrow { h with tm:=x }:=by
 rw [zpc,zpc,show 65=(V.sc (.int .u32 h.ver)::(row .u8 h.prev++row .u8 h.root)).length+0 by rw [zDN hl],zxE]; rfl
theorem zQ9{h:HdT}(hl:HL h)(x:Int):xd (hrow h) 66 [V.sc (.int .u32 x)]=hrow { h with bits:=x }:=by
 rw [zpc,zpc,show 66=(V.sc (.int .u32 h.ver)::(row .u8 h.prev++row .u8 h.root)).length+1 by rw [zDN hl],zxE]; rfl
theorem zQ8{h:HdT}(hl:HL h)(x:Int):xd (hrow h) 67 [V.sc (.int .u32 x)]=hrow { h with nonce:=x }:=by
 rw [zpc,zpc,show 67=(V.sc (.int .u32 h.ver)::(row .u8 h.prev++row .u8 h.root)).length+2 by rw [zDN hl],zxE]; rfl
theorem zNe{h:HdT}(hl:HL h)(g:HdT)(hg:HL g):xd (hrow g) 0 (hrow h)=hrow h:=zai (by rw [hl.len,hg.len])
theorem zHL(v:Int):HL { zHd with ver:=v }:=⟨rfl,rfl⟩
def ziS(j:List Int)(a:Nat):List Int:=(j.drop a).take 32
def zrc(j:List Int):HdT:=⟨(le j 0 4:Nat),ziS j 4,ziS j 36,(le j 68 4:Nat),(le j 72 4:Nat),(le j 76 4:Nat)⟩
theorem za6{j:List Int}{a:Nat}(h:a+32≤j.length):(ziS j a).length=32:=by unfold ziS; rw [Ww,XS]; omega
theorem zuT{j:List Int}{a:Nat}(h:a+32≤j.length):zg4 j a=.ok (ziS j a,a+32):=by unfold zg4 ziS; rw [if_pos h]
theorem zW0(k:List V→Int→Option β):(lt ([(Qc (0:Int))]++We 64 (Qa (0:Int))++[(Qc (0:Int)),(Qc (0:Int)),(Qc (0:Int))]) fun r0=>chk (0=0∧(XI r0)=68∧68≠0) (k r0 8))=k (hrow zHd) 8:=by
 rw [zd,zKa,ya (by rw [(zHL 0).len]; simp)]; rfl
theorem r68{h:HdT}(hl:HL h):XK 68 (hrow h)=hrow h:=Xy (by rw [hl.len]; omega)
theorem zTu{h:HdT}(hl:HL h)(k:List V→Option β):chk (0+68≤(XI (hrow h))) (chk ((XI (XK 68 (hrow h)))=68∧0+68≤68) (lt (xd ([(Qc (0:Int))]++We 64 (Qa (0:Int))++[(Qc (0:Int)),(Qc (0:Int)),(Qc (0:Int))]) 0 (XK 68 (hrow h))) fun r25=>chk (0=0∧(XI r25)=68∧68≠0) (k r25)))=k (hrow h):=by
 rw [ya (by rw [hl.len]; omega),r68 hl,ya ⟨hl.len,by omega⟩,zd,zKa,zNe hl _ (zHL 0),ya (by rw [hl.len]; simp)]
theorem zWw{L:Nat}(hL:20≤L){j:List Int}(hb:Byt j)(hj:j.length≤100000000)(k:List V→Int→Option β):xn β L (ze .u8 j) k=if j.length=80 then k (hrow (zrc j)) 0 else k (hrow zHd) 8:=by
 unfold xn ziY
 by_cases h:j.length=80
 ·have hl1:HL (zrc j):=⟨za6 (by omega),za6 (by omega)⟩
  rw [xG,if_pos h,h,show ((((80:Nat)):Int) != (80:Int))=false from rfl,zik]
  refine (zwf (a:=0) hL hb hj (by omega) _).trans ?_
  rw [if_pos (by omega),zd]
  refine (zIE (a:=4) hL hj (by omega) _).trans ?_
  rw [zuT (by omega),xH,zKa,ya ⟨by rw [zk,za6 (by omega)],by rw [(zHL _).len]; omega⟩,zd,zPD (zHL _) (za6 (by omega))]
  refine (zIE (a:=36) hL hj (by omega) _).trans ?_
  have h2:∀ v,HL { zHd with ver:=v,prev:=ziS j 4 }:=fun v=>⟨za6 (by omega),rfl⟩
  rw [zuT (by omega),xH,ya ⟨by rw [zk,za6 (by omega)],by rw [(h2 _).len]; omega⟩,zd,zQL (h2 _) (za6 (by omega))]
  have h3:∀ v t b n,HL ⟨v,ziS j 4,ziS j 36,t,b,n⟩:=fun v t b n=>⟨za6 (by omega),za6 (by omega)⟩
  refine (zwf (a:=68) hL hb hj (by omega) _).trans ?_
  rw [if_pos (by omega),ya ⟨rfl,by rw [(h3 _ _ _ _).len]; omega⟩,zd,zQF (h3 _ _ _ _)]
  refine (zwf (a:=72) hL hb hj (by omega) _).trans ?_
  rw [if_pos (by omega),ya ⟨rfl,by rw [(h3 _ _ _ _).len]; omega⟩,zd,zQ9 (h3 _ _ _ _)]
  refine (zwf (a:=76) hL hb hj (by omega) _).trans ?_
  rw [if_pos (by omega),ya ⟨rfl,by rw [(h3 _ _ _ _).len]; omega⟩,zd,zQ8 (h3 _ _ _ _)]
  exact zTu hl1 fun r=>k r 0
 ·rw [xG,if_neg h,xm,if_neg (by omega)]
  exact zW0 k
theorem zTE{L:Nat}(hL:20≤L){j:List Int}(hb:Byt j)(hj:j.length≤100000000)(h:80≤j.length)(k:List V→Option β):zx β L (ze .u8 j) k=k (hrow (zrc j)):=by
 unfold zx zpm
 have hl1:HL (zrc j):=⟨za6 (by omega),za6 (by omega)⟩
 refine (zwY (a:=0) hL hb hj (by omega) _).trans ?_
 rw [if_pos (by omega),zd]
 refine (zEa (a:=4) hL hj (by omega) _).trans ?_
 rw [zuT (by omega),xH,zKa,ya ⟨by rw [zk,za6 (by omega)],by rw [(zHL _).len]; omega⟩,zd,zPD (zHL _) (za6 (by omega))]
 refine (zEa (a:=36) hL hj (by omega) _).trans ?_
 have h2:∀ v,HL { zHd with ver:=v,prev:=ziS j 4 }:=fun v=>⟨za6 (by omega),rfl⟩
 rw [zuT (by omega),xH,ya ⟨by rw [zk,za6 (by omega)],by rw [(h2 _).len]; omega⟩,zd,zQL (h2 _) (za6 (by omega))]
 have h3:∀ v t b n,HL ⟨v,ziS j 4,ziS j 36,t,b,n⟩:=fun v t b n=>⟨za6 (by omega),za6 (by omega)⟩
 refine (zwY (a:=68) hL hb hj (by omega) _).trans ?_
 rw [if_pos (by omega),ya ⟨rfl,by rw [(h3 _ _ _ _).len]; omega⟩,zd,zQF (h3 _ _ _ _)]
 refine (zwY (a:=72) hL hb hj (by omega) _).trans ?_
 rw [if_pos (by omega),ya ⟨rfl,by rw [(h3 _ _ _ _).len]; omega⟩,zd,zQ9 (h3 _ _ _ _)]
 refine (zwY (a:=76) hL hb hj (by omega) _).trans ?_
 rw [if_pos (by omega),ya ⟨rfl,by rw [(h3 _ _ _ _).len]; omega⟩,zd,zQ8 (h3 _ _ _ _)]
 exact zTu hl1 k
theorem zL9:∀ {l:List V},(∀ v∈l,∃ k n,v=V.sc (.int k n))→ze0 l l=some true
 | [],_=>rfl
 | v::l,h=>by
  obtain ⟨k,n,rfl⟩:=h v (by simp)
  simp only [ze0,if_true,zL9 (l:=l) (fun x hx=>h x (by simp [hx])),Option.map_some,beq_self_eq_true,Bool.and_self]
theorem zQY{k:IntKind}{l:List Int}:∀ v∈row k l,∃ k n,v=V.sc (.int k n):=fun v hv=>by
 obtain ⟨n,_,rfl⟩:=Xz.1 hv
 exact ⟨_,_,rfl⟩
theorem zHf(h:HdT):∀ v∈hrow h,∃ k n,v=V.sc (.int k n):=fun v hv=>by
 simp only [hrow,Q9,QD,Yj,or_false] at hv
 rcases hv with rfl | hv | hv | rfl | rfl | rfl
 ·exact ⟨_,_,rfl⟩
 ·exact zQY v hv
 ·exact zQY v hv
 ·exact ⟨_,_,rfl⟩
 ·exact ⟨_,_,rfl⟩
 ·exact ⟨_,_,rfl⟩
theorem zSw{h:HdT}(hl:HL h)(k:Bool→Option β):eqC 68 (hrow h) (hrow h) k=k true:=by
 simp only [eqC,hl.len,and_self,zGU,zL9 (zHf h)]
theorem c68{h:HdT}(hl:HL h)(k:Option β):chk (0+68≤(XI (hrow h))) k=k:=ya (by rw [hl.len]; omega) k
theorem zU9:[(Qc (0:Int))]++We 64 (Qa (0:Int))++[(Qc (0:Int)),(Qc (0:Int)),(Qc (0:Int))]=hrow zHd:=by rfl
theorem zRT{j:List Int}(hb:Byt j)(n:Nat):Byt (j.take n):=fun x hx=>hb x (WV hx)
theorem zNZ{j:List Int}{n i:Nat}(h:i<n):zmB (j.take n) i=zmB j i:=by
 unfold zmB
 rw [Ws,Ws,List.getElem?_take,if_pos h]
theorem zwy{j:List Int}{n:Nat}:∀ (w a:Nat),a+w≤n→le (j.take n) a w=le j a w
 | 0,a,h=>rfl
 | w+1,a,h=>by rw [zBS,zBS,zNZ (by omega),zwy w (a+1) (by omega)]
theorem zK8{j:List Int}{n a:Nat}(h:a+32≤n):ziS (j.take n) a=ziS j a:=by
 unfold ziS
 rw [List.drop_take,List.take_take,Ye (by omega)]
theorem zPZ(j:List Int):zrc (j.take 80)=zrc j:=by
 unfold zrc
 rw [zwy 4 0 (by omega),zwy 4 68 (by omega),zwy 4 72 (by omega),zwy 4 76 (by omega),zK8 (by omega),zK8 (by omega)]
theorem zL4{j:List Int}{a a':Nat}{t:TxT}(h:gTx j a=.ok (t,a')):a'≤j.length:=by
 unfold gTx at h
 split at h
 ·cases h
 ·rename_i ver a1 e1
  split at h
  ·cases h
  ·rename_i n a2 e2
   split at h
   ·cases h
   ·rename_i xs a3 e3
    split at h
    ·cases h
    ·rename_i m a4 e4
     split at h
     ·cases h
     ·rename_i os a5 e5
      split at h
      ·cases h
      ·rename_i lk a6 e6
       split at h
       ·cases h
       ·rename_i ys a7 e7
        split at h
        ·cases h
        ·cases h
         exact (zyp xs a6 (zmu e6) (zv4 n a2 (zbn e2).1 e3).2.2.1 e7).1
def zmR(j:List Int):Nat→Nat→Except Int (List TxT × Nat)
 | 0,a=>.ok ([],a)
 | n+1,a=>match gTx j a with
  | .error e=>.error e
  | .ok (t,a1)=>match zmR j n a1 with
   | .error e=>.error e
   | .ok (ts,a2)=>.ok (t::ts,a2)
theorem zBJ{j:List Int}:∀ (n a:Nat) {ts:List TxT} {a':Nat},a≤j.length→zmR j n a=.ok (ts,a')→a'≤j.length∧ts.length=n∧∀ t∈ts,SmallT t
 | 0,a,ts,a',ha,h=>by simp only [zmR] at h; cases h; exact ⟨ha,rfl,by simp⟩
 | n+1,a,ts,a',ha,h=>by
  rw [zmR] at h
  split at h
  ·cases h
  ·rename_i t a1 e1
   split at h
   ·cases h
   ·rename_i us a2 e2
    cases h
    obtain ⟨r1,r2,r3⟩:=zBJ n a1 (zL4 e1) e2
    refine ⟨r1,by simp [r2],fun x hx=>?_⟩
    rcases Q9.1 hx with rfl | hx
    ·exact zPX ha e1
    ·exact r3 x hx
def zEU(j:List Int):Except Int BkT:=if j.length>100000 then .error 4 else if j.length<80 then .error 1 else match zbA j 256 80 with
 | .error e=>.error e
 | .ok (n,a)=>match zmR j n a with
  | .error e=>.error e
  | .ok (ts,a')=>if a'<j.length then .error 2 else .ok ⟨zrc j,ts⟩
def zB:BkT:=⟨zHd,[]⟩
def zMf(r:Except Int BkT)(k:BkT→Option β)(b:Int→Option β):Option β:=match r with
 | .ok v=>k v
 | .error e=>b e
theorem zNE(e:Int)(k:BkT→Option β)(b:Int→Option β):zMf (.error e) k b=b e:=rfl
def zdh(d:HdT)(ts:List TxT):List V:=hrow d++[V.gs 4 (ts.map zaK)]
theorem zcz{d:HdT}(hl:HL d)(ts:List TxT):(zdh d ts).length=69:=by simp [zdh,hl.len]
theorem zsl{b:BkT}(hl:HL b.hd):(zb8 b).length=69:=by simp [zb8,hl.len]
theorem zPM{d:HdT}(hl:HL d)(ts:List TxT)(k:Ls→Option β):cG 4 (zdh d ts) 68 k=k (ts.map zaK):=by
 have e:(zdh d ts)[68]?=some (V.gs 4 (ts.map zaK)):=by
  unfold zdh
  rw [Wt (by rw [hl.len]; omega),hl.len]; rfl
 simp only [cG,zdn,e,aGw]
 rfl
theorem zLc{d:HdT}(hl:HL d)(ts us:List TxT)(w:V):List.set (List.set (zdh d ts) 68 w) 68 (V.gs 4 (us.map zaK))=zdh d us:=by
 rw [Yl]
 unfold zdh
 rw [List.set_append_right _ _ (by rw [hl.len]; omega),hl.len]; rfl
theorem zT4(kb:List Bool){l:List V}(h:∀ v∈l,∃ k n,v=V.sc (.int k n)):xU kb l=l:=by
 unfold xU
 rw [Yp (g:=id) (fun v hv=>by obtain ⟨k,n,rfl⟩:=h v hv; rfl)]
 simp
theorem zSL(kb:List Bool)(a b:List V):xU kb (a++b)=xU kb a++xU kb b:=by simp [xU]
theorem zni(kb:List Bool)(d:HdT)(ts:List TxT):xU kb (zdh d ts)=zdh d ts:=by
 unfold zdh
 rw [zSL,zT4 kb (zHf d)]; rfl
theorem zKv:∀ {l:List V},(∀ v∈l,∃ k n,v=V.sc (.int k n))→∀ (r:List V),(l++r).mapM V.plain=(r.mapM V.plain).map (l++·)
 | [],_,r=>by simp
 | v::l,h,r=>by
  obtain ⟨k,n,rfl⟩:=h v (by simp)
  have ih:=zKv (l:=l) (fun x hx=>h x (by simp [hx])) r
  rw [Yc,List.mapM_cons,ih]
  cases r.mapM V.plain <;> rfl
theorem zFL(d:HdT)(hl:HL d)(ts:List TxT)(k:List V→Option β):zb4 (XK 69 (zdh d ts)) k=k (zb8 ⟨d,ts⟩):=by
 rw [Xy (by rw [zcz hl]; omega)]
 have e:(zdh d ts).mapM V.plain=some (zb8 ⟨d,ts⟩):=by
  unfold zdh zb8
  rw [zKv (zHf d)]; rfl
 simp only [zb4,e]
theorem zzW:[(Qc (0:Int))]++We 64 (Qa (0:Int))++[(Qc (0:Int)),(Qc (0:Int)),(Qc (0:Int)),(V.sl 4 ([]:Ls))]=zb8 zB:=by rfl
theorem zNS:[(Qc (0:Int))]++We 64 (Qa (0:Int))++[(Qc (0:Int)),(Qc (0:Int)),(Qc (0:Int)),(V.gs 4 ([]:Ls))]=zdh zHd []:=by rfl
theorem zWv:(zb8 zB).length=69:=by rfl
theorem zqr(k:Option β):chk (0=0∧(XI (zb8 zB))=69∧69≠0) k=k:=ya (by rw [zWv]; simp) k
theorem zQm(k:Option β){b:BkT}(hl:HL b.hd):chk (0=0∧(XI (zb8 b))=69∧69≠0) k=k:=ya (by rw [zsl hl]; simp) k
theorem zWV:HL zHd:=⟨rfl,rfl⟩
theorem zNJ{d:HdT}(hl:HL d):xd (zdh zHd []) 0 (hrow d)=zdh d []:=by
 have z:(hrow zHd).length=(hrow d).length:=by rw [hl.len,HL.len zWV]
 unfold zdh xd
 rw [List.take_zero,XT,← z,WB,Yo]
theorem zMb{d e:HdT}(hl:HL d)(he:HL e)(ts us:List TxT):xd (zdh e us) 0 (zdh d ts)=zdh d ts:=zai (by rw [zcz hl,zcz he])
theorem ztm{b:BkT}{d:HdT}(hl:HL b.hd)(hd:HL d)(ts:List TxT):xd (zdh d ts) 0 (zb8 b)=zb8 b:=zai (by rw [zsl hl,zcz hd])
theorem zhe:HL zHd:=zHL 0
theorem zGT(x:TxT):XK 4 (zaK x)=zaK x:=by simp [zaK]
theorem zNz(x:TxT):xd [(Qc (0:Int)),(V.sl 35 ([]:Ls)),(V.sl 2 ([]:Ls)),(Qc (0:Int))] 0 (zaK x)=zaK x:=zai (by rw [ztL]; rfl)
theorem zGA(x:TxT):yf 4 1 (zaK x)=[x].map zaK:=by simp [yf,zaK]
theorem c4l(x:TxT)(k:Option β):chk ((XI (zaK x))=4∧0+4≤4) k=k:=ya ⟨ztL x,by omega⟩ k
theorem c4g(x:TxT)(k:Option β):chk (0+4≤(XI (zaK x))) k=k:=ya (by rw [ztL]; omega) k
theorem upU{i:Nat}(h:i≤1000000000):QG .u64 ((i:Int)+1)=((i+1:Nat):Int):=by
 rw [zaQ (by omega) (by omega)]; rfl
section
variable {L:Nat} (hL:1000≤L) {j:List Int} (hb:Byt j) (hj:j.length≤100000)
include hL hb hj
theorem zPr{d:HdT}(hl:HL d)(kr:Int→List V→Option β)(kx:Ls→Int→List V→List V→Option β):∀ (m i n a:Nat) (ts:List TxT),n≤256→i+m=n→ts.length=i→a≤j.length→∀ N,m<N →
  za7 yP L kr kx N (ze .u8 j) (a:Int) (n:Int) (i:Int) (zdh zHd []) (zdh d ts)=zdi (zmR j m a) (fun us a'=>kx (ze .u8 j) (a':Int) (zdh zHd []) (zdh d (ts++us))) (fun e=>kr e (zb8 zB)):=by
 intro m
 induction m with
 | zero=>
  intro i n a ts hn hi hts ha N hN
  obtain ⟨M,rfl⟩:∃ M,N=M+1:=⟨N-1,by omega⟩
  rw [za7]
  unfold zc9
  rw [yq (by omega),zni]
  simp only [zmR,xH,XV]
 | succ m ih=>
  intro i n a ts hn hi hts ha N hN
  obtain ⟨M,rfl⟩:∃ M,N=M+1:=⟨N-1,by omega⟩
  rw [za7]
  unfold zc9
  rw [xz (by omega),zSp hL hb (by omega) ha,zmR]
  cases e1:gTx j a with
  | error e=>
   rw [yQ,← zQA,c4l,zyj,zd,xm,if_neg (zPU e1),ya ⟨rfl,by rw [zcz zhe]; omega⟩,zzW,ztm zhe zhe,zd]
   rfl
  | ok p=>
   obtain ⟨t,a1⟩:=p
   have ha1:=zL4 e1
   have hset:=zLc hl ts (ts++[t]) (V.sl 4 (ts.map zaK))
   rw [xH,c4l,zyj,zd,xm,if_pos rfl,zPM hl,c4g,zGT,c4l,zNz,zGA,ya (by simp only [QB,XQ,XR]; unfold zg; omega),← X0,zd,ya ⟨rfl,by rw [QI,zcz hl]; omega⟩,upU (by omega),zd,hset,zni]
   refine (ih (i+1) n a1 (ts++[t]) hn (by omega) (by simp [hts]) ha1 M (by omega)).trans ?_
   simp only
   cases zmR j m a1 with
   | error e=>rfl
   | ok q=>obtain ⟨us,a2⟩:=q; simp only [xH,Wu,Yc,XT]
theorem zQe(k:List V→Int→Option β):zz β L (ze .u8 j) k=zMf (zEU j) (fun b=>k (zb8 b) 0) (fun e=>k (zb8 zB) e):=by
 unfold zz zk1 zpv zEU
 rw [xG,yq (by omega),if_neg (by omega)]
 by_cases h1:j.length<80
 ·rw [xz (by omega),if_pos h1,zzW,zd,zqr,zNE]
 ·have hl:HL (zrc j):=⟨za6 (by omega),za6 (by omega)⟩
  rw [yq (by omega),if_neg h1,ya ⟨by omega,by omega⟩,List.drop_zero,zke,zWw (by omega) (zRT hb 80) (by rw [Ww]; omega),if_pos (by rw [Ww]; omega),zPZ,ya ⟨hl.len,by omega⟩,zU9,zNe hl _ zhe,zd,xm,if_pos rfl]
  refine (zH1 (by omega) hb (by omega) (a:=80) 256 (by omega) _).trans ?_
  cases e1:zbA j 256 80 with
  | error e=>rw [yQ,xm,if_neg (zcY e1),zzW,zd,zqr]; rfl
  | ok p=>
   obtain ⟨n,a⟩:=p
   obtain ⟨ha,hn⟩:=zbn e1
   rw [xH,xm,if_pos rfl,c68 hl,r68 hl,ya ⟨hl.len,by omega⟩,zNS,zNJ hl,ya ⟨zcz hl [],by omega⟩,zMb hl zhe,zni]
   refine (zPr hL hb hj hl _ _ n 0 n a [] hn (by omega) rfl ha L (by omega)).trans ?_
   simp only
   cases e2:zmR j n a with
   | error e=>
    rw [yQ]
    unfold zer
    rw [zqr]; rfl
   | ok q=>
    obtain ⟨ts,a'⟩:=q
    obtain ⟨ha',hts,_⟩:=zBJ n a ha e2
    rw [xH,XT]
    unfold zeJ zJ zpR
    rw [yq (by omega),xG,yq (by omega)]
    show _=zMf (if a'<j.length then .error 2 else .ok ⟨zrc j,ts⟩) _ _
    by_cases h2:a'<j.length
    ·rw [xz (by omega),if_pos h2]
     change ifb ((2:Int) != 0) _ _=_
     rw [xm,if_neg (by decide),ya ⟨rfl,by rw [zcz zhe]; omega⟩,zzW,ztm zhe zhe,zd,zqr]; rfl
    ·rw [yq (by omega),if_neg h2]
     change ifb ((0:Int) != 0) _ _=_
     rw [xm,if_pos rfl,ya (by rw [zcz hl]; omega),zFL _ hl,ya ⟨zsl hl,by rw [zcz zhe]; omega⟩,ztm hl zhe,zd,zQm _ hl]; rfl
theorem zPo{d:HdT}(hl:HL d)(kr:Int→List V→Option β)(kx:Ls→Int→List V→List V→Option β):∀ (m a:Nat) (ts:List TxT),ts.length+m≤256→a≤j.length→∀ N,m<N →
  zbG xA L kr kx N (ze .u8 j) (m:Int) (a:Int) (zdh zHd []) (zdh d ts)=zdi (zmR j m a) (fun us a'=>kx (ze .u8 j) (a':Int) (zdh zHd []) (zdh d (ts++us))) (fun e=>kr e (zb8 zB)):=by
 intro m
 induction m with
 | zero=>
  intro a ts hts ha N hN
  obtain ⟨M,rfl⟩:∃ M,N=M+1:=⟨N-1,by omega⟩
  rw [zbG]
  unfold zeA
  rw [yq (by omega),zni]
  simp only [zmR,xH,XV]
 | succ m ih=>
  intro a ts hts ha N hN
  obtain ⟨M,rfl⟩:∃ M,N=M+1:=⟨N-1,by omega⟩
  rw [zbG]
  unfold zeA
  rw [xz (by omega),zRO hL hb (by omega) ha,zmR]
  cases e1:gTx j a with
  | error e=>
   rw [yQ,← zQA,c4l,zyj,zd,xm,if_neg (zPU e1),ya ⟨rfl,by rw [zcz zhe]; omega⟩,zzW,ztm zhe zhe,zd]
   rfl
  | ok p=>
   obtain ⟨t,a1⟩:=p
   have ha1:=zL4 e1
   have hset:=zLc hl ts (ts++[t]) (V.sl 4 (ts.map zaK))
   have dn:QG .u64 (((m+1:Nat):Int)-1)=(m:Int):=by rw [zaQ (by omega) (by omega)]; omega
   rw [xH,c4l,zyj,zd,xm,if_pos rfl,zPM hl,c4g,zGT,c4l,zNz,zGA,ya (by simp only [QB,XQ,XR]; unfold zg; omega),← X0,zd,ya ⟨rfl,by rw [QI,zcz hl]; omega⟩,dn,zd,hset,zni]
   refine (ih a1 (ts++[t]) (by simp; omega) ha1 M (by omega)).trans ?_
   simp only
   cases zmR j m a1 with
   | error e=>rfl
   | ok q=>obtain ⟨us,a2⟩:=q; simp only [xH,Wu,Yc,XT]
theorem zQf(k:List V→Int→Option β):zO β L (ze .u8 j) k=zMf (zEU j) (fun b=>k (zb8 b) 0) (fun e=>k (zb8 zB) e):=by
 unfold zO zk2 zpa zEU
 rw [xG,yq (by omega),if_neg (by omega)]
 by_cases h1:j.length<80
 ·rw [xz (by omega),if_pos h1,zzW,zd,zqr,zNE]
 ·have hl:HL (zrc j):=⟨za6 (by omega),za6 (by omega)⟩
  rw [yq (by omega),if_neg h1,zTE (by omega) hb (by omega) (by omega),ya ⟨hl.len,by omega⟩,zNS,zNJ hl,ya ⟨zcz hl [],by omega⟩]
  refine (zEe (by omega) hb (by omega) (a:=80) 256 (by omega) _).trans ?_
  cases e1:zbA j 256 80 with
  | error e=>rw [yQ,xm,if_neg (zcY e1),zzW,zd,zqr]; rfl
  | ok p=>
   obtain ⟨n,a⟩:=p
   obtain ⟨ha,hn⟩:=zbn e1
   rw [xH,xm,if_pos rfl,zMb hl zhe,zni]
   refine (zPo hL hb hj hl _ _ n a [] (by simpa using hn) ha L (by omega)).trans ?_
   simp only
   cases e2:zmR j n a with
   | error e=>
    rw [yQ]
    unfold zfO
    rw [zqr]; rfl
   | ok q=>
    obtain ⟨ts,a'⟩:=q
    obtain ⟨ha',hts,_⟩:=zBJ n a ha e2
    rw [xH,XT]
    unfold zgg yJ zp2
    rw [yq (by omega),xG,yq (by omega)]
    show _=zMf (if a'<j.length then .error 2 else .ok ⟨zrc j,ts⟩) _ _
    by_cases h2:a'<j.length
    ·rw [xz (by omega),if_pos h2]
     change ifb ((2:Int) != 0) _ _=_
     rw [xm,if_neg (by decide),ya ⟨rfl,by rw [zcz zhe]; omega⟩,zzW,ztm zhe zhe,zd,zqr]; rfl
    ·rw [yq (by omega),if_neg h2]
     change ifb ((0:Int) != 0) _ _=_
     rw [xm,if_pos rfl,ya (by rw [zcz hl]; omega),zFL _ hl,ya ⟨zsl hl,by rw [zcz zhe]; omega⟩,ztm hl zhe,zd,zQm _ hl]; rfl
end
structure SmallB (b:BkT):Prop where
 hl:HL b.hd
 n:b.txs.length≤10000
 s:∀ t∈b.txs,SmallT t
theorem zR6:SmallB zB:=⟨zhe,by decide,fun t ht=>by cases ht⟩
theorem zO3{j:List Int}{b:BkT}(h:zEU j=.ok b):SmallB b:=by
 unfold zEU at h
 split at h
 ·cases h
 ·split at h
  ·cases h
  ·split at h
   ·cases h
   ·rename_i n a e1
    split at h
    ·cases h
    ·rename_i ts a' e2
     split at h
     ·cases h
     ·cases h
      obtain ⟨ha,hn⟩:=zbn e1
      obtain ⟨_,hts,hs⟩:=zBJ n a ha e2
      exact ⟨⟨za6 (by omega),za6 (by omega)⟩,by simp only; omega,hs⟩
theorem zz3{b:BkT}(hl:HL b.hd)(k:Ls→Option β):cLd 4 (zb8 b) 68 k=k (b.txs.map zaK):=by
 have e:(zb8 b)[68]?=some (V.sl 4 (b.txs.map zaK)):=by
  unfold zb8
  rw [Wt (by rw [hl.len]; omega),hl.len]; rfl
 exact zsG e k
theorem zRK{b:BkT}(hl:HL b.hd):XK 68 (zb8 b)=hrow b.hd:=by
 unfold zb8
 rw [← hl.len,List.take_left]
theorem zXO{b:BkT}(hl:HL b.hd):List.map V.dem (XK 69 (zb8 b))=zb8 b:=by
 rw [Xy (by rw [zsl hl]; omega)]
 simp only [zb8,X0,zSe]; rfl
theorem zS1{l:List TxT}{i:Nat}(h:i<l.length):(l.map zaK)[i]?=some (zaK l[i]):=by simp [h]
theorem zJr{L:Nat}(hL:1000≤L){b:BkT}(hs:SmallB b)(kr:Bool→Option β)(kx:Option β):∀ (m i:Nat),i≤b.txs.length→b.txs.length-i<m →
  zcN yu L kr kx m (b.txs.length:Int) (i:Int) (zb8 b) (zb8 b)=kx
 | 0,i,h1,h2=>by omega
 | m+1,i,h1,h2=>by
  have hn:=hs.n
  rw [zcN]
  unfold zhr
  by_cases hi:i<b.txs.length
  ·rw [xz (by omega),zz3 hs.hl,zef (zS1 hi),zz3 hs.hl,zef (zS1 hi),zP1,zWz hL (hs.s _ (W2 hi))]
   simp only [Bool.not_true,zik]
   rw [yI (by omega),zd]
   exact zJr hL hs kr kx m (i+1) (by omega) (by omega)
  ·rw [yq (by omega)]
theorem zUk{L:Nat}(hL:20000≤L){b:BkT}(hs:SmallB b)(k:Bool→Option β):xw β L (zb8 b) (zb8 b) k=k true:=by
 have hn:=hs.n
 unfold xw zhG zlL
 rw [ya (by rw [zsl hs.hl]; omega),ya (by rw [zsl hs.hl]; omega),zRK hs.hl,zSw hs.hl]
 simp only [Bool.not_true,zik]
 rw [zz3 hs.hl,zz3 hs.hl,xm,if_pos rfl,zz3 hs.hl,QB]
 refine (zJr (by omega) hs _ _ L 0 (by omega) (by omega)).trans ?_
 rfl
theorem zWK{b:BkT}(hl:HL b.hd)(k:List V→Option β):chk ((XI (zb8 b))=69∧0+69≤69) (lt (xd ([(Qc (0:Int))]++We 64 (Qa (0:Int))++[(Qc (0:Int)),(Qc (0:Int)),(Qc (0:Int)),(V.gs 4 ([]:Ls))]) 0 (zb8 b)) k)=k (zb8 b):=by
 rw [ya ⟨zsl hl,by omega⟩,zNS,ztm hl zhe,zd]
theorem c69{b:BkT}(hl:HL b.hd)(k:Option β):chk (0+69≤(XI (zb8 b))) k=k:=ya (by rw [zsl hl]; omega) k
theorem zBa(a0:Ls)(hl0:a0.length≤maxLen)(wf0:∀ e∈a0,HasRow [.int .u8] e):∃ L,∀ k:Bool→Option Bool,zaY Bool L a0 k=k true:=by
 obtain ⟨j,rfl,hw⟩:=zMV wf0
 obtain ⟨L,hL⟩:∃ L:Nat,100000≤L:=⟨100000,Nat.le_refl _⟩
 refine ⟨L,fun k=>?_⟩
 unfold zaY ziK zX
 rw [ya (by omega),xG,zba]
 by_cases h:(j.length:Int)>4000
 ·rw [if_pos h]
 ·have hb:=zWx hw
  have main:∀ (b:BkT) (e:Int),SmallB b→zz Bool L (ze .u8 j)=(fun q=>q (zb8 b) e)→zO Bool L (ze .u8 j)=(fun q=>q (zb8 b) e)→(zz Bool L (ze .u8 j) fun v0 v1=>
 chk ((XI v0)=69∧0+69≤69) (
 lt (xd ([(Qc (0:Int))]++We 64 (Qa (0:Int))++[(Qc (0:Int)),(Qc (0:Int)),(Qc (0:Int)),(V.gs 4 ([]:Ls))]) 0 v0) fun r2=>
 zO Bool L (ze .u8 j) (fun v3 v4=>
 chk ((XI v3)=69∧0+69≤69) (
 lt (xd ([(Qc (0:Int))]++We 64 (Qa (0:Int))++[(Qc (0:Int)),(Qc (0:Int)),(Qc (0:Int)),(V.gs 4 ([]:Ls))]) 0 v3) fun r5=>
 ifb ((v1:Int)==v4) (
 chk (0+69≤(XI r2)) (
 chk (0+69≤(XI r5)) (
 xw Bool L (List.map V.dem (XK 69 r2)) (List.map V.dem (XK 69 r5)) (fun v6=>
 k v6)))) (
 k false)))))=k true:=by
   intro b e hs e1 e2
   rw [e1,e2]
   simp only [zWK hs.hl]
   rw [zbq rfl,c69 hs.hl,c69 hs.hl,zXO hs.hl,zUk (by omega) hs]
  rw [if_neg h]
  have r1:∀ q,zz Bool L (ze .u8 j) q=_:=fun q=>zQe (by omega) hb (by omega) q
  have r2:∀ q,zO Bool L (ze .u8 j) q=_:=fun q=>zQf (by omega) hb (by omega) q
  cases e:zEU j with
  | ok b=>exact main b 0 (zO3 e) (by funext q; rw [r1,e]; rfl) (by funext q; rw [r2,e]; rfl)
  | error v=>exact main zB v zR6 (by funext q; rw [r1,e]; rfl) (by funext q; rw [r2,e]; rfl)
end
section
theorem zuC(n:Int):0≤QG .u64 n:=by
 unfold QG
 simp only [IntKind.signed,Bool.false_and,WP,if_false]
 exact Int.emod_nonneg _ (by decide)
def zee(p n:Int):Int:=
 ior .u32 (zct .u32 p (zep .u64 (QG .u64 (QG .i64 (0-n))) 31)) (zcS .u32 p (QG .u64 (32-(zep .u64 (QG .u64 (QG .i64 (0-n))) 31))))
theorem zNn{β:Type}(L:Nat)(p n:Int)(k:Int→Option β):xi β L p n k=k (ior .u32 (zct .u32 p (zep .u64 (QG .u64 n) 31)) (zcS .u32 p (QG .u64 (32-(zep .u64 (QG .u64 n) 31))))):=by
 unfold xi zgl
 simp only [zd]
 rw [ya (show 0≤zep .u64 (QG .u64 n) 31 from zuC _),ya (zuC _)]
theorem zNw{β:Type}(L:Nat)(p n:Int)(k:Int→Option β):xh β L p n k=k (zee p n):=by
 unfold xh zxw
 simp only [zd]
 rw [zNn]; exact Eq.trans rfl rfl
theorem zRE{β:Type}(L:Nat)(p n:Int)(k:Int→Option β):xg β L p n k=k (zee p n):=by
 unfold xg ztH
 simp only [zd]
 rw [zNn]; exact Eq.trans rfl rfl
theorem xN{β:Type}{k:IntKind}{l:List Int}{j:Nat}(h:j<l.length)(κ:Int→Option β):cI k (row k l) j κ=κ (l.getD j 0):=
 zsp (by simp [row,h]) κ
theorem zgY{k:IntKind}{w:List Int}{j:Nat}(h:j<w.length)(x:Int):xd (row k w) j [V.sc (.int k x)]=row k (w.set j x):=by
 rw [znd (by rw [zk]; exact h)]
 simp [row]
theorem zNU{t c:Nat}(h:c≤t)(h2:t≤1000000):QG .i64 ((t:Int)-(c:Int))=((t-c:Nat):Int):=by
 rw [xr (by omega) (by omega)]; omega
def s2(w:List Int)(t:Nat):Int:=
 QG .u32 (QG .u32 (QG .u32 (w.getD (t-16) 0+zcc .u32 (zcc .u32 (zee (w.getD (t-15) 0) 7) (zee (w.getD (t-15) 0) 18)) (zcS .u32 (w.getD (t-15) 0) 3))+w.getD (t-7) 0)+zcc .u32 (zcc .u32 (zee (w.getD (t-2) 0) 17) (zee (w.getD (t-2) 0) 19)) (zcS .u32 (w.getD (t-2) 0) 10))
def zzG:Nat→Nat→List Int→List Int
 | 0,_,w=>w
 | m+1,t,w=>zzG m (t+1) (w.set t (s2 w t))
theorem zLD:∀ (m t:Nat) (w:List Int),(zzG m t w).length=w.length
 | 0,_,_=>rfl
 | m+1,t,w=>by rw [zzG,zLD m]; simp
theorem zI5{β:Type}(L:Nat){t:Nat}(h1:16≤t)(h2:t<64)(b2:List V){w:List Int}(hw:w.length=64)(kh:Int→List V→List V→Option β)(kx:List V→List V→Option β):zcg xh L (t:Int) b2 (row .u32 w) kh kx=kh ((t+1:Nat):Int) b2 (row .u32 (w.set t (s2 w t))):=by
 unfold zcg
 have e15:QG .i64 ((t:Int)-(15:Int))=((t-15:Nat):Int):=zNU (c:=15) (by omega) (by omega)
 have e2:QG .i64 ((t:Int)-(2:Int))=((t-2:Nat):Int):=zNU (c:=2) (by omega) (by omega)
 have e16:QG .i64 ((t:Int)-(16:Int))=((t-16:Nat):Int):=zNU (c:=16) (by omega) (by omega)
 have e7:QG .i64 ((t:Int)-(7:Int))=((t-7:Nat):Int):=zNU (c:=7) (by omega) (by omega)
 have c15:0≤((t-15:Nat):Int)∧((t-15:Nat):Int)<((64:Nat):Int):=by omega
 have c2:0≤((t-2:Nat):Int)∧((t-2:Nat):Int)<((64:Nat):Int):=by omega
 have c16:0≤((t-16:Nat):Int)∧((t-16:Nat):Int)<((64:Nat):Int):=by omega
 have c7:0≤((t-7:Nat):Int)∧((t-7:Nat):Int)<((64:Nat):Int):=by omega
 have c0:0≤(t:Int)∧(t:Int)<((64:Nat):Int):=by omega
 have cl:True∧t+1≤64:=⟨trivial,by omega⟩
 rw [xz (by omega:(t:Int)<64)]
 simp only [zd,e15,e2,e16,e7,ya c15,ya c2,ya c16,ya c7,ya c0,XZ,Ya,WB,zNw,xN (show t-15<w.length by omega),xN (show t-2<w.length by omega),xN (show t-16<w.length by omega),xN (show t-7<w.length by omega),zk,hw,zgY (show t<w.length by omega),yI (show t≤1000000000 by omega)]
 rw [ya cl]
 exact Eq.trans rfl rfl
theorem zOc{β:Type}(L:Nat){t:Nat}(h1:16≤t)(h2:t<64)(b2:List V){w:List Int}(hw:w.length=64)(kh:Int→List V→List V→Option β)(kx:List V→List V→Option β):zcR xg L (t:Int) b2 (row .u32 w) kh kx=kh ((t+1:Nat):Int) b2 (row .u32 (w.set t (s2 w t))):=
 (show zcR xg L (t:Int) b2 (row .u32 w) kh kx=zcg xh L (t:Int) b2 (row .u32 w) kh kx from rfl).trans (zI5 L h1 h2 b2 hw kh kx)
theorem zJx{β:Type}(L:Nat)(b2:List V)(kx:List V→List V→Option β):∀ (n m t:Nat) (w:List Int),w.length=64→16≤t→t+m=64→m<n→zch xh L kx n (t:Int) b2 (row .u32 w)=kx b2 (row .u32 (zzG m t w))
 | 0,m,t,w,_,_,_,h=>by omega
 | n+1,0,t,w,hw,h1,h2,h=>by
  unfold zch zcg
  rw [yq (by omega)]; exact Eq.trans rfl rfl
 | n+1,m+1,t,w,hw,h1,h2,h=>by
  unfold zch
  rw [zI5 L h1 (by omega) b2 hw]
  exact zJx L b2 kx n m (t+1) _ (by simpa using hw) (by omega) (by omega) (by omega)
theorem zGq{β:Type}(L:Nat)(b2:List V)(kx:List V→List V→Option β):∀ (n m t:Nat) (w:List Int),w.length=64→16≤t→t+m=64→m<n→zbK xg L kx n (t:Int) b2 (row .u32 w)=kx b2 (row .u32 (zzG m t w))
 | 0,m,t,w,_,_,_,h=>by omega
 | n+1,0,t,w,hw,h1,h2,h=>by
  unfold zbK zcR
  rw [yq (by omega)]; exact Eq.trans rfl rfl
 | n+1,m+1,t,w,hw,h1,h2,h=>by
  unfold zbK
  rw [zOc L h1 (by omega) b2 hw]
  exact zGq L b2 kx n m (t+1) _ (by simpa using hw) (by omega) (by omega) (by omega)
theorem zDD{n:Int}(h1:0≤n)(h2:n<4294967296):QG .u32 n=n:=ziL h1 (by omega)
theorem zB1{a b:Int}{n:Nat}(ha:0≤a)(hb:0≤b)(hb2:b<2 ^ n)(hs:a*2 ^ n+b<4294967296):ior .u32 (a*2 ^ n) b=a*2 ^ n+b:=by
 obtain ⟨x,rfl⟩:=Ym ha
 obtain ⟨y,rfl⟩:=Ym hb
 have hy:y<2 ^ n:=by exact_mod_cast hb2
 have e:((x:Int)*2 ^ n)=((x*2 ^ n:Nat):Int):=by rw [Int.natCast_mul,Yn]; rfl
 rw [e] at hs ⊢
 have hxy:x*2 ^ n+y<4294967296:=by omega
 unfold ior
 have q1:(BitVec.ofInt (X7 .u32) ((x*2 ^ n:Nat):Int)).toNat=x*2 ^ n:=by
  rw [BitVec.toNat_ofInt]
  show (((x*2 ^ n:Nat):Int) % ((2 ^ 32:Nat):Int)).toNat=_
  rw [← X8,XZ,XE (by omega)]
 have q2:(BitVec.ofInt (X7 .u32) (y:Int)).toNat=y:=by
  rw [BitVec.toNat_ofInt]
  show ((y:Int) % ((2 ^ 32:Nat):Int)).toNat=_
  rw [← X8,XZ,XE (by omega)]
 rw [BitVec.toNat_or,q1,q2,← Yk,← Nat.shiftLeft_add_eq_or_of_lt hy,Yk]
 rw [zDD (by omega) (by omega),Int.natCast_add]
theorem zyl{a:Int}(n:Nat)(hn:n≤32)(ha:0≤a)(hs:a*2 ^ n<4294967296):zct .u32 a (n:Int)=a*2 ^ n:=by
 unfold zct
 have:min (XJ (n:Int)) (X7 .u32)=n:=by
  rw [XZ]; exact Ye hn
 rw [this]
 have h0:0≤a*2 ^ n:=Int.mul_nonneg ha (Int.le_of_lt (Int.pow_pos (by decide)))
 exact zDD h0 hs
theorem zg9{l:List Int}(h:∀ x∈l,0≤x∧x≤255)(i:Nat):0≤l.getD i 0∧l.getD i 0≤255:=by
 rw [Ws]
 by_cases hi:i<l.length
 ·rw [Wc hi]; exact h _ (W2 hi)
 ·rw [Q3 (by omega)]; simp
theorem zfW{w:List Int}{t:Nat}(h:t<w.length)(x:Int):(w.set t x).getD t 0=x:=by
 simp [Ws,h]
theorem getD_set_ne{w:List Int}{t i:Nat}(h:t≠i)(x:Int):(w.set t x).getD i 0=w.getD i 0:=by
 simp [Ws,WE h]
def zxA(l:List Int)(t:Nat):Int:=
 ((l.getD (4*t) 0*256+l.getD (4*t+1) 0)*256+l.getD (4*t+2) 0)*256+l.getD (4*t+3) 0
theorem zT0{x y:Int}(h0:0≤x)(h1:x<16777216)(b0:0≤y)(b1:y≤255):ior .u32 (zct .u32 x (8:Int)) y=x*256+y:=by
 have e1:zct .u32 x (8:Int)=x*2 ^ 8:=zyl 8 (by decide) h0 (by omega)
 rw [e1,zB1 (n:=8) h0 b0 (by omega) (by omega)]; exact Eq.trans rfl rfl
theorem zWY{a b c d:Int}(ha:0≤a∧a≤255)(hb:0≤b∧b≤255)(hc:0≤c∧c≤255)(hd:0≤d∧d≤255):ior .u32 (ior .u32 (ior .u32 (zct .u32 a (24:Int)) (zct .u32 b (16:Int))) (zct .u32 c (8:Int))) d=((a*256+b)*256+c)*256+d:=by
 have e1:zct .u32 a (24:Int)=a*2 ^ 24:=zyl 24 (by decide) ha.1 (by omega)
 have e2:zct .u32 b (16:Int)=b*2 ^ 16:=zyl 16 (by decide) hb.1 (by omega)
 have e3:zct .u32 c (8:Int)=c*2 ^ 8:=zyl 8 (by decide) hc.1 (by omega)
 rw [e1,e2,e3,zB1 (n:=24) ha.1 (by omega) (by omega) (by omega)]
 rw [show a*2 ^ 24+b*2 ^ 16=(a*256+b)*2 ^ 16 by omega,zB1 (n:=16) (by omega) (by omega) (by omega) (by omega)]
 rw [show (a*256+b)*2 ^ 16+c*2 ^ 8=((a*256+b)*256+c)*2 ^ 8 by omega,zB1 (n:=8) (by omega) (by omega) (by omega) (by omega)]
 omega
theorem zOD{t:Nat}(h:t≤1000000):QG .i64 ((4:Int)*(t:Int))=((4*t:Nat):Int):=by
 rw [xr (by omega) (by omega)]; omega
theorem zEO{a b:Nat}(h:a≤1000000000)(h2:b≤1000000000):QG .i64 ((a:Int)+(b:Int))=((a+b:Nat):Int):=by
 rw [xr (by omega) (by omega)]; omega
theorem zUo{β:Type}(L:Nat){t j:Nat}(ht:t<16)(hj:j<4)(b2:List V){l w:List Int}(hl:l.length=64)(hb:∀ x∈l,0≤x∧x≤255)(hw:w.length=64){x:Int}(hx:w.getD t 0=x)(h0:0≤x)(h1:x<16777216)(kh:Int→Int→Int→List V→List V→List V→Option β)(kx:Int→List V→List V→List V→Option β):zae L (t:Int) (t:Int) (j:Int) (row .u8 l) b2 (row .u32 w) kh kx=kh (t:Int) (t:Int) ((j+1:Nat):Int) (row .u8 l) b2 (row .u32 (w.set t (x*256+l.getD (4*t+j) 0))):=by
 unfold zae
 have bb:=zg9 hb (4*t+j)
 have e4:QG .i64 ((4:Int)*(t:Int))=((4*t:Nat):Int):=zOD (by omega)
 have e5:QG .i64 (((4*t:Nat):Int)+(j:Int))=((4*t+j:Nat):Int):=zEO (by omega) (by omega)
 have e6:QG .u32 (l.getD (4*t+j) 0)=l.getD (4*t+j) 0:=ziL bb.1 (by omega)
 have e7:ior .u32 (zct .u32 x (8:Int)) (l.getD (4*t+j) 0)=x*256+l.getD (4*t+j) 0:=zT0 h0 h1 bb.1 bb.2
 have c0:0≤(t:Int)∧(t:Int)<((64:Nat):Int):=by omega
 have c5:0≤((4*t+j:Nat):Int)∧((4*t+j:Nat):Int)<((64:Nat):Int):=by omega
 have cl:True∧t+1≤64:=⟨trivial,by omega⟩
 rw [xz (by omega:(j:Int)<4)]
 simp only [zd,e4,e5,ya c0,ya c5,XZ,Ya,WB,xN (show t<w.length by omega),xN (show 4*t+j<l.length by omega),hx,e6,e7,zk,hw,zgY (show t<w.length by omega),yI (show j≤1000000000 by omega)]
 rw [ya cl]
theorem zyr{β:Type}(L n:Nat){t j:Nat}(ht:t<16)(hj:j<4)(b2:List V){l w:List Int}(hl:l.length=64)(hb:∀ x∈l,0≤x∧x≤255)(hw:w.length=64){x:Int}(hx:w.getD t 0=x)(h0:0≤x)(h1:x<16777216)(kx:Int→List V→List V→List V→Option β):yT L kx (n+1) (t:Int) (t:Int) (j:Int) (row .u8 l) b2 (row .u32 w)=yT L kx n (t:Int) (t:Int) ((j+1:Nat):Int) (row .u8 l) b2 (row .u32 (w.set t (x*256+l.getD (4*t+j) 0))):=
 (show yT L kx (n+1) (t:Int) (t:Int) (j:Int) (row .u8 l) b2 (row .u32 w)=zae L (t:Int) (t:Int) (j:Int) (row .u8 l) b2 (row .u32 w) (fun p4 p9 p12 b1 b2 b3=>yT L kx n p4 p9 p12 b1 b2 b3) kx from rfl).trans (zUo L ht hj b2 hl hb hw hx h0 h1 _ _)
theorem zUa{β:Type}(L n:Nat){t:Nat}(ht:t<16)(b2:List V){l w:List Int}(hl:l.length=64)(hb:∀ x∈l,0≤x∧x≤255)(hw:w.length=64)(hx:w.getD t 0=0)(kx:Int→List V→List V→List V→Option β):yT L kx (n+5) (t:Int) (t:Int) ((0:Nat):Int) (row .u8 l) b2 (row .u32 w)=kx (t:Int) (row .u8 l) b2 (row .u32 (w.set t (zxA l t))):=by
 have htw:t<w.length:=by omega
 have a0:=zg9 hb (4*t+0)
 have a1:=zg9 hb (4*t+1)
 have a2:=zg9 hb (4*t+2)
 have a3:=zg9 hb (4*t+3)
 refine (zyr L (n+4) ht (j:=0) (by decide) b2 hl hb hw hx (by decide) (by decide) kx).trans ?_
 refine (zyr L (n+3) ht (j:=1) (by decide) b2 hl hb (by simpa using hw) (zfW htw _) (by omega) (by omega) kx).trans ?_
 rw [Yl]
 refine (zyr L (n+2) ht (j:=2) (by decide) b2 hl hb (by simpa using hw) (zfW htw _) (by omega) (by omega) kx).trans ?_
 rw [Yl]
 refine (zyr L (n+1) ht (j:=3) (by decide) b2 hl hb (by simpa using hw) (zfW htw _) (by omega) (by omega) kx).trans ?_
 rw [Yl]
 have e:(((0*256+l.getD (4*t+0) 0)*256+l.getD (4*t+1) 0)*256+l.getD (4*t+2) 0)*256+l.getD (4*t+3) 0=zxA l t:=by
  unfold zxA; rw [Nat.add_zero,Int.zero_mul,Int.zero_add]
 rw [e]
 refine (show _=zae L (t:Int) (t:Int) ((3+1:Nat):Int) (row .u8 l) b2 (row .u32 (w.set t (zxA l t))) (fun p4 p9 p12 b1 b2 b3=>yT L kx n p4 p9 p12 b1 b2 b3) kx from rfl).trans ?_
 unfold zae
 rw [yq (by omega)]
def zAR:Nat→Nat→List Int→List Int→List Int
 | 0,_,_,w=>w
 | m+1,t,l,w=>zAR m (t+1) l (w.set t (zxA l t))
theorem zx8:∀ (m t:Nat) (l w:List Int),(zAR m t l w).length=w.length
 | 0,_,_,_=>rfl
 | m+1,t,l,w=>by rw [zAR,zx8 m]; simp
theorem zSl{β:Type}{L:Nat}(hL:5≤L){t:Nat}(ht:t<16)(b2:List V){l w:List Int}(hl:l.length=64)(hb:∀ x∈l,0≤x∧x≤255)(hw:w.length=64)(hx:w.getD t 0=0)(k0:List V→List V→Option β)(kh:Int→List V→List V→List V→Option β):zcp L (t:Int) (row .u8 l) b2 (row .u32 w) k0 kh=kh ((t+1:Nat):Int) (row .u8 l) b2 (row .u32 (w.set t (zxA l t))):=by
 obtain ⟨n,rfl⟩:=Yb hL
 unfold zcp zgm
 rw [xz (by omega:(t:Int)<16)]
 rw [Nat.add_comm 5 n]
 refine (zUa (n+5) n ht b2 hl hb hw hx _).trans ?_
 unfold zdW
 rw [zd,yI (by omega)]
theorem zKE{β:Type}{L:Nat}(hL:5≤L)(b2:List V){l:List Int}(hl:l.length=64)(hb:∀ x∈l,0≤x∧x≤255)(k0:List V→List V→Option β):∀ (n m t:Nat) (w:List Int),w.length=64→(∀ i,t≤i→w.getD i 0=0)→t+m=16→m<n→zcG L k0 n (t:Int) (row .u8 l) b2 (row .u32 w)=k0 b2 (row .u32 (zAR m t l w))
 | 0,m,t,w,_,_,_,h=>by omega
 | n+1,0,t,w,hw,hz,h1,h=>by
  unfold zcG zcp zgm
  rw [yq (by omega)]; exact Eq.trans rfl rfl
 | n+1,m+1,t,w,hw,hz,h1,h=>by
  unfold zcG
  rw [zSl hL (by omega) b2 hl hb hw (hz t (Nat.le_refl t))]
  exact zKE hL b2 hl hb k0 n m (t+1) _ (by simpa using hw) (fun i hi=>by rw [getD_set_ne (by omega)]; exact hz i (by omega)) (by omega) (by omega)
theorem zQy{β:Type}(L:Nat){t:Nat}(ht:t<16)(b2:List V){l w:List Int}(hl:l.length=64)(hb:∀ x∈l,0≤x∧x≤255)(hw:w.length=64)(kh:Int→List V→List V→List V→Option β)(k0:List V→List V→Option β):zcZ L (t:Int) (row .u8 l) b2 (row .u32 w) kh k0=kh ((t+1:Nat):Int) (row .u8 l) b2 (row .u32 (w.set t (zxA l t))):=by
 unfold zcZ
 have a0:=zg9 hb (4*t)
 have a1:=zg9 hb (4*t+1)
 have a2:=zg9 hb (4*t+2)
 have a3:=zg9 hb (4*t+3)
 have e4:QG .i64 ((4:Int)*(t:Int))=((4*t:Nat):Int):=zOD (by omega)
 have e1:QG .i64 (((4*t:Nat):Int)+(1:Int))=((4*t+1:Nat):Int):=zEO (b:=1) (by omega) (by omega)
 have e2:QG .i64 (((4*t:Nat):Int)+(2:Int))=((4*t+2:Nat):Int):=zEO (b:=2) (by omega) (by omega)
 have e3:QG .i64 (((4*t:Nat):Int)+(3:Int))=((4*t+3:Nat):Int):=zEO (b:=3) (by omega) (by omega)
 have c0:0≤(t:Int)∧(t:Int)<((64:Nat):Int):=by omega
 have c4:0≤((4*t:Nat):Int)∧((4*t:Nat):Int)<((64:Nat):Int):=by omega
 have c1:0≤((4*t+1:Nat):Int)∧((4*t+1:Nat):Int)<((64:Nat):Int):=by omega
 have c2:0≤((4*t+2:Nat):Int)∧((4*t+2:Nat):Int)<((64:Nat):Int):=by omega
 have c3:0≤((4*t+3:Nat):Int)∧((4*t+3:Nat):Int)<((64:Nat):Int):=by omega
 have cl:True∧t+1≤64:=⟨trivial,by omega⟩
 rw [xz (by omega:(t:Int)<16)]
 simp only [zd,e4,e1,e2,e3,ya c0,ya c4,ya c1,ya c2,ya c3,XZ,Ya,WB,xN (show 4*t<l.length by omega),xN (show 4*t+1<l.length by omega),xN (show 4*t+2<l.length by omega),xN (show 4*t+3<l.length by omega),ziL a0.1 (show l.getD (4*t) 0≤4294967295 by omega),ziL a1.1 (show l.getD (4*t+1) 0≤4294967295 by omega),ziL a2.1 (show l.getD (4*t+2) 0≤4294967295 by omega),ziL a3.1 (show l.getD (4*t+3) 0≤4294967295 by omega),zWY a0 a1 a2 a3,zk,hw,zgY (show t<w.length by omega),yI (show t≤1000000000 by omega)]
 rw [ya cl]
 exact Eq.trans rfl rfl
theorem zJb{β:Type}(L:Nat)(b2:List V){l:List Int}(hl:l.length=64)(hb:∀ x∈l,0≤x∧x≤255)(k0:List V→List V→Option β):∀ (n m t:Nat) (w:List Int),w.length=64→t+m=16→m<n→zb5 L k0 n (t:Int) (row .u8 l) b2 (row .u32 w)=k0 b2 (row .u32 (zAR m t l w))
 | 0,m,t,w,_,_,h=>by omega
 | n+1,0,t,w,hw,h1,h=>by
  unfold zb5 zcZ
  rw [yq (by omega)]; exact Eq.trans rfl rfl
 | n+1,m+1,t,w,hw,h1,h=>by
  unfold zb5
  rw [zQy L (by omega) b2 hl hb hw]
  exact zJb L b2 hl hb k0 n m (t+1) _ (by simpa using hw) (by omega) (by omega)
def zmz(l:List Int):List Int:=zzG 48 16 (zAR 16 0 l (We 64 0))
theorem zim(l:List Int):(zmz l).length=64:=by
 unfold zmz; rw [zLD,zx8]; rfl
theorem zwO(n:Nat)(k:IntKind)(x:Int):We n (V.sc (.int k x))=row k (We n x):=by simp [row]
theorem zRI(n i:Nat):(We n (0:Int)).getD i 0=0:=by
 rw [Ws]
 by_cases hi:i<n
 ·simp [hi]
 ·simp [hi]
theorem zJi{β:Type}{w:List Int}(hw:w.length=64)(z:List Int)(hz:z.length=64)(k:List V→Option β) :
  chk (0+64≤(XI (row .u32 w))) (chk ((XI (XK 64 (row .u32 w)))=64∧0+64≤(XI (row .u32 z))) (
   lt (xd (row .u32 z) 0 (XK 64 (row .u32 w))) fun r41=>chk (0=0∧(XI r41)=64∧64≠0) (k r41)))=k (row .u32 w):=by
 have e:XK 64 (row .u32 w)=row .u32 w:=Xy (by rw [zk]; omega)
 rw [zd,e,zai (by rw [zk,zk]; omega)]
 rw [ya (by rw [zk]; omega),ya ⟨by rw [zk]; omega,by rw [zk]; omega⟩,ya ⟨rfl,by rw [zk]; omega,by decide⟩]
theorem zMr{β:Type}{L:Nat}(hL:100≤L){l:List Int}(hl:l.length=64)(hb:∀ x∈l,0≤x∧x≤255)(k:List V→Option β):xy β L (row .u8 l) k=k (row .u32 (zmz l)):=by
 unfold xy zkU zpu
 rw [zwO]
 refine (zKE (by omega) _ hl hb _ L 16 0 _ rfl (fun i _=>?_) rfl (by omega)).trans ?_
 ·exact zRI 64 i
 unfold zey zia
 refine (zJx L _ _ L 48 16 _ (by rw [zx8]; rfl) (by omega) rfl (by omega)).trans ?_
 unfold zhq
 exact zJi (zim l) _ rfl k
theorem zKA{β:Type}{L:Nat}(hL:100≤L){l:List Int}(hl:l.length=64)(hb:∀ x∈l,0≤x∧x≤255)(k:List V→Option β):zu β L (row .u8 l) k=k (row .u32 (zmz l)):=by
 unfold zu zi4 zmL
 rw [zwO]
 refine (zJb L _ hl hb _ L 16 0 _ rfl rfl (by omega)).trans ?_
 unfold zdL zgG
 refine (zGq L _ _ L 48 16 _ (by rw [zx8]; rfl) (by omega) rfl (by omega)).trans ?_
 unfold zf8
 exact zJi (zim l) _ rfl k
end
section
def kc:List Int:=gk_sha_k.map fun v=>match v with | .sc (.int _ n)=>n | _=>0
theorem zRi:gk_sha_k=row .u32 kc:=rfl
theorem zQ6:kc.length=64:=rfl
def t1(e f g h kk ww:Int):Int:=
 QG .u32 (QG .u32 (QG .u32 (QG .u32 (h+zcc .u32 (zcc .u32 (zee e 6) (zee e 11)) (zee e 25))+zcc .u32 (zep .u32 e f) (zep .u32 (zLh .u32 e) g))+kk)+ww)
def t2(a b c:Int):Int:=
 QG .u32 (zcc .u32 (zcc .u32 (zee a 2) (zee a 13)) (zee a 22)+zcc .u32 (zcc .u32 (zep .u32 a b) (zep .u32 a c)) (zep .u32 b c))
def zsd{γ:Type}(w:List Int)(κ:Int→Int→Int→Int→Int→Int→Int→Int→γ):Nat→Nat→Int→Int→Int→Int→Int→Int→Int→Int→γ
 | 0,_,a,b,c,d,e,f,g,h=>κ a b c d e f g h
 | m+1,t,a,b,c,d,e,f,g,h=>zsd w κ m (t+1) (QG .u32 (t1 e f g h (kc.getD t 0) (w.getD t 0)+t2 a b c)) a b c (QG .u32 (d+t1 e f g h (kc.getD t 0) (w.getD t 0))) e f g
theorem zuL{γ δ:Type}(u:γ→δ)(w:List Int)(κ:Int→Int→Int→Int→Int→Int→Int→Int→γ):∀ (m t:Nat) (a b c d e f g h:Int),zsd w (fun a b c d e f g h=>u (κ a b c d e f g h)) m t a b c d e f g h=u (zsd w κ m t a b c d e f g h)
 | 0,_,_,_,_,_,_,_,_,_=>rfl
 | m+1,t,a,b,c,d,e,f,g,h=>zuL u w κ m (t+1) _ _ _ _ _ _ _ _
theorem zDv{γ:Type}(u:γ)(w:List Int):∀ (m t:Nat) (a b c d e f g h:Int),zsd w (fun _ _ _ _ _ _ _ _=>u) m t a b c d e f g h=u
 | 0,_,_,_,_,_,_,_,_,_=>rfl
 | m+1,t,a,b,c,d,e,f,g,h=>zDv u w m (t+1) _ _ _ _ _ _ _ _
theorem zPm{β:Type}(L:Nat){t:Nat}(ht:t<64)(a b c d e f g h:Int)(b2:List V)(z0 z1 z2 z3 z4 z5 z6 z7:Int){w:List Int}(hw:w.length=64)(kh:zhy β)(kx:ziZ β):zc7 xh L a b c d e f g h (t:Int) b2 z0 z1 z2 z3 z4 z5 z6 z7 (row .u32 w) kh kx=kh (QG .u32 (t1 e f g h (kc.getD t 0) (w.getD t 0)+t2 a b c)) a b c (QG .u32 (d+t1 e f g h (kc.getD t 0) (w.getD t 0))) e f g ((t+1:Nat):Int) b2 z0 z1 z2 z3 z4 z5 z6 z7 (row .u32 w):=by
 unfold zc7
 have c0:0≤(t:Int)∧(t:Int)<((64:Nat):Int):=by omega
 have ek:∀ κ:Int→Option β,cI .u32 (List.drop t gk_sha_k) 0 κ=κ (kc.getD t 0):=by
  intro κ
  rw [zRi,zSz,xN (by rw [XS,zQ6]; omega)]
  simp [Ws]
 rw [xz (by omega:(t:Int)<64)]
 simp only [zd,ya c0,zNw,XZ,Ya,WB,ek,xN (show t<w.length by omega),yI (show t≤1000000000 by omega)]
 exact Eq.trans rfl rfl
theorem zOM{β:Type}(L:Nat){t:Nat}(ht:t<64)(a b c d e f g h:Int)(b2:List V)(z0 z1 z2 z3 z4 z5 z6 z7:Int){w:List Int}(hw:w.length=64)(kh:zgN β)(kx:zha β):zcV xg L a b c d e f g h (t:Int) b2 z0 z1 z2 z3 z4 z5 z6 z7 (row .u32 w) gk_sha_k kh kx=kh (QG .u32 (t1 e f g h (kc.getD t 0) (w.getD t 0)+t2 a b c)) a b c (QG .u32 (d+t1 e f g h (kc.getD t 0) (w.getD t 0))) e f g ((t+1:Nat):Int) b2 z0 z1 z2 z3 z4 z5 z6 z7 (row .u32 w) gk_sha_k:=by
 unfold zcV
 have c0:0≤(t:Int)∧(t:Int)<((64:Nat):Int):=by omega
 have ek:∀ κ:Int→Option β,cI .u32 gk_sha_k t κ=κ (kc.getD t 0):=by
  intro κ
  rw [zRi,xN (by rw [zQ6]; omega)]
 rw [xz (by omega:(t:Int)<64)]
 simp only [zd,ya c0,zRE,XZ,Ya,WB,ek,xN (show t<w.length by omega),yI (show t≤1000000000 by omega)]
 exact Eq.trans rfl rfl
theorem zI7{β:Type}(L:Nat)(b2:List V)(z0 z1 z2 z3 z4 z5 z6 z7:Int){w:List Int}(hw:w.length=64)(kx:ziZ β):∀ (n m t:Nat) (a b c d e f g h:Int),t+m=64→m<n→zb1 xh L kx n a b c d e f g h (t:Int) b2 z0 z1 z2 z3 z4 z5 z6 z7 (row .u32 w)=zsd w (fun a b c d e f g h=>kx a b c d e f g h b2 z0 z1 z2 z3 z4 z5 z6 z7) m t a b c d e f g h
 | 0,m,t,_,_,_,_,_,_,_,_,_,h=>by omega
 | n+1,0,t,a,b,c,d,e,f,g,h,h1,h2=>by
  unfold zb1 zc7
  rw [yq (by omega)]; exact Eq.trans rfl rfl
 | n+1,m+1,t,a,b,c,d,e,f,g,h,h1,h2=>by
  unfold zb1
  rw [zPm L (by omega) a b c d e f g h b2 z0 z1 z2 z3 z4 z5 z6 z7 hw]
  exact zI7 L b2 z0 z1 z2 z3 z4 z5 z6 z7 hw kx n m (t+1) _ _ _ _ _ _ _ _ (by omega) (by omega)
theorem zFd{β:Type}(L:Nat)(b2:List V)(z0 z1 z2 z3 z4 z5 z6 z7:Int){w:List Int}(hw:w.length=64)(kx:zha β):∀ (n m t:Nat) (a b c d e f g h:Int),t+m=64→m<n→zbL xg L kx n a b c d e f g h (t:Int) b2 z0 z1 z2 z3 z4 z5 z6 z7 (row .u32 w) gk_sha_k=zsd w (fun a b c d e f g h=>kx a b c d e f g h b2 z0 z1 z2 z3 z4 z5 z6 z7) m t a b c d e f g h
 | 0,m,t,_,_,_,_,_,_,_,_,_,h=>by omega
 | n+1,0,t,a,b,c,d,e,f,g,h,h1,h2=>by
  unfold zbL zcV
  rw [yq (by omega)]; exact Eq.trans rfl rfl
 | n+1,m+1,t,a,b,c,d,e,f,g,h,h1,h2=>by
  unfold zbL
  rw [zOM L (by omega) a b c d e f g h b2 z0 z1 z2 z3 z4 z5 z6 z7 hw]
  exact zFd L b2 z0 z1 z2 z3 z4 z5 z6 z7 hw kx n m (t+1) _ _ _ _ _ _ _ _ (by omega) (by omega)
def zsa(hs:List Int)(a b c d e f g h:Int):List Int:=
 [QG .u32 (hs.getD 0 0+a),QG .u32 (hs.getD 1 0+b),QG .u32 (hs.getD 2 0+c),QG .u32 (hs.getD 3 0+d),QG .u32 (hs.getD 4 0+e),QG .u32 (hs.getD 5 0+f),QG .u32 (hs.getD 6 0+g),QG .u32 (hs.getD 7 0+h)]
def zye(hs l:List Int):List Int:=
 zsd (zmz l) (zsa hs) 64 0 (hs.getD 0 0) (hs.getD 1 0) (hs.getD 2 0) (hs.getD 3 0) (hs.getD 4 0) (hs.getD 5 0) (hs.getD 6 0) (hs.getD 7 0)
theorem zmM(hs l:List Int):(zye hs l).length=8:=
 ((zuL XI (zmz l) (zsa hs) 64 0 _ _ _ _ _ _ _ _).symm).trans (zDv 8 (zmz l) 64 0 _ _ _ _ _ _ _ _)
theorem zSq{β:Type}(L:Nat){hs:List Int}(hh:hs.length=8)(k:List V→Option β)(a b c d e f g h z0 z1 z2 z3 z4 z5 z6 z7:Int):zd0 L a b c d e f g h (row .u32 hs) z0 z1 z2 z3 z4 z5 z6 z7 k=k (row .u32 (zsa hs a b c d e f g h)):=by
 unfold zd0
 simp only [zd,xN (show 0<hs.length by omega),xN (show 1<hs.length by omega),xN (show 2<hs.length by omega),xN (show 3<hs.length by omega),xN (show 4<hs.length by omega),xN (show 5<hs.length by omega),xN (show 6<hs.length by omega),xN (show 7<hs.length by omega)]
 exact (ya ⟨trivial,rfl,by decide⟩ _).trans rfl
theorem zP6{β:Type}(L:Nat){hs:List Int}(hh:hs.length=8)(k:List V→Option β)(a b c d e f g h z0 z1 z2 z3 z4 z5 z6 z7:Int):zdm L a b c d e f g h (row .u32 hs) z0 z1 z2 z3 z4 z5 z6 z7 k=k (row .u32 (zsa hs a b c d e f g h)):=by
 unfold zdm
 simp only [zd,xN (show 0<hs.length by omega),xN (show 1<hs.length by omega),xN (show 2<hs.length by omega),xN (show 3<hs.length by omega),xN (show 4<hs.length by omega),xN (show 5<hs.length by omega),xN (show 6<hs.length by omega),xN (show 7<hs.length by omega)]
 exact (ya ⟨trivial,rfl,by decide⟩ _).trans rfl
theorem zMv{β:Type}{L:Nat}(hL:100≤L){hs l:List Int}(hh:hs.length=8)(hl:l.length=64)(hb:∀ x∈l,0≤x∧x≤255)(k:List V→Option β):yp β L (row .u32 hs) (row .u8 l) k=k (row .u32 (zye hs l)):=by
 unfold yp zkY zpN
 have e1:XK 64 (row .u8 l)=row .u8 l:=Xy (by rw [zk]; omega)
 rw [ya (by rw [zk]; omega),e1]
 refine (zMr hL hl hb _).trans ?_
 rw [ya ⟨by rw [zk,zim],by decide⟩,zd,zai (by rw [zk,zim]; rfl)]
 rw [xN (show 0<hs.length by omega),xN (show 1<hs.length by omega),xN (show 2<hs.length by omega),xN (show 3<hs.length by omega),xN (show 4<hs.length by omega),xN (show 5<hs.length by omega),xN (show 6<hs.length by omega),xN (show 7<hs.length by omega)]
 refine (zI7 L (row .u32 hs) 0 0 0 0 0 0 0 0 (zim l) _ L 64 0 _ _ _ _ _ _ _ _ rfl (by omega)).trans ?_
 simp only [zSq L hh]
 exact zuL (fun r=>k (row .u32 r)) (zmz l) (zsa hs) 64 0 _ _ _ _ _ _ _ _
theorem zK1{β:Type}(L:Nat)(k:List V→Option β):zt β L k=k gk_sha_k:=by
 unfold zt zls
 rw [zd]
 exact (ya ⟨rfl,rfl,by decide⟩ _).trans rfl
theorem zMm{β:Type}{L:Nat}(hL:100≤L){hs l:List Int}(hh:hs.length=8)(hl:l.length=64)(hb:∀ x∈l,0≤x∧x≤255)(k:List V→Option β):ym β L (row .u32 hs) (row .u8 l) k=k (row .u32 (zye hs l)):=by
 unfold ym ziC zmI
 have e1:XK 64 (row .u8 l)=row .u8 l:=Xy (by rw [zk]; omega)
 rw [ya (by rw [zk]; omega),e1]
 refine (zKA hL hl hb _).trans ?_
 refine (zK1 L _).trans ?_
 rw [ya ⟨by rw [zk,zim],by decide⟩,zd,zai (cs:=We 64 (Qc (0:Int))) (new:=row .u32 (zmz l)) (by rw [zk,zim]; rfl)]
 rw [ya ⟨rfl,by decide⟩,zd,zai (cs:=We 64 (Qc (0:Int))) (new:=gk_sha_k) rfl]
 rw [xN (show 0<hs.length by omega),xN (show 1<hs.length by omega),xN (show 2<hs.length by omega),xN (show 3<hs.length by omega),xN (show 4<hs.length by omega),xN (show 5<hs.length by omega),xN (show 6<hs.length by omega),xN (show 7<hs.length by omega)]
 refine (zFd L (row .u32 hs) 0 0 0 0 0 0 0 0 (zim l) _ L 64 0 _ _ _ _ _ _ _ _ rfl (by omega)).trans ?_
 simp only [zP6 L hh]
 exact zuL (fun r=>k (row .u32 r)) (zmz l) (zsa hs) 64 0 _ _ _ _ _ _ _ _
end
section
def zs(n:Nat):Nat:=(64-(n+9) % 64) % 64
def pb(n i:Nat):Int:=QG .u8 (zcS .u64 (QG .u64 ((8:Int)*(n:Int))) ((56-8*i:Nat):Int))
def pbs(n:Nat):Nat→Nat→List Int
 | 0,_=>[]
 | m+1,i=>pb n i::pbs n m (i+1)
theorem zMU(n:Nat):∀ m i:Nat,(pbs n m i).length=m
 | 0,_=>rfl
 | m+1,i=>by rw [pbs,XQ,zMU n m]
theorem zy3(n:Int):0≤QG .u8 n∧QG .u8 n≤255:=by
 unfold QG
 simp only [IntKind.signed,Bool.false_and,WP,if_false]
 have h1:=Int.emod_nonneg n (show (2:Int) ^ X7 .u8≠0 by decide)
 have h2:=Int.emod_lt_of_pos n (show (0:Int)<2 ^ X7 .u8 by decide)
 exact ⟨h1,Int.le_of_lt_add_one h2⟩
theorem zPC(n:Nat):∀ m i:Nat,∀ x∈pbs n m i,0≤x∧x≤255
 | 0,_=>fun x h=>by simp [pbs] at h
 | m+1,i=>fun x h=>by
  rw [pbs,Q9] at h
  rcases h with rfl | h
  ·exact zy3 _
  ·exact zPC n m (i+1) x h
def zeL(n:Nat):List Int:=(128::We (zs n) 0)++pbs n 8 0
theorem ztk(n:Nat):(zeL n).length=9+zs n:=by simp [zeL,zMU]; omega
theorem zTX(n:Nat):∀ x∈zeL n,0≤x∧x≤255:=by
 intro x hx
 rw [zeL,QD,Q9] at hx
 rcases hx with (rfl | hx) | hx
 ·exact ⟨by decide,by decide⟩
 ·rw [List.eq_of_mem_replicate hx]; exact ⟨by decide,by decide⟩
 ·exact zPC n 8 0 x hx
theorem zGb(n:Nat):zs n<64:=Nat.mod_lt _ (by decide)
theorem zRr(n:Nat):(n+9+zs n) % 64=0:=by unfold zs; omega
theorem zU2(n k:Nat)(h:k<zs n):(n+9+k) % 64≠0:=by unfold zs at h; omega
theorem zxG(x:Int):yf 1 1 [V.sc (.int .u8 x)]=ze .u8 [x]:=rfl
theorem zSx{β:Type}(L:Nat){n i:Nat}(hi:i<8)(b:Nat){acc:List Int}(ha:acc.length≤1000000)(kh:Int→Ls→Int→Nat→Option β)(kx:Ls→Nat→Option β):zeR L (n:Int) (ze .u8 acc) (i:Int) b kh kx=kh (n:Int) (ze .u8 (acc++[pb n i])) ((i+1:Nat):Int) b:=by
 unfold zeR
 have e8:QG .i64 ((8:Int)*(i:Int))=((8*i:Nat):Int):=by rw [xr (by omega) (by omega)]; omega
 have e56:QG .i64 ((56:Int)-((8*i:Nat):Int))=((56-8*i:Nat):Int):=by rw [xr (by omega) (by omega)]; omega
 rw [xz (by omega:(i:Int)<8)]
 simp only [zd,e8,e56,zxG,zpD,yI (show i≤1000000000 by omega)]
 rw [ya (by omega),ya (by simp [xG,zg]; omega)]
 exact Eq.trans rfl rfl
theorem zKB{β:Type}(L n b:Nat)(kx:Ls→Nat→Option β):∀ (f m i:Nat) (acc:List Int),i+m=8→m<f→acc.length≤900000+i→zca L kx f (n:Int) (ze .u8 acc) (i:Int) b=kx (ze .u8 (acc++pbs n m i)) b
 | 0,m,i,acc,_,h,_=>by omega
 | f+1,0,i,acc,h1,h2,h3=>by
  unfold zca zeR
  rw [yq (by omega),pbs,XV]
 | f+1,m+1,i,acc,h1,h2,h3=>by
  unfold zca
  rw [zSx L (by omega) b (by omega)]
  refine (zKB L n b kx f m (i+1) _ (by omega) (by omega) (by simp; omega)).trans ?_
  rw [pbs,Wu]; exact Eq.trans rfl rfl
theorem zV8{β:Type}{L:Nat}(hL:100≤L){n:Nat}(hn:n≤100000000)(k k1:Ls→Option β):xM β L (n:Int) k k1=k1 (ze .u8 (zeL n)):=by
 unfold xM zuv zAQ
 have z64:=zGb n
 have e0:QG .u64 ((n:Int)+(9:Int))=((n+9:Nat):Int):=by rw [zaQ (by omega) (by omega)]; omega
 have e1:XN ((n+9:Nat):Int) (64:Int)=(((n+9) % 64:Nat):Int):=(Yf (n+9) 64).symm
 have e2:QG .u64 ((64:Int)-(((n+9) % 64:Nat):Int))=((64-(n+9) % 64:Nat):Int):=by rw [zaQ (by omega) (by omega)]; omega
 have e3:XN ((64-(n+9) % 64:Nat):Int) (64:Int)=((zs n:Nat):Int):=(Yf (64-(n+9) % 64) 64).symm
 have e4:QG .u64 ((1:Int)+((zs n:Nat):Int))=((1+zs n:Nat):Int):=by rw [zaQ (by omega) (by omega)]; omega
 have e5:QG .u64 ((9:Int)+((zs n:Nat):Int))=((9+zs n:Nat):Int):=by rw [zaQ (by omega) (by omega)]; omega
 have e6:List.flatten (We (9+zs n) [V.sc (.int .u8 (0:Int))])=row .u8 (We (9+zs n) 0):=by
  rw [List.flatten_replicate_singleton,zwO]
 have e7:xd (row .u8 (We (9+zs n) 0)) 0 [V.sc (.int .u8 (128:Int))]=row .u8 (128::We (8+zs n) 0):=by
  rw [zgY (by simp; omega),show 9+zs n=(8+zs n)+1 by omega,List.replicate_succ,List.set_cons_zero]
 simp only [zd,e0,e1,e2,e3,e4,e5,XZ,e6,e7]
 rw [ya ⟨by omega,by omega,by simp [zg]; omega,by simp [zg]; omega⟩,ya ⟨by omega,by omega⟩,ya ⟨trivial,by simp [zk]; omega⟩]
 obtain ⟨L',rfl⟩:=Yb hL
 rw [show 100+L'=(99+L')+1 by omega]
 refine (show _=zis (99+L'+1) (n:Int) (1+zs n) (0:Int) (row .u8 (128::We (8+zs n) 0)) (fun p0 p4 p18 b15=>zca (99+L'+1) (fun p4 b15=>zeE (99+L'+1) p4 b15 k1) (99+L') p0 p4 p18 b15) (fun p4l b15=>zj4 (99+L'+1) p4l b15 k) from rfl).trans ?_
 unfold zis
 have e8:QG .i64 ((8:Int)*(0:Int))=((8*0:Nat):Int):=by rw [xr (by omega) (by omega)]; omega
 have e56:QG .i64 ((56:Int)-((8*0:Nat):Int))=((56-8*0:Nat):Int):=by rw [xr (by omega) (by omega)]; omega
 have e9:QG .i64 ((0:Int)+(1:Int))=((1:Nat):Int):=yI (i:=0) (by omega)
 have ec:yf 1 (1+zs n) (row .u8 (128::We (8+zs n) 0))=ze .u8 (128::We (zs n) 0):=by
  rw [zr9 _ _ _ (by simp; omega),show 1+zs n=zs n+1 by omega,List.take_succ_cons,List.take_replicate,show min (zs n) (8+zs n)=zs n by omega]
 rw [xz (by decide:(0:Int)<8)]
 simp only [zd,e8,e56,e9,zxG,ec,zpD]
 rw [ya ⟨trivial,by simp [zk]; omega,by simp [zk]⟩,ya (by omega),ya (by simp [xG,zg]; omega)]
 refine (zKB _ n _ _ (99+L') 7 1 _ rfl (by omega) (by simp; omega)).trans ?_
 unfold zeE zeL
 rw [pbs,Wu]; exact Eq.trans rfl rfl
theorem zFt{β:Type}(L:Nat){n:Nat}(hn:n≤100000000)(kx:Int→Ls→Option β):∀ (f m k:Nat),k+m=zs n→m<f→zgU L kx f (n:Int) (ze .u8 (128::We k 0))=kx (n:Int) (ze .u8 (128::We (zs n) 0))
 | 0,m,k,_,h=>by omega
 | f+1,m,k,h1,h2=>by
  have z64:=zGb n
  unfold zgU znt
  have e0:QG .u64 (((ze .u8 (128::We k 0)).length:Nat):Int)=((k+1:Nat):Int):=by
   rw [xG,XQ,XW,zaQ (by omega) (by omega)]
  have e1:QG .u64 ((n:Int)+((k+1:Nat):Int))=((n+(k+1):Nat):Int):=by rw [zaQ (by omega) (by omega)]; omega
  have e2:QG .u64 (((n+(k+1):Nat):Int)+(8:Int))=((n+9+k:Nat):Int):=by rw [zaQ (by omega) (by omega)]; omega
  have e3:XN ((n+9+k:Nat):Int) (64:Int)=(((n+9+k) % 64:Nat):Int):=(Yf (n+9+k) 64).symm
  simp only [zd,e0,e1,e2,e3]
  rw [xm]
  match m,h1,h2 with
  | 0,h1,h2=>
   have:k=zs n:=by omega
   subst this
   rw [if_pos (by rw [zRr]; rfl)]
  | m+1,h1,h2=>
   have hz:=zU2 n k (by omega)
   rw [if_neg (by omega)]
   rw [zxG,zpD]
   rw [ya (by simp [xG,zg]; omega)]
   have e4:(128::We k (0:Int))++[0]=128::We (k+1) 0:=by
    rw [Yc,List.replicate_succ']
   rw [e4]
   exact zFt L hn kx f m (k+1) (by omega) (by omega)
theorem zPu{β:Type}(L:Nat){n i:Nat}(hi:i<8){acc:List Int}(ha:acc.length≤1000000)(kh:Int→Ls→Int→Option β)(kx:Ls→Option β):zfk L (n:Int) (ze .u8 acc) ((7:Int)-(i:Int)) kh kx=kh (n:Int) (ze .u8 (acc++[pb n i])) ((7:Int)-((i+1:Nat):Int)):=by
 unfold zfk
 have e8:QG .i64 ((8:Int)*((7:Int)-(i:Int)))=((56-8*i:Nat):Int):=by rw [xr (by omega) (by omega)]; omega
 have e1:QG .i64 (((7:Int)-(i:Int))-(1:Int))=(7:Int)-((i+1:Nat):Int):=by rw [xr (by omega) (by omega)]; omega
 rw [xz (by omega:(7:Int)-(i:Int)≥0)]
 simp only [zd,e8,e1,zxG,zpD]
 rw [ya (by omega),ya (by simp [xG,zg]; omega)]
 exact Eq.trans rfl rfl
theorem zIP{β:Type}(L n:Nat)(kx:Ls→Option β):∀ (f m i:Nat) (acc:List Int),i+m=8→m<f→acc.length≤900000+i→zdP L kx f (n:Int) (ze .u8 acc) ((7:Int)-(i:Int))=kx (ze .u8 (acc++pbs n m i))
 | 0,m,i,acc,_,h,_=>by omega
 | f+1,0,i,acc,h1,h2,h3=>by
  unfold zdP zfk
  rw [yq (by omega),pbs,XV]
 | f+1,m+1,i,acc,h1,h2,h3=>by
  unfold zdP
  rw [zPu L (by omega) (by omega)]
  refine (zIP L n kx f m (i+1) _ (by omega) (by omega) (by simp; omega)).trans ?_
  rw [pbs,Wu]; exact Eq.trans rfl rfl
theorem zUr{β:Type}{L:Nat}(hL:100≤L){n:Nat}(hn:n≤100000000)(k:Ls→Option β):xC β L (n:Int) k=k (ze .u8 (zeL n)):=by
 unfold xC zp0 zvx
 have z64:=zGb n
 refine (zFt L hn _ L (zs n) 0 (by omega) (by omega)).trans ?_
 unfold zg6 zlr
 refine (zIP L n _ L 8 0 _ rfl (by omega) (by simp; omega)).trans ?_
 unfold zjK zeL
 exact Eq.trans rfl rfl
theorem zRh{β:Type}{L:Nat}(hL:100≤L){a b:List Int}(ha:a.length≤1000000000)(hb:b.length≤1000000000)(k:Ls→Option β):yL β L (yf 1 2 [V.sl 1 (ze .u8 a),V.sl 1 (ze .u8 b)]) k=k (ze .u8 (a++b)):=by
 unfold yL zuF zAp
 obtain ⟨L',rfl⟩:=Yb hL
 have es:yf 1 2 [V.sl 1 (ze .u8 a),V.sl 1 (ze .u8 b)]=[[V.sl 1 (ze .u8 a)],[V.sl 1 (ze .u8 b)]]:=rfl
 rw [es,show 100+L'=(97+L')+1+1+1 by omega]
 refine (show _=zc8 (97+L'+1+1+1) [] [[V.sl 1 (ze .u8 a)],[V.sl 1 (ze .u8 b)]] ((2:Nat):Int) ((0:Nat):Int) (fun p3 p6 p7 p8=>zf2 (97+L'+1+1+1) _ (97+L'+1+1) p3 p6 p7 p8) (fun p3=>zeo (97+L'+1+1+1) p3 k) from rfl).trans ?_
 unfold zc8
 rw [xz (by decide),zef (c:=[V.sl 1 (ze .u8 a)]) rfl,zBP (sz:=1) (es:=ze .u8 a) rfl,ya (by simp [xG,zg]; omega),zd,XT,zd,yI (i:=0) (by omega)]
 refine (show _=zc8 (97+L'+1+1+1) (ze .u8 a) [[V.sl 1 (ze .u8 a)],[V.sl 1 (ze .u8 b)]] ((2:Nat):Int) ((1:Nat):Int) (fun p3 p6 p7 p8=>zf2 (97+L'+1+1+1) _ (97+L'+1) p3 p6 p7 p8) (fun p3=>zeo (97+L'+1+1+1) p3 k) from rfl).trans ?_
 unfold zc8
 rw [xz (by decide),zef (c:=[V.sl 1 (ze .u8 b)]) rfl,zBP (sz:=1) (es:=ze .u8 b) rfl,ya (by simp [xG,zg]; omega),zd,zpD,zd,yI (i:=1) (by omega)]
 refine (show _=zc8 (97+L'+1+1+1) (ze .u8 (a++b)) [[V.sl 1 (ze .u8 a)],[V.sl 1 (ze .u8 b)]] ((2:Nat):Int) ((2:Nat):Int) (fun p3 p6 p7 p8=>zf2 (97+L'+1+1+1) _ (97+L') p3 p6 p7 p8) (fun p3=>zeo (97+L'+1+1+1) p3 k) from rfl).trans ?_
 unfold zc8
 rw [yq (by decide)]
 unfold zeo
 exact Eq.trans rfl rfl
end
section
def init0:List Int:=gk_sha_initial.map fun v=>match v with | .sc (.int _ n)=>n | _=>0
theorem zud:init0.length=8:=rfl
def zAV:Nat→Nat→List Int→List Int→List Int
 | 0,_,_,h=>h
 | m+1,i,p,h=>zAV m (i+1) p (zye h ((p.drop (64*i)).take 64))
theorem zD4:∀ (m i:Nat) (p h:List Int),h.length=8→(zAV m i p h).length=8
 | 0,_,_,_,hh=>hh
 | m+1,i,p,h,hh=>by rw [zAV]; exact zD4 m _ _ _ (zmM _ _)
theorem zBp(k:IntKind):∀ l:List Int,List.flatten (ze k l)=row k l
 | []=>rfl
 | x::l=>by
  have:=zBp k l
  simp only [ze,row] at this
  simp only [ze,row,QW,List.flatten_cons,this,List.singleton_append]
theorem zsq{p:List Int}{i:Nat}(h:64*(i+1)≤p.length):((p.drop (64*i)).take 64).length=64:=by
 rw [Ww,XS]; omega
theorem zRg{p:List Int}(hp:∀ x∈p,0≤x∧x≤255)(i:Nat):∀ x∈(p.drop (64*i)).take 64,0≤x∧x≤255:=
 fun x hx=>hp x (WU (WV hx))
theorem zNP(p:List Int)(n:Nat):XK ((ze .u8 p).length-n) (List.drop n (ze .u8 p))=ze .u8 (p.drop n):=by
 rw [zuP,Xy (by rw [xG,xG,XS]; omega)]
theorem zSi{β:Type}{L:Nat}(hL:100≤L){p:List Int}(hp:∀ x∈p,0≤x∧x≤255)(hs:p.length≤1000000000){N i:Nat}(hi:i<N)(hN:64*(i+1)≤p.length)(b2:List V){h:List Int}(hh:h.length=8)(kh:Ls→Int→Int→List V→List V→Option β)(kx:List V→List V→Option β):zg0 yp L (ze .u8 p) (N:Int) (i:Int) b2 (row .u32 h) kh kx=kh (ze .u8 p) (N:Int) ((i+1:Nat):Int) b2 (row .u32 (zye h ((p.drop (64*i)).take 64))):=by
 unfold zg0
 have e9:QG .i64 ((64:Int)*(i:Int))=((64*i:Nat):Int):=by rw [xr (by omega) (by omega)]; omega
 have e8:XK 8 (row .u32 h)=row .u32 h:=Xy (by rw [zk]; omega)
 have ec:XK 64 (row .u8 ((p.drop (64*i)).take 64))=row .u8 ((p.drop (64*i)).take 64):=Xy (by rw [zk,zsq hN]; omega)
 rw [xz (by omega:(i:Int)<(N:Int)),ya (by rw [zk]; omega),zd,e9,XZ,zNP,zke,zBp,e8,ec]
 rw [ya ⟨by omega,by rw [xG]; omega⟩,ya (by rw [xG,XS]; omega)]
 refine (zMv hL hh (zsq hN) (zRg hp i) _).trans ?_
 rw [ya ⟨by rw [zk,zmM],by rw [zk]; omega⟩,zd,zd,zai (by rw [zk,zk,zmM,hh]),yI (by omega)]
theorem zKK{β:Type}{L:Nat}(hL:100≤L){p:List Int}(hp:∀ x∈p,0≤x∧x≤255)(hs:p.length≤1000000000){N:Nat}(hN:64*N≤p.length)(b2:List V)(kx:List V→List V→Option β):∀ (f m i:Nat) (h:List Int),h.length=8→i+m=N→m<f→ze7 yp L kx f (ze .u8 p) (N:Int) (i:Int) b2 (row .u32 h)=kx b2 (row .u32 (zAV m i p h))
 | 0,m,i,h,_,_,hf=>by omega
 | f+1,0,i,h,hh,h1,h2=>by
  unfold ze7 zg0
  rw [yq (by omega)]; exact Eq.trans rfl rfl
 | f+1,m+1,i,h,hh,h1,h2=>by
  unfold ze7
  rw [zSi hL hp hs (by omega) (by omega) b2 hh]
  exact zKK hL hp hs hN b2 kx f m (i+1) _ (zmM _ _) (by omega) (by omega)
theorem zPG{β:Type}{L:Nat}(hL:100≤L){p:List Int}(hp:∀ x∈p,0≤x∧x≤255)(hs:p.length≤1000000000){i:Nat}(hN:64*(i+1)≤p.length)(b2:List V){h:List Int}(hh:h.length=8)(kh:Ls→Int→List V→List V→Option β)(kx:List V→List V→Option β):zfo ym L (ze .u8 p) ((64*i:Nat):Int) b2 (row .u32 h) kh kx=kh (ze .u8 p) ((64*(i+1):Nat):Int) b2 (row .u32 (zye h ((p.drop (64*i)).take 64))):=by
 unfold zfo
 have e9:QG .i64 (((64*i:Nat):Int)+(64:Int))=((64*(i+1):Nat):Int):=by rw [xr (by omega) (by omega)]; omega
 have e8:XK 8 (row .u32 h)=row .u32 h:=Xy (by rw [zk]; omega)
 have em:min (ze .u8 (p.drop (64*i))).length 64=64:=by rw [xG,XS]; omega
 have er:xd (We 64 (Qa (0:Int))) 0 (row .u8 ((p.drop (64*i)).take 64))=row .u8 ((p.drop (64*i)).take 64):=zai (by rw [zk,zsq hN,XW])
 have ec:XK 64 (row .u8 ((p.drop (64*i)).take 64))=row .u8 ((p.drop (64*i)).take 64):=Xy (by rw [zk,zsq hN]; omega)
 rw [zd,e9,xz (by rw [xG]; omega),XZ,zNP,em,zke,zBp,er,e8,zd,ec]
 rw [ya ⟨by omega,by rw [xG]; omega⟩,ya (by rw [zk]; omega),ya (by rw [zk,zsq hN]; omega)]
 refine (zMm hL hh (zsq hN) (zRg hp i) _).trans ?_
 rw [ya ⟨by rw [zk,zmM],by rw [zk]; omega⟩,zd,zd,zai (by rw [zk,zk,zmM,hh])]
theorem zJw{β:Type}{L:Nat}(hL:100≤L){p:List Int}(hp:∀ x∈p,0≤x∧x≤255)(hs:p.length≤1000000000){N:Nat}(hN:64*N=p.length)(b2:List V)(kx:List V→List V→Option β):∀ (f m i:Nat) (h:List Int),h.length=8→i+m=N→m<f→zdO ym L kx f (ze .u8 p) ((64*i:Nat):Int) b2 (row .u32 h)=kx b2 (row .u32 (zAV m i p h))
 | 0,m,i,h,_,_,hf=>by omega
 | f+1,0,i,h,hh,h1,h2=>by
  unfold zdO zfo
  have e9:QG .i64 (((64*i:Nat):Int)+(64:Int))=((64*(i+1):Nat):Int):=by rw [xr (by omega) (by omega)]; omega
  rw [zd,e9,yq (by rw [xG]; omega)]; exact Eq.trans rfl rfl
 | f+1,m+1,i,h,hh,h1,h2=>by
  unfold zdO
  rw [zPG hL hp hs (by omega) b2 hh]
  exact zJw hL hp hs hN b2 kx f m (i+1) _ (zmM _ _) (by omega) (by omega)
def ob(h:List Int)(i:Nat):Int:=QG .u8 (zcS .u32 (h.getD (i / 4) 0) ((24-i % 4*8:Nat):Int))
def zqS(h:List Int):List Int:=(List.range 32).map (ob h)
theorem zxM(h:List Int):(zqS h).length=32:=by simp [zqS]
theorem zSU(h:List Int){i:Nat}(hi:i<32):(zqS h).getD i 0=ob h i:=by
 simp [zqS,Ws,hi]
theorem zUv(h:List Int):∀ x∈zqS h,0≤x∧x≤255:=by
 intro x hx
 rw [zqS,Xz] at hx
 obtain ⟨i,_,rfl⟩:=hx
 exact zy3 _
theorem zRV{l m:List Int}(h:l.length=m.length)(hg:∀ i,i<l.length→l.getD i 0=m.getD i 0):l=m:=by
 apply List.ext_getElem h
 intro i h1 h2
 have:=hg i h1
 rwa [Ws,Ws,Wc h1,Wc h2] at this
theorem zMW{h z:List Int}(hz:z.length=32)(hg:∀ j,j<32→z.getD j 0=ob h j):z=zqS h:=
 zRV (by rw [hz,zxM]) fun i hi=>by rw [zSU h (by omega)]; exact hg i (by omega)
theorem zQQ{β:Type}(L:Nat){i:Nat}(hi:i<32)(b2:List V){h z:List Int}(hh:h.length=8)(hz:z.length=32)(kh:Int→List V→List V→List V→Option β)(kx:List V→List V→Option β):zfj L (i:Int) b2 (row .u32 h) (row .u8 z) kh kx=kh ((i+1:Nat):Int) b2 (row .u32 h) (row .u8 (z.set i (ob h i))):=by
 unfold zfj
 have e1:QG .i64 (Yt (i:Int) (4:Int))=((i / 4:Nat):Int):=by
  rw [show Yt (i:Int) (4:Int)=((i / 4:Nat):Int) from (Int.ofNat_tdiv i 4).symm,xr (by omega) (by omega)]
 have e2:XN (i:Int) (4:Int)=((i % 4:Nat):Int):=(Yf i 4).symm
 have e3:QG .i64 (((i % 4:Nat):Int)*(8:Int))=((i % 4*8:Nat):Int):=by rw [xr (by omega) (by omega)]; omega
 have e4:QG .i64 ((24:Int)-((i % 4*8:Nat):Int))=((24-i % 4*8:Nat):Int):=by rw [xr (by omega) (by omega)]; omega
 have c1:0≤((i / 4:Nat):Int)∧((i / 4:Nat):Int)<((8:Nat):Int):=by omega
 have c2:0≤(i:Int)∧(i:Int)<((32:Nat):Int):=by omega
 have c3:0≤((24-i % 4*8:Nat):Int):=by omega
 have cl:True∧i+1≤32:=⟨trivial,by omega⟩
 rw [xz (by omega:(i:Int)<32)]
 simp only [zd,e1,e2,e3,e4,ya c1,ya c2,ya c3,XZ,Ya,WB,xN (show i / 4<h.length by omega),zk,hz,zgY (show i<z.length by omega),yI (show i≤1000000000 by omega)]
 rw [ya cl]
 exact Eq.trans rfl rfl
theorem zJt{β:Type}(L:Nat)(b2:List V){h:List Int}(hh:h.length=8)(kx:List V→List V→Option β):∀ (f m i:Nat) (z:List Int),z.length=32→i+m=32→m<f→(∀ j,j<i→z.getD j 0=ob h j)→zdN L kx f (i:Int) b2 (row .u32 h) (row .u8 z)=kx b2 (row .u8 (zqS h))
 | 0,m,i,z,_,_,hf,_=>by omega
 | f+1,0,i,z,hz,h1,h2,hg=>by
  unfold zdN zfj
  rw [yq (by omega),zMW hz fun j hj=>hg j (by omega)]
 | f+1,m+1,i,z,hz,h1,h2,hg=>by
  unfold zdN
  rw [zQQ L (by omega) b2 hh hz]
  refine zJt L b2 hh kx f m (i+1) _ (by simpa using hz) (by omega) (by omega) fun j hj=>?_
  by_cases he:i=j
  ·subst he; exact zfW (by omega) _
  ·rw [getD_set_ne he]; exact hg j (by omega)
theorem zW6(v:Int):zcS .u32 v ((0:Nat):Int)=v:=by
 unfold zcS
 rw [show min (XJ ((0:Nat):Int)) (X7 .u32)=0 from rfl,show (2:Int) ^ 0=1 from rfl,Int.fdiv_one]
theorem zOv{β:Type}(L:Nat){i:Nat}(hi:i<8)(b2:List V){h z:List Int}(hh:h.length=8)(hz:z.length=32)(kh:List V→Int→List V→List V→Option β)(kx:List V→List V→Option β):zd9 L (row .u32 h) (i:Int) b2 (row .u8 z) kh kx=kh (row .u32 h) ((i+1:Nat):Int) b2 (row .u8 ((((z.set (4*i) (ob h (4*i))).set (4*i+1) (ob h (4*i+1))).set (4*i+2) (ob h (4*i+2))).set (4*i+3) (ob h (4*i+3)))):=by
 unfold zd9
 have e4:QG .i64 ((4:Int)*(i:Int))=((4*i:Nat):Int):=zOD (by omega)
 have e1:QG .i64 (((4*i:Nat):Int)+(1:Int))=((4*i+1:Nat):Int):=zEO (b:=1) (by omega) (by omega)
 have e2:QG .i64 (((4*i:Nat):Int)+(2:Int))=((4*i+2:Nat):Int):=zEO (b:=2) (by omega) (by omega)
 have e3:QG .i64 (((4*i:Nat):Int)+(3:Int))=((4*i+3:Nat):Int):=zEO (b:=3) (by omega) (by omega)
 have c0:0≤(i:Int)∧(i:Int)<((8:Nat):Int):=by omega
 have c4:0≤((4*i:Nat):Int)∧((4*i:Nat):Int)<((32:Nat):Int):=by omega
 have c1:0≤((4*i+1:Nat):Int)∧((4*i+1:Nat):Int)<((32:Nat):Int):=by omega
 have c2:0≤((4*i+2:Nat):Int)∧((4*i+2:Nat):Int)<((32:Nat):Int):=by omega
 have c3:0≤((4*i+3:Nat):Int)∧((4*i+3:Nat):Int)<((32:Nat):Int):=by omega
 have l0:True∧4*i+1≤32:=⟨trivial,by omega⟩
 have l1:True∧4*i+1+1≤32:=⟨trivial,by omega⟩
 have l2:True∧4*i+2+1≤32:=⟨trivial,by omega⟩
 have l3:True∧4*i+3+1≤32:=⟨trivial,by omega⟩
 have o0:QG .u8 (zcS .u32 (h.getD i 0) (24:Int))=ob h (4*i):=by
  unfold ob; rw [show 4*i / 4=i by omega,show 24-4*i % 4*8=24 by omega]; exact Eq.trans rfl rfl
 have o1:QG .u8 (zcS .u32 (h.getD i 0) (16:Int))=ob h (4*i+1):=by
  unfold ob; rw [show (4*i+1) / 4=i by omega,show 24-(4*i+1) % 4*8=16 by omega]; exact Eq.trans rfl rfl
 have o2:QG .u8 (zcS .u32 (h.getD i 0) (8:Int))=ob h (4*i+2):=by
  unfold ob; rw [show (4*i+2) / 4=i by omega,show 24-(4*i+2) % 4*8=8 by omega]; exact Eq.trans rfl rfl
 have o3:QG .u8 (h.getD i 0)=ob h (4*i+3):=by
  unfold ob; rw [show (4*i+3) / 4=i by omega,show 24-(4*i+3) % 4*8=0 by omega,zW6]
 rw [xz (by omega:(i:Int)<8)]
 simp only [zd,e4,e1,e2,e3,ya c0,ya c4,ya c1,ya c2,ya c3,XZ,Ya,WB,xN (show i<h.length by omega),o0,o1,o2,o3,zk]
 rw [zgY (by omega),zgY (by rw [QI]; omega),zgY (by rw [QI,QI]; omega),zgY (by rw [QI,QI,QI]; omega)]
 simp only [zk,QI,hz,yI (show i≤1000000000 by omega)]
 rw [ya l0,ya l1,ya l2,ya l3]
theorem zGf{β:Type}(L:Nat)(b2:List V){h:List Int}(hh:h.length=8)(kx:List V→List V→Option β):∀ (f m i:Nat) (z:List Int),z.length=32→i+m=8→m<f→(∀ j,j<4*i→z.getD j 0=ob h j)→zcF L kx f (row .u32 h) (i:Int) b2 (row .u8 z)=kx b2 (row .u8 (zqS h))
 | 0,m,i,z,_,_,hf,_=>by omega
 | f+1,0,i,z,hz,h1,h2,hg=>by
  unfold zcF zd9
  rw [yq (by omega),zMW hz fun j hj=>hg j (by omega)]
 | f+1,m+1,i,z,hz,h1,h2,hg=>by
  unfold zcF
  rw [zOv L (by omega) b2 hh hz]
  refine zGf L b2 hh kx f m (i+1) _ (by simpa using hz) (by omega) (by omega) fun j hj=>?_
  by_cases h3:4*i+3=j
  ·subst h3; exact zfW (by simp; omega) _
  rw [getD_set_ne h3]
  by_cases h2:4*i+2=j
  ·subst h2; exact zfW (by simp; omega) _
  rw [getD_set_ne h2]
  by_cases h1:4*i+1=j
  ·subst h1; exact zfW (by simp; omega) _
  rw [getD_set_ne h1]
  by_cases h0:4*i=j
  ·subst h0; exact zfW (by omega) _
  rw [getD_set_ne h0]
  exact hg j (by omega)
def zq5(l:List Int):List Int:=zqS (zAV ((l++zeL l.length).length / 64) 0 (l++zeL l.length) init0)
theorem zaP(l:List Int):(zq5 l).length=32:=zxM _
theorem zM5(l:List Int):∀ x∈zq5 l,0≤x∧x≤255:=zUv _
theorem zMZ(l:List Int):64*((l++zeL l.length).length / 64)=(l++zeL l.length).length:=by
 have:=zRr l.length
 rw [Wm,ztk]; omega
theorem zPw{l:List Int}(h:∀ x∈l,0≤x∧x≤255):∀ x∈l++zeL l.length,0≤x∧x≤255:=by
 intro x hx
 rcases QD.1 hx with hx | hx
 ·exact h x hx
 ·exact zTX _ x hx
theorem zNj{β:Type}{w:List Int}(hw:w.length=32)(z:List Int)(hz:z.length=32)(k:List V→Option β) :
  chk (0+32≤(XI (row .u8 w))) (chk ((XI (XK 32 (row .u8 w)))=32∧0+32≤(XI (row .u8 z))) (
   lt (xd (row .u8 z) 0 (XK 32 (row .u8 w))) fun r41=>chk (0=0∧(XI r41)=32∧32≠0) (k r41)))=k (row .u8 w):=by
 have e:XK 32 (row .u8 w)=row .u8 w:=Xy (by rw [zk]; omega)
 rw [zd,e,zai (by rw [zk,zk]; omega)]
 rw [ya (by rw [zk]; omega),ya ⟨by rw [zk]; omega,by rw [zk]; omega⟩,ya ⟨rfl,by rw [zk]; omega,by decide⟩]
theorem zMd{β:Type}{L:Nat}{l:List Int}(hL:l.length+200≤L)(hl:l.length≤100000000)(hb:∀ x∈l,0≤x∧x≤255)(k:List V→Option β):zaD β L (ze .u8 l) k=k (row .u8 (zq5 l)):=by
 unfold zaD zut zAI
 have z64:=zGb l.length
 have hm:=zMZ l
 have hlen:(l++zeL l.length).length=l.length+(9+zs l.length):=by rw [Wm,ztk]
 have e0:QG .u64 (((ze .u8 l).length:Nat):Int)=(l.length:Int):=by rw [xG,zaQ (by omega) (by omega)]
 rw [zd,e0]
 refine (zV8 (by omega) hl _ _).trans ?_
 refine (zRh (by omega) (by omega) (by rw [ztk]; omega) _).trans ?_
 have e1:xd [V.sc (.int .u32 (0:Int)),V.sc (.int .u32 (0:Int)),V.sc (.int .u32 (0:Int)),V.sc (.int .u32 (0:Int)),V.sc (.int .u32 (0:Int)),V.sc (.int .u32 (0:Int)),V.sc (.int .u32 (0:Int)),V.sc (.int .u32 (0:Int))] 0 (XK 8 gk_sha_initial)=row .u32 init0:=(zai rfl).trans rfl
 have e2:QG .i64 (Yt (((ze .u8 (l++zeL l.length)).length:Nat):Int) (64:Int))=(((l++zeL l.length).length / 64:Nat):Int):=by
  rw [xG,show Yt (((l++zeL l.length).length:Nat):Int) (64:Int)=(((l++zeL l.length).length / 64:Nat):Int) from (Int.ofNat_tdiv _ 64).symm,xr (by omega) (by omega)]
 rw [ya ⟨rfl,by decide⟩,zd,e1,zd,e2]
 refine (zKK (by omega) (zPw hb) (by omega) (by omega) _ _ L ((l++zeL l.length).length / 64) 0 _ zud (by omega) (by omega)).trans ?_
 unfold zgS zlv
 rw [zwO]
 refine (zJt L _ (zD4 _ _ _ _ zud) _ L 32 0 _ XW rfl (by omega) (fun j hj=>by omega)).trans ?_
 unfold zjy
 exact zNj (zxM _) _ XW k
theorem zOw{β:Type}(L:Nat)(k:List V→Option β):xq β L k=k (row .u32 init0):=by
 unfold xq zou
 rw [zd]
 exact (ya ⟨rfl,rfl,by decide⟩ _).trans rfl
theorem zHO{β:Type}{L:Nat}{l:List Int}(hL:l.length+200≤L)(hl:l.length≤100000000)(hb:∀ x∈l,0≤x∧x≤255)(k:List V→Option β):xX β L (ze .u8 l) k=k (row .u8 (zq5 l)):=by
 unfold xX zpX zvg
 have z64:=zGb l.length
 have hm:=zMZ l
 have hlen:(l++zeL l.length).length=l.length+(9+zs l.length):=by rw [Wm,ztk]
 have e0:QG .u64 (((ze .u8 l).length:Nat):Int)=(l.length:Int):=by rw [xG,zaQ (by omega) (by omega)]
 rw [ya (by simp [xG,zg]; omega),zd,XT,zd,e0]
 refine (zUr (by omega) hl _).trans ?_
 rw [ya (by simp [xG,ztk,zg]; omega),zd,zpD]
 refine (zOw L _).trans ?_
 have e1:xd [V.sc (.int .u32 (0:Int)),V.sc (.int .u32 (0:Int)),V.sc (.int .u32 (0:Int)),V.sc (.int .u32 (0:Int)),V.sc (.int .u32 (0:Int)),V.sc (.int .u32 (0:Int)),V.sc (.int .u32 (0:Int)),V.sc (.int .u32 (0:Int))] 0 (row .u32 init0)=row .u32 init0:=zai rfl
 rw [ya ⟨rfl,by decide⟩,zd,e1]
 refine (zJw (by omega) (zPw hb) (by omega) hm _ _ L ((l++zeL l.length).length / 64) 0 _ zud (by omega) (by omega)).trans ?_
 unfold zfv zjG
 have hb8:=zD4 ((l++zeL l.length).length / 64) 0 (l++zeL l.length) init0 zud
 rw [ya (by rw [zk,hb8]; omega),Xy (by rw [zk,hb8]; omega),zwO]
 refine (zGf L _ hb8 _ L 8 0 _ XW rfl (by omega) (fun j hj=>by omega)).trans ?_
 unfold zh8
 exact zNj (zxM _) _ XW k
def zKS(l:List Int):List Int:=zq5 (zq5 l)
theorem zJ9{w:List Int}(hw:w.length=32):xd (We 32 (Qa (0:Int))) 0 (row .u8 w)=row .u8 w:=zai (by rw [zk,hw,XW])
theorem zNH{w:List Int}(hw:w.length=32):List.isEmpty (row .u8 w)=false:=by
 rw [List.isEmpty_eq_false_iff]; intro h
 have:=congrArg XI h
 rw [zk,hw] at this; cases this
theorem zRf{β:Type}{L:Nat}{l:List Int}(hL:l.length+300≤L)(hl:l.length≤100000000)(hb:∀ x∈l,0≤x∧x≤255)(k:List V→Option β):zeM β L (ze .u8 l) k=k (row .u8 (zKS l)):=by
 unfold zeM ztx
 have ec:yf 1 32 (row .u8 (zq5 l))=ze .u8 (zq5 l):=by
  rw [zr9 _ _ _ (by rw [zaP]; omega),Xy (by rw [zaP]; omega)]
 refine (zMd (by omega) hl hb _).trans ?_
 rw [ya ⟨by rw [zk,zaP],by decide⟩,zd,zJ9 (zaP l),ya (by rw [zk,zaP]; omega),zNH (zaP l),zik,ec]
 refine (zMd (by rw [zaP]; omega) (by rw [zaP]; omega) (zM5 l) _).trans ?_
 rw [ya ⟨by rw [zk,zaP],by decide⟩,zd,zJ9 (zaP _),ya ⟨rfl,by rw [zk,zaP],by decide⟩]
 exact Eq.trans rfl rfl
theorem zOY{β:Type}{L:Nat}{l:List Int}(hL:l.length+300≤L)(hl:l.length≤100000000)(hb:∀ x∈l,0≤x∧x≤255)(k:List V→Option β):zc5 β L (ze .u8 l) k=k (row .u8 (zKS l)):=by
 unfold zc5 zpG
 have ec:yf 1 32 (row .u8 (zq5 l))=ze .u8 (zq5 l):=by
  rw [zr9 _ _ _ (by rw [zaP]; omega),Xy (by rw [zaP]; omega)]
 refine (zHO (by omega) hl hb _).trans ?_
 rw [ya ⟨by rw [zk,zaP],by decide⟩,zd,zJ9 (zaP l),ya (by rw [zk,zaP]; omega),zNH (zaP l),zik,ec]
 refine (zHO (by rw [zaP]; omega) (by rw [zaP]; omega) (zM5 l) _).trans ?_
 rw [ya ⟨by rw [zk,zaP],by decide⟩,zd,zJ9 (zaP _),ya ⟨rfl,by rw [zk,zaP],by decide⟩]
 exact Eq.trans rfl rfl
end
section
def frc{α:Type}(n:Nat)(k:Nat→α):α:=Nat.casesOn (motive:=fun _=>α) n (k 0) (fun m=>k (Nat.succ m))
theorem zkH{α:Type}(n:Nat)(k:Nat→α):frc n k=k n:=by cases n <;> rfl
def zlJ(a n:Nat):Nat:=Nat.lor (X4 (Yh a (Nat.sub 32 n)) 4294967296) (X5 a n)
def s2N(a b c d:Nat):Nat:=X4 (X3 (X4 (X3 (X4 (X3 a (X6 (X6 (zlJ b 7) (zlJ b 18)) (X5 b 3))) 4294967296) c) 4294967296) (X6 (X6 (zlJ d 17) (zlJ d 19)) (X5 d 10))) 4294967296
def t1N(e f g h kk ww:Nat):Nat:=X4 (X3 (X4 (X3 (X4 (X3 (X4 (X3 h (X6 (X6 (zlJ e 6) (zlJ e 11)) (zlJ e 25))) 4294967296) (X6 (Yg e f) (Yg (X6 4294967295 e) g))) 4294967296) kk) 4294967296) ww) 4294967296
def t2N(a b c:Nat):Nat:=X4 (X3 (X6 (X6 (zlJ a 2) (zlJ a 13)) (zlJ a 22)) (X6 (X6 (Yg a b) (Yg a c)) (Yg b c))) 4294967296
def zk7:Nat→Nat→List Nat→List Nat
 | 0,_,w=>w
 | m+1,t,w=>frc (s2N (w.getD (t-16) 0) (w.getD (t-15) 0) (w.getD (t-7) 0) (w.getD (t-2) 0)) fun x=>zk7 m (t+1) (w.set t x)
def zp3(l:List Nat)(t:Nat):Nat:=X3 (Yi (X3 (Yi (X3 (Yi (l.getD (4*t) 0) 256) (l.getD (4*t+1) 0)) 256) (l.getD (4*t+2) 0)) 256) (l.getD (4*t+3) 0)
def zmt:Nat→Nat→List Nat→List Nat→List Nat
 | 0,_,_,w=>w
 | m+1,t,l,w=>frc (zp3 l t) fun x=>zmt m (t+1) l (w.set t x)
def zfi(l:List Nat):List Nat:=zk7 48 16 (zmt 16 0 l (We 64 0))
def kcN:List Nat:=[1116352408,1899447441,3049323471,3921009573,961987163,1508970993,2453635748,2870763221,3624381080,310598401,607225278,1426881987,1925078388,2162078206,2614888103,3248222580,3835390401,4022224774,264347078,604807628,770255983,1249150122,1555081692,1996064986,2554220882,2821834349,2952996808,3210313671,3336571891,3584528711,113926993,338241895,666307205,773529912,1294757372,1396182291,1695183700,1986661051,2177026350,2456956037,2730485921,2820302411,3259730800,3345764771,3516065817,3600352804,4094571909,275423344,430227734,506948616,659060556,883997877,958139571,1322822218,1537002063,1747873779,1955562222,2024104815,2227730452,2361852424,2428436474,2756734187,3204031479,3329325298]
def zsR(w:List Nat):List Nat→Nat→Nat→Nat→Nat→Nat→Nat→Nat→Nat→Nat→List Nat
 | kk::ks,t,a,b,c,d,e,f,g,h=>frc (t1N e f g h kk (w.getD t 0)) fun x=>frc (X4 (X3 x (t2N a b c)) 4294967296) fun y=>frc (X4 (X3 d x) 4294967296) fun z=>zsR w ks (t+1) y a b c z e f g
 | [],_,a,b,c,d,e,f,g,h=>[a,b,c,d,e,f,g,h]
def zEE:List Nat→List Nat→List Nat
 | x::xs,y::ys=>frc (X4 (X3 x y) 4294967296) fun z=>z::zEE xs ys
 | _,_=>[]
def zBI(hs l:List Nat):List Nat:=zEE hs (zsR (zfi l) kcN 0 (hs.getD 0 0) (hs.getD 1 0) (hs.getD 2 0) (hs.getD 3 0) (hs.getD 4 0) (hs.getD 5 0) (hs.getD 6 0) (hs.getD 7 0))
def goN:List Nat→Nat→Nat→Nat→Nat→Nat→Nat→Nat→Nat→Nat→Nat→Nat→Nat→Nat→Nat→Nat→Nat→Nat→Nat→Nat→Nat→Nat→Nat→Nat→Nat→List Nat
 | [],_,_,_,_,_,_,_,_,_,_,_,_,_,_,_,_,a,b,c,d,e,f,g,h=>[a,b,c,d,e,f,g,h]
 | kk::ks,w0,w1,w2,w3,w4,w5,w6,w7,w8,w9,w10,w11,w12,w13,w14,w15,a,b,c,d,e,f,g,h=>frc (t1N e f g h kk w0) fun x=>frc (X4 (X3 x (t2N a b c)) 4294967296) fun y=>frc (X4 (X3 d x) 4294967296) fun z=>frc (s2N w0 w1 w9 w14) fun v=>goN ks w1 w2 w3 w4 w5 w6 w7 w8 w9 w10 w11 w12 w13 w14 w15 v y a b c z e f g
def zzT:List Nat→List Nat
 | a::b::c::d::r=>frc (X3 (Yi (X3 (Yi (X3 (Yi a 256) b) 256) c) 256) d) fun w=>w::zzT r
 | _=>[]
def zBV(hs l:List Nat):List Nat:=match hs with
 | a::b::c::d::e::f::g::h::_=>(match zzT l with
  | w0::w1::w2::w3::w4::w5::w6::w7::w8::w9::w10::w11::w12::w13::w14::w15::_=>zEE hs (goN kcN w0 w1 w2 w3 w4 w5 w6 w7 w8 w9 w10 w11 w12 w13 w14 w15 a b c d e f g h)
  | _=>[])
 | _=>[]
def zBO:Nat→Nat→List Nat→List Nat→List Nat
 | 0,_,_,h=>h
 | m+1,i,p,h=>zBO m (i+1) p (zBV h ((p.drop (64*i)).take 64))
def init0N:List Nat:=[1779033703,3144134277,1013904242,2773480762,1359893119,2600822924,528734635,1541459225]
def zg2(x i:Nat):Nat:=X4 (X5 x i) 256
def zBX:List Nat→List Nat
 | []=>[]
 | x::xs=>zg2 x 24::zg2 x 16::zg2 x 8::zg2 x 0::zBX xs
def zSg(n:Nat):List Nat:=[zg2 (8*n) 56,zg2 (8*n) 48,zg2 (8*n) 40,zg2 (8*n) 32,zg2 (8*n) 24,zg2 (8*n) 16,zg2 (8*n) 8,zg2 (8*n) 0]
def zsF(n:Nat):List Nat:=(128::We (zs n) 0)++zSg n
def zre(l:List Nat):List Nat:=zBX (zBO ((l++zsF l.length).length / 64) 0 (l++zsF l.length) init0N)
def zF(l:List Nat):List Int:=l.map fun (n:Nat)=>(n:Int)
def zg7(l:List Nat):Prop:=∀ x∈l,x<4294967296
theorem zLq(n:Nat):QG .u32 (n:Int)=((X4 n 4294967296:Nat):Int):=by
 show (n:Int) % ((4294967296:Nat):Int)=_
 rw [← X8]; rfl
theorem zBN(n:Nat)(h:n<4294967296):QG .u32 (n:Int)=(n:Int):=by
 rw [zLq]; congr 1; exact XE h
theorem zEV{a:Nat}(h:a<4294967296):(BitVec.ofInt (X7 .u32) (a:Int)).toNat=a:=by
 rw [BitVec.toNat_ofInt]
 show ((a:Int) % ((2 ^ 32:Nat):Int)).toNat=_
 rw [← X8,XZ,XE (by omega)]
theorem zn0{a b:Nat}(ha:a<4294967296)(hb:b<4294967296):X6 a b<4294967296:=Nat.xor_lt_two_pow (n:=32) ha hb
theorem zTd{a b:Nat}(ha:a<4294967296)(hb:b<4294967296):Nat.lor a b<4294967296:=Nat.or_lt_two_pow (n:=32) ha hb
theorem zqi{a b:Nat}(ha:a<4294967296):Yg a b<4294967296:=Nat.lt_of_le_of_lt Nat.and_le_left ha
theorem zkz{a b:Nat}(ha:a<4294967296)(hb:b<4294967296):zcc .u32 (a:Int) (b:Int)=((X6 a b:Nat):Int):=by
 unfold zcc
 rw [BitVec.toNat_xor,zEV ha,zEV hb]
 exact zBN _ (zn0 ha hb)
theorem zXh{a b:Nat}(ha:a<4294967296)(hb:b<4294967296):ior .u32 (a:Int) (b:Int)=((Nat.lor a b:Nat):Int):=by
 unfold ior
 rw [BitVec.toNat_or,zEV ha,zEV hb]
 exact zBN _ (zTd ha hb)
theorem zAd{a b:Nat}(ha:a<4294967296)(hb:b<4294967296):zep .u32 (a:Int) (b:Int)=((Yg a b:Nat):Int):=by
 unfold zep
 rw [BitVec.toNat_and,zEV ha,zEV hb]
 exact zBN _ (zqi ha)
theorem zVR{a:Nat}(ha:a<4294967296):zLh .u32 (a:Int)=((X6 4294967295 a:Nat):Int):=by
 unfold zLh
 rw [BitVec.toNat_xor,zEV ha]
 exact zBN _ (zn0 (by decide) ha)
theorem zVo(a n:Nat)(hn:n≤32):zct .u32 (a:Int) (n:Int)=((X4 (Yh a n) 4294967296:Nat):Int):=by
 unfold zct
 have:min (XJ (n:Int)) (X7 .u32)=n:=by
  rw [XZ]; exact Ye hn
 rw [this,show ((a:Int)*2 ^ n)=((Yh a n:Nat):Int) by
  rw [show Yh a n=a <<< n from rfl,Yk,Int.natCast_mul,Yn]; rfl]
 exact zLq _
theorem zF4(k:IntKind)(a n:Nat)(hn:n≤k.bits):zcS k (a:Int) (n:Int)=((X5 a n:Nat):Int):=by
 unfold zcS
 have:min (XJ (n:Int)) k.bits=n:=by
  rw [XZ]; exact Ye hn
 rw [this,show X5 a n=a >>> n from rfl,Nat.shiftRight_eq_div_pow]
 rw [show ((2:Int) ^ n)=((2 ^ n:Nat):Int) by rw [Yn]; rfl]
 rw [Int.fdiv_eq_ediv_of_nonneg _ (Int.natCast_nonneg _)]
 exact Int.natCast_ediv a (2 ^ n) |>.symm
theorem m32(n:Nat):X4 n 4294967296<4294967296:=Nat.mod_lt _ (by decide)
theorem zFa{a:Nat}(h:a<4294967296)(n:Nat):X5 a n<4294967296:=Nat.lt_of_le_of_lt (Nat.shiftRight_le a n) h
theorem zcK{a:Nat}(h:a<4294967296)(n:Nat):zlJ a n<4294967296:=zTd (m32 _) (zFa h n)
def rk(n:Nat):Prop:=zep .u64 (QG .u64 (QG .i64 (0-(n:Int)))) 31=((Nat.sub 32 n:Nat):Int)∧QG .u64 (32-((Nat.sub 32 n:Nat):Int))=(n:Int)∧n≤32
theorem zOH{a n:Nat}(ha:a<4294967296)(hk:rk n):zee (a:Int) (n:Int)=((zlJ a n:Nat):Int):=by
 obtain ⟨h1,h2,h3⟩:=hk
 unfold zee zlJ
 rw [h1,h2,zVo _ _ (by show 32-n≤32; omega),zF4 .u32 _ _ h3,zXh (m32 _) (zFa ha n)]
theorem rk7:rk 7:=by unfold rk; decide +kernel
theorem zXE:rk 18:=by unfold rk; decide +kernel
theorem zXA:rk 17:=by unfold rk; decide +kernel
theorem zXC:rk 19:=by unfold rk; decide +kernel
theorem rk6:rk 6:=by unfold rk; decide +kernel
theorem zXm:rk 11:=by unfold rk; decide +kernel
theorem zXn:rk 25:=by unfold rk; decide +kernel
theorem rk2:rk 2:=by unfold rk; decide +kernel
theorem zXt:rk 13:=by unfold rk; decide +kernel
theorem zXH:rk 22:=by unfold rk; decide +kernel
theorem znV(a b:Nat):QG .u32 ((a:Int)+(b:Int))=((X4 (X3 a b) 4294967296:Nat):Int):=by
 rw [← Int.natCast_add]; exact zLq _
theorem zqp(l:List Nat)(i:Nat):(zF l).getD i 0=((l.getD i 0:Nat):Int):=by
 simp only [zF,Ws,List.getElem?_map]
 cases l[i]? <;> rfl
theorem zFm{l:List Nat}(h:zg7 l)(i:Nat):l.getD i 0<4294967296:=by
 rw [Ws]
 by_cases hi:i<l.length
 ·rw [Wc hi]; exact h _ (W2 hi)
 ·rw [Q3 (by omega)]; simp
theorem zXJ{w:List Nat}(h:zg7 w)(t:Nat):s2 (zF w) t=((s2N (w.getD (t-16) 0) (w.getD (t-15) 0) (w.getD (t-7) 0) (w.getD (t-2) 0):Nat):Int):=by
 have r:∀ {a n:Nat},a<4294967296→rk n→zee (a:Int) (n:Int)=((zlJ a n:Nat):Int):=zOH
 have h1:=zFm h (t-15)
 have h2:=zFm h (t-2)
 unfold s2 s2N
 simp only [zqp]
 generalize w.getD (t-16) 0=a at *
 generalize w.getD (t-15) 0=b at *
 generalize w.getD (t-7) 0=c at *
 generalize w.getD (t-2) 0=d at *
 rw [show zee (b:Int) 7=_ from r h1 rk7,show zee (b:Int) 18=_ from r h1 zXE,show zee (d:Int) 17=_ from r h2 zXA,show zee (d:Int) 19=_ from r h2 zXC,
  show zcS .u32 (b:Int) 3=_ from zF4 .u32 b 3 (by decide),show zcS .u32 (d:Int) 10=_ from zF4 .u32 d 10 (by decide),
  zkz (zcK h1 _) (zcK h1 _),zkz (zn0 (zcK h1 _) (zcK h1 _)) (zFa h1 _),zkz (zcK h2 _) (zcK h2 _),zkz (zn0 (zcK h2 _) (zcK h2 _)) (zFa h2 _),
  znV,znV,znV]
theorem zXv{e f g h kk ww:Nat}(he:e<4294967296)(hf:f<4294967296)(hg:g<4294967296):t1 (e:Int) (f:Int) (g:Int) (h:Int) (kk:Int) (ww:Int)=((t1N e f g h kk ww:Nat):Int):=by
 have r:∀ {a n:Nat},a<4294967296→rk n→zee (a:Int) (n:Int)=((zlJ a n:Nat):Int):=zOH
 unfold t1 t1N
 rw [show zee (e:Int) 6=_ from r he rk6,show zee (e:Int) 11=_ from r he zXm,show zee (e:Int) 25=_ from r he zXn,
  zkz (zcK he _) (zcK he _),zkz (zn0 (zcK he _) (zcK he _)) (zcK he _),zAd he hf,zVR he,zAd (zn0 (by decide) he) hg,zkz (zqi he) (zqi (zn0 (by decide) he)),
  znV,znV,znV,znV]
theorem zXu{a b c:Nat}(ha:a<4294967296)(hb:b<4294967296)(hc:c<4294967296):t2 (a:Int) (b:Int) (c:Int)=((t2N a b c:Nat):Int):=by
 have r:∀ {a n:Nat},a<4294967296→rk n→zee (a:Int) (n:Int)=((zlJ a n:Nat):Int):=zOH
 unfold t2 t2N
 rw [show zee (a:Int) 2=_ from r ha rk2,show zee (a:Int) 13=_ from r ha zXt,show zee (a:Int) 22=_ from r ha zXH,
  zkz (zcK ha _) (zcK ha _),zkz (zn0 (zcK ha _) (zcK ha _)) (zcK ha _),zAd ha hb,zAd ha hc,zAd hb hc,zkz (zqi ha) (zqi ha),zkz (zn0 (zqi ha) (zqi ha)) (zqi hb),
  znV]
theorem zKz(l:List Nat)(i x:Nat):(zF l).set i (x:Int)=zF (l.set i x):=by simp only [zF,List.map_set]
theorem zIN{l:List Nat}(h:zg7 l)(i:Nat){x:Nat}(hx:x<4294967296):zg7 (l.set i x):=fun y hy=>by
 rcases List.mem_or_eq_of_mem_set hy with h' | rfl
 ·exact h y h'
 ·exact hx
theorem zPk:∀ (m t:Nat) (w:List Nat),zg7 w→zzG m t (zF w)=zF (zk7 m t w)∧zg7 (zk7 m t w)
 | 0,_,_,h=>⟨rfl,h⟩
 | m+1,t,w,h=>by
  simp only [zzG,zk7,zkH]
  rw [zXJ h,zKz]
  exact zPk m (t+1) _ (zIN h _ (m32 _))
theorem zU8(l:List Nat)(t:Nat):zxA (zF l) t=((zp3 l t:Nat):Int):=by
 unfold zxA zp3
 simp only [zqp]
 simp only [show ∀ a b:Nat,X3 a b=a+b from fun _ _=>rfl,show ∀ a b:Nat,Yi a b=a*b from fun _ _=>rfl]
 omega
def zdK(l:List Nat):Prop:=∀ x∈l,x≤255
theorem zsk{l:List Nat}(h:zdK l)(i:Nat):l.getD i 0≤255:=by
 rw [Ws]
 by_cases hi:i<l.length
 ·rw [Wc hi]; exact h _ (W2 hi)
 ·rw [Q3 (by omega)]; simp
theorem zSF{l:List Nat}(h:zdK l)(t:Nat):zp3 l t<4294967296:=by
 have h0:=zsk h (4*t)
 have h1:=zsk h (4*t+1)
 have h2:=zsk h (4*t+2)
 have h3:=zsk h (4*t+3)
 unfold zp3
 simp only [show ∀ a b:Nat,X3 a b=a+b from fun _ _=>rfl,show ∀ a b:Nat,Yi a b=a*b from fun _ _=>rfl]
 omega
theorem zPV{l:List Nat}(hl:zdK l):∀ (m t:Nat) (w:List Nat),zg7 w→zAR m t (zF l) (zF w)=zF (zmt m t l w)∧zg7 (zmt m t l w)
 | 0,_,_,h=>⟨rfl,h⟩
 | m+1,t,w,h=>by
  simp only [zAR,zmt,zkH]
  rw [zU8,zKz]
  exact zPV hl m (t+1) _ (zIN h _ (zSF hl t))
theorem zQK(n:Nat):zg7 (We n 0):=fun x hx=>by rw [(Yr.1 hx).2]; decide
theorem zUA{l:List Nat}(hl:zdK l):zmz (zF l)=zF (zfi l)∧zg7 (zfi l):=by
 unfold zmz zfi
 have e:We 64 (0:Int)=zF (We 64 0):=by simp [zF]
 obtain ⟨h1,h2⟩:=zPV hl 16 0 _ (zQK 64)
 rw [e,h1]
 exact zPk 48 16 _ h2
theorem zXB:kc=zF kcN:=by kernel_rfl
def Sm8(a b c d e f g h:Nat):Prop:=a<4294967296∧b<4294967296∧c<4294967296∧d<4294967296∧e<4294967296∧f<4294967296∧g<4294967296∧h<4294967296
theorem zNK{w:List Nat}(hs:List Int):∀ (ks:List Nat) (t a b c d e f g h:Nat),kcN.drop t=ks→t+ks.length=64→Sm8 a b c d e f g h →
  ∃ a' b' c' d' e' f' g' h',zsR w ks t a b c d e f g h=[a',b',c',d',e',f',g',h']∧zsd (zF w) (zsa hs) ks.length t (a:Int) b c d e f g h=zsa hs a' b' c' d' e' f' g' h'
 | [],t,a,b,c,d,e,f,g,h,_,_,_=>⟨a,b,c,d,e,f,g,h,rfl,rfl⟩
 | kk::ks,t,a,b,c,d,e,f,g,h,hk,hl,hs8=>by
  obtain ⟨ha,hb,hc,hd,he,hf,hg,hh⟩:=hs8
  have hlt:t<kcN.length:=by show t<64; simp at hl; omega
  have hd':=List.drop_eq_getElem_cons hlt
  rw [hk] at hd'
  have hkk:kcN.getD t 0=kk:=by
   rw [Ws,Wc hlt]
   exact (List.cons.inj hd').1.symm
  simp only [zsR,zkH,XQ,zsd]
  rw [show kc.getD t 0=(kk:Int) by rw [zXB,zqp,hkk],zqp,zXv he hf hg,zXu ha hb hc,znV,znV]
  exact zNK hs ks (t+1) _ a b c _ e f g (List.cons.inj hd').2.symm (by simp at hl; omega) ⟨m32 _,ha,hb,hc,m32 _,he,hf,hg⟩
theorem zO1{l:List Nat}(h:l.length=8):∃ a b c d e f g i,l=[a,b,c,d,e,f,g,i]:=by
 match l,h with
 | [a,b,c,d,e,f,g,i],_=>exact ⟨a,b,c,d,e,f,g,i,rfl⟩
theorem zTT{hs l:List Nat}(h8:hs.length=8)(hsm:zg7 hs)(hl:zdK l):zye (zF hs) (zF l)=zF (zBI hs l)∧(zBI hs l).length=8∧zg7 (zBI hs l):=by
 obtain ⟨a,b,c,d,e,f,g,h,rfl⟩:=zO1 h8
 unfold zye zBI
 rw [(zUA hl).1]
 have sm:Sm8 a b c d e f g h:=⟨hsm _ (by simp),hsm _ (by simp),hsm _ (by simp),hsm _ (by simp),hsm _ (by simp),hsm _ (by simp),hsm _ (by simp),hsm _ (by simp)⟩
 obtain ⟨a',b',c',d',e',f',g',h',e1,e2⟩:=zNK (w:=zfi l) (zF [a,b,c,d,e,f,g,h]) kcN 0 a b c d e f g h rfl rfl sm
 simp only [Yq,X9,zF,QW,X2] at e2 ⊢
 refine ⟨?_,?_,?_⟩
 ·refine Eq.trans e2 ?_
  rw [e1]
  simp only [zsa,zEE,zkH,Yq,X9,znV,QW,X2]
 ·rw [e1]; simp only [zEE,zkH]; rfl
 ·rw [e1]; simp only [zEE,zkH]
  intro x hx
  simp only [Q9,Yj,or_false] at hx
  rcases hx with rfl | rfl | rfl | rfl | rfl | rfl | rfl | rfl <;> exact m32 _
theorem zDH{w:List Nat}{t:Nat}(h:t<w.length)(x:Nat):(w.set t x).getD t 0=x:=by
 simp [Ws,h]
theorem zDj{w:List Nat}{t i:Nat}(h:t≠i)(x:Nat):(w.set t x).getD i 0=w.getD i 0:=by
 simp [Ws,WE h]
theorem zBt:∀ (m t:Nat) (w:List Nat),w.length=64→16≤t→t+m≤64→(∀ i,i<t→(zk7 m t w).getD i 0=w.getD i 0) ∧
  ∀ i,t≤i→i<t+m→(zk7 m t w).getD i 0=s2N ((zk7 m t w).getD (i-16) 0) ((zk7 m t w).getD (i-15) 0) ((zk7 m t w).getD (i-7) 0) ((zk7 m t w).getD (i-2) 0)
 | 0,t,w,_,_,_=>⟨fun _ _=>rfl,fun i h1 h2=>by omega⟩
 | m+1,t,w,hw,h16,hm=>by
  simp only [zk7,zkH]
  obtain ⟨g1,g2⟩:=zBt m (t+1) (w.set t (s2N (w.getD (t-16) 0) (w.getD (t-15) 0) (w.getD (t-7) 0) (w.getD (t-2) 0))) (by simpa using hw) (by omega) (by omega)
  have low:∀ i,i<t→(zk7 m (t+1) (w.set t (s2N (w.getD (t-16) 0) (w.getD (t-15) 0) (w.getD (t-7) 0) (w.getD (t-2) 0)))).getD i 0=w.getD i 0:=fun i hi=>by
   rw [g1 i (by omega),zDj (by omega)]
  refine ⟨low,fun i h1 h2=>?_⟩
  by_cases e:i=t
  ·subst e
   rw [low (i-16) (by omega),low (i-15) (by omega),low (i-7) (by omega),low (i-2) (by omega),g1 i (by omega),zDH (by omega)]
  ·exact g2 i (by omega) (by omega)
theorem zIV(l:List Nat):∀ (m t:Nat) (w:List Nat),w.length=64→t+m≤64→(∀ i,i<t→(zmt m t l w).getD i 0=w.getD i 0)∧∀ i,t≤i→i<t+m→(zmt m t l w).getD i 0=zp3 l i
 | 0,t,w,_,_=>⟨fun _ _=>rfl,fun i h1 h2=>by omega⟩
 | m+1,t,w,hw,hm=>by
  simp only [zmt,zkH]
  obtain ⟨g1,g2⟩:=zIV l m (t+1) (w.set t (zp3 l t)) (by simpa using hw) (by omega)
  refine ⟨fun i hi=>by rw [g1 i (by omega),zDj (by omega)],fun i h1 h2=>?_⟩
  by_cases e:i=t
  ·subst e; rw [g1 i (by omega),zDH (by omega)]
  ·exact g2 i (by omega) (by omega)
theorem zzz(l:List Nat):∀ (m t:Nat) (w:List Nat),(zmt m t l w).length=w.length
 | 0,_,_=>rfl
 | m+1,t,w=>by simp only [zmt,zkH]; rw [zzz]; simp
theorem zN6(l:List Nat){i:Nat}(h:i<16):(zfi l).getD i 0=zp3 l i:=by
 unfold zfi
 have hl:(zmt 16 0 l (We 64 0)).length=64:=by rw [zzz]; simp
 rw [(zBt 48 16 _ hl (by omega) (by omega)).1 i h]
 exact (zIV l 16 0 _ (by simp) (by omega)).2 i (by omega) (by omega)
theorem zMO(l:List Nat){i:Nat}(h1:16≤i)(h2:i<64):(zfi l).getD i 0=s2N ((zfi l).getD (i-16) 0) ((zfi l).getD (i-15) 0) ((zfi l).getD (i-7) 0) ((zfi l).getD (i-2) 0):=by
 have hl:(zmt 16 0 l (We 64 0)).length=64:=by rw [zzz]; simp
 exact (zBt 48 16 _ hl (by omega) (by omega)).2 i h1 (by omega)
theorem zFs:∀ (n:Nat) (l:List Nat),l.length=4*n→(zzT l).length=n∧∀ i,i<n→(zzT l).getD i 0=zp3 l i
 | 0,l,h=>by
  have:l=[]:=List.length_eq_zero_iff.1 (by omega)
  subst this
  exact ⟨rfl,fun i hi=>by omega⟩
 | n+1,l,h=>by
  match l,h with
  | a::b::c::d::r,h=>
   obtain ⟨g1,g2⟩:=zFs n r (by simp at h; omega)
   simp only [zzT,zkH]
   refine ⟨by simp [g1],fun i hi=>?_⟩
   match i with
   | 0=>rfl
   | i+1=>
    rw [X9,g2 i (by omega)]
    unfold zp3
    rw [show 4*(i+1)+1=(4*i+1)+1+1+1+1 by omega,show 4*(i+1)+2=(4*i+2)+1+1+1+1 by omega,show 4*(i+1)+3=(4*i+3)+1+1+1+1 by omega,show 4*(i+1)=4*i+1+1+1+1 by omega]
    simp only [X9]
theorem zRo(l:List Nat):∀ (ks:List Nat) (t w0 w1 w2 w3 w4 w5 w6 w7 w8 w9 w10 w11 w12 w13 w14 w15 a b c d e f g h:Nat),t+ks.length=64→(∀ i,i<16→t+i<64→([w0,w1,w2,w3,w4,w5,w6,w7,w8,w9,w10,w11,w12,w13,w14,w15]:List Nat).getD i 0=(zfi l).getD (t+i) 0)→goN ks w0 w1 w2 w3 w4 w5 w6 w7 w8 w9 w10 w11 w12 w13 w14 w15 a b c d e f g h=zsR (zfi l) ks t a b c d e f g h
 | [],t,w0,w1,w2,w3,w4,w5,w6,w7,w8,w9,w10,w11,w12,w13,w14,w15,a,b,c,d,e,f,g,h,_,_=>rfl
 | kk::ks,t,w0,w1,w2,w3,w4,w5,w6,w7,w8,w9,w10,w11,w12,w13,w14,w15,a,b,c,d,e,f,g,h,ht,hw=>by
  simp only [XQ] at ht
  simp only [goN,zsR,zkH]
  rw [show (zfi l).getD t 0=w0 from (hw 0 (by omega) (by omega)).symm]
  refine zRo l ks (t+1) _ _ _ _ _ _ _ _ _ _ _ _ _ _ _ _ _ _ _ _ _ _ _ _ (by omega) fun i hi hlt=>?_
  have e:∀ v:Nat,([w1,w2,w3,w4,w5,w6,w7,w8,w9,w10,w11,w12,w13,w14,w15,v]:List Nat).getD i 0=(([w0,w1,w2,w3,w4,w5,w6,w7,w8,w9,w10,w11,w12,w13,w14,w15]:List Nat)++[v]).getD (i+1) 0:=fun v=>rfl
  rw [e]
  by_cases h15:i<15
  ·rw [Ws,List.getElem?_append_left (by show i+1<16; omega),← Ws,hw (i+1) (by omega) (by omega),show t+(i+1)=t+1+i by omega]
  ·have:i=15:=by omega
   subst this
   show s2N w0 w1 w9 w14=_
   rw [show t+1+15=t+16 by omega,zMO l (by omega) (by omega)]
   rw [show t+16-16=t+0 by omega,show t+16-15=t+1 by omega,show t+16-7=t+9 by omega,show t+16-2=t+14 by omega]
   rw [← hw 0 (by omega) (by omega),← hw 1 (by omega) (by omega),← hw 9 (by omega) (by omega),← hw 14 (by omega) (by omega)]
   rfl
theorem zVX{l:List Nat}(h:l.length=16):∃ w0 w1 w2 w3 w4 w5 w6 w7 w8 w9 w10 w11 w12 w13 w14 w15,l=[w0,w1,w2,w3,w4,w5,w6,w7,w8,w9,w10,w11,w12,w13,w14,w15]:=by
 match l,h with
 | [w0,w1,w2,w3,w4,w5,w6,w7,w8,w9,w10,w11,w12,w13,w14,w15],_=>exact ⟨w0,w1,w2,w3,w4,w5,w6,w7,w8,w9,w10,w11,w12,w13,w14,w15,rfl⟩
theorem zSu{hs l:List Nat}(h8:hs.length=8)(hl:l.length=64):zBV hs l=zBI hs l:=by
 obtain ⟨a,b,c,d,e,f,g,h,rfl⟩:=zO1 h8
 obtain ⟨g1,g2⟩:=zFs 16 l (by omega)
 obtain ⟨w0,w1,w2,w3,w4,w5,w6,w7,w8,w9,w10,w11,w12,w13,w14,w15,hw⟩:=zVX g1
 unfold zBV zBI
 simp only [hw]
 refine congrArg (zEE [a,b,c,d,e,f,g,h]) (?_:goN kcN w0 w1 w2 w3 w4 w5 w6 w7 w8 w9 w10 w11 w12 w13 w14 w15 a b c d e f g h=zsR (zfi l) kcN 0 a b c d e f g h)
 refine zRo l kcN 0 _ _ _ _ _ _ _ _ _ _ _ _ _ _ _ _ _ _ _ _ _ _ _ _ rfl fun i hi _=>?_
 rw [WB,zN6 l hi,← g2 i hi,hw]
theorem zVi{hs l:List Nat}(h8:hs.length=8)(hsm:zg7 hs)(hl:zdK l)(h64:l.length=64):zye (zF hs) (zF l)=zF (zBV hs l)∧(zBV hs l).length=8∧zg7 (zBV hs l):=by
 rw [zSu h8 h64]; exact zTT h8 hsm hl
theorem zOT(l:List Nat)(n m:Nat):((zF l).drop n).take m=zF ((l.drop n).take m):=by simp only [zF,List.map_drop,List.map_take]
theorem zQg{l:List Nat}(h:zdK l)(n m:Nat):zdK ((l.drop n).take m):=fun x hx=>h x (WU (WV hx))
theorem zP0{p:List Nat}(hp:zdK p):∀ (m i:Nat) (h:List Nat),64*(i+m)≤p.length→h.length=8→zg7 h→zAV m i (zF p) (zF h)=zF (zBO m i p h)∧(zBO m i p h).length=8∧zg7 (zBO m i p h)
 | 0,_,_,_,h1,h2=>⟨rfl,h1,h2⟩
 | m+1,i,h,hl,h1,h2=>by
  simp only [zAV,zBO]
  obtain ⟨e1,e2,e3⟩:=zVi h1 h2 (zQg hp (64*i) 64) (by rw [Ww,XS]; omega)
  rw [zOT,e1]
  exact zP0 hp m (i+1) _ (by omega) e2 e3
theorem zPi:init0=zF init0N∧init0N.length=8:=⟨by kernel_rfl,rfl⟩
theorem zOK:zg7 init0N:=by
 have:init0N.all (fun x=>decide (x<4294967296))=true:=by kernel_rfl
 intro x hx
 simpa using List.all_eq_true.1 this x hx
theorem zP4(k:IntKind)(x i:Nat)(hi:i≤k.bits):QG .u8 (zcS k (x:Int) ((i:Nat):Int))=((zg2 x i:Nat):Int):=by
 rw [zF4 k _ _ hi]
 show ((X5 x i:Nat):Int) % ((256:Nat):Int)=_
 rw [← X8]; rfl
theorem zV9{h:List Nat}(h8:h.length=8):zqS (zF h)=zF (zBX h):=by
 obtain ⟨a,b,c,d,e,f,g,i,rfl⟩:=zO1 h8
 have q:∀ (x j:Nat),j≤32→QG .u8 (zcS .u32 (x:Int) ((j:Nat):Int))=((zg2 x j:Nat):Int):=fun x j hj=>zP4 .u32 x j hj
 have r:List.range 32=[0,1,2,3,4,5,6,7,8,9,10,11,12,13,14,15,16,17,18,19,20,21,22,23,24,25,26,27,28,29,30,31]:=by kernel_rfl
 simp only [zqS,r,QW,X2,ob,zqp]
 simp only [zBX,zF,QW,X2]
 rw [← q a 24 (by decide),← q a 16 (by decide),← q a 8 (by decide),← q a 0 (by decide),← q b 24 (by decide),← q b 16 (by decide),← q b 8 (by decide),← q b 0 (by decide),← q c 24 (by decide),← q c 16 (by decide),← q c 8 (by decide),← q c 0 (by decide),← q d 24 (by decide),← q d 16 (by decide),← q d 8 (by decide),← q d 0 (by decide),← q e 24 (by decide),← q e 16 (by decide),← q e 8 (by decide),← q e 0 (by decide),← q f 24 (by decide),← q f 16 (by decide),← q f 8 (by decide),← q f 0 (by decide),← q g 24 (by decide),← q g 16 (by decide),← q g 8 (by decide),← q g 0 (by decide),← q i 24 (by decide),← q i 16 (by decide),← q i 8 (by decide),← q i 0 (by decide)]
 rfl
theorem ztd(x i:Nat):zg2 x i≤255:=by
 have:zg2 x i<256:=Nat.mod_lt _ (by decide)
 omega
theorem zDE:∀ l:List Nat,zdK (zBX l)
 | []=>fun x hx=>by cases hx
 | y::ys=>fun x hx=>by
  simp only [zBX,Q9] at hx
  rcases hx with rfl | rfl | rfl | rfl | h
  ·exact ztd _ _
  ·exact ztd _ _
  ·exact ztd _ _
  ·exact ztd _ _
  ·exact zDE ys x h
theorem zzH{n:Nat}(hn:n≤100000000)(i:Nat)(hi:i≤7):pb n i=((zg2 (8*n) (56-8*i):Nat):Int):=by
 unfold pb
 have:QG .u64 ((8:Int)*(n:Int))=((8*n:Nat):Int):=by
  show ((8:Int)*(n:Int)) % ((18446744073709551616:Nat):Int)=_
  omega
 rw [this]
 exact zP4 .u64 _ _ (by show 56-8*i≤64; omega)
theorem zWJ{n:Nat}(hn:n≤100000000):zeL n=zF (zsF n):=by
 unfold zeL zsF
 simp only [zF,X0,QW,List.map_replicate]
 congr 1
 simp only [pbs,zSg,QW,X2]
 rw [zzH hn 0 (by decide),zzH hn 1 (by decide),zzH hn 2 (by decide),zzH hn 3 (by decide),zzH hn 4 (by decide),zzH hn 5 (by decide),zzH hn 6 (by decide),zzH hn 7 (by decide)]
theorem zOW(n:Nat):zdK (zsF n):=by
 intro x hx
 simp only [zsF,zSg,QD,Q9,Yj,or_false] at hx
 rcases hx with (rfl | h) | h
 ·decide
 ·rw [(Yr.1 h).2]; decide
 ·rcases h with rfl | rfl | rfl | rfl | rfl | rfl | rfl | rfl <;> exact ztd _ _
theorem zKf{l:List Nat}(hn:l.length≤100000000)(hl:zdK l):zq5 (zF l)=zF (zre l)∧zdK (zre l):=by
 have e:zF l++zeL (zF l).length=zF (l++zsF l.length):=by
  rw [show (zF l).length=l.length by simp [zF],zWJ hn]; simp [zF]
 have hb:zdK (l++zsF l.length):=fun x hx=>(QD.1 hx).elim (hl x) (zOW _ x)
 unfold zq5 zre
 rw [e,show (zF (l++zsF l.length)).length=(l++zsF l.length).length by simp [zF],zPi.1]
 obtain ⟨e1,e2,e3⟩:=zP0 hb ((l++zsF l.length).length / 64) 0 init0N (by rw [WB]; exact Nat.mul_div_le _ _) zPi.2 zOK
 rw [e1,zV9 e2]
 exact ⟨rfl,zDE _⟩
theorem zFr:∀ {l:List Int},(∀ x∈l,0≤x∧x≤255)→l=zF (l.map XJ)
 | [],_=>rfl
 | x::l,h=>by
  have hx:=h x (by simp)
  simp only [zF,QW]
  rw [show ((x.toNat:Nat):Int)=x by omega]
  congr 1
  exact zFr fun y hy=>h y (by simp [hy])
theorem zMq{l:List Int}(h:∀ x∈l,0≤x∧x≤255):zdK (l.map XJ):=fun x hx=>by
 obtain ⟨y,hy,rfl⟩:=Xz.1 hx
 have:=h y hy
 omega
def zxC(l:List Nat):List Nat:=zre (zre l)
theorem zWN{l:List Int}(hn:l.length≤100000000)(h:∀ x∈l,0≤x∧x≤255):zKS l=zF (zxC (l.map XJ)):=by
 have e:=zFr h
 have hb:=zMq h
 generalize hm:l.map XJ=m at *
 have hlen:m.length≤100000000:=by rw [← hm]; simpa using hn
 subst e
 unfold zKS zxC
 obtain ⟨e1,e2⟩:=zKf hlen hb
 rw [e1]
 have h32:(zre m).length=32:=by
  have:=zaP (zF m)
  rw [e1] at this; simpa [zF] using this
 exact (zKf (by rw [h32]; decide) e2).1
end
section
theorem zsZ{T:Nat→Option CF}{L g D:Nat}{d d':Dk}(h:FOk T L g d D)(hd:DK d' d):FOk T L g d' D:=fun n hn β args bor k r hr=>h n hn β args bor k r (hd _ _ _ _ _ hr)
def zFy:Ls→Option (List Nat)
 | []=>some []
 | [.sc (.int .u8 (.ofNat n))]::r=>match Nat.ble n 255 with
  | true=>(zFy r).map (n::·)
  | false=>none
 | _=>none
theorem zGv:∀ {es:Ls} {l:List Nat},zFy es=some l→es=ze .u8 (zF l)∧zdK l
 | [],l,h=>by cases h; exact ⟨rfl,fun x hx=>by cases hx⟩
 | e::r,l,h=>by
  unfold zFy at h
  split at h
  ·rename_i he; cases he
  ·rename_i n r' he
   cases he
   split at h
   ·rename_i hn
    rw [Option.map_eq_some_iff] at h
    obtain ⟨m,hm,rfl⟩:=h
    obtain ⟨e1,e2⟩:=zGv hm
    refine ⟨by rw [e1]; rfl,fun x hx=>?_⟩
    rcases Q9.1 hx with rfl | h'
    ·exact Yd hn
    ·exact e2 x h'
   ·cases h
  ·cases h
def zSn(l:List Nat):List V:=l.map fun n=>V.sc (.int .u8 (.ofNat n))
theorem zT1(l:List Nat):zSn l=row .u8 (zF l):=by
 simp only [zSn,row,zF,Ys]; rfl
def zjV(f:List Nat→List Nat)(L:Nat):Dk:=fun β a b k=>match a with
 | [.sl 1 es]=>(match b with
  | []=>(match zFy es with
   | some l=>(match Nat.ble (l.length+300) L&&Nat.ble l.length 100000000 with
    | true=>k (.agg (zSn (f l))) []
    | false=>none)
   | none=>none)
  | _=>none)
 | _=>none
theorem zuq{f:List Nat→List Nat}{L:Nat}{β:Type}{a:List V}{b:Bor}{k:V→Bor→Option β}{r:β}(h:zjV f L β a b k=some r):∃ l,a=[.sl 1 (ze .u8 (zF l))]∧b=[]∧zdK l∧l.length+300≤L∧l.length≤100000000∧k (.agg (row .u8 (zF (f l)))) []=some r:=by
 unfold zjV at h
 split at h
 ·split at h
  ·split at h
   ·rename_i l hl
    split at h
    ·rename_i hc
     rw [Bool.and_eq_true] at hc
     obtain ⟨rfl,hb⟩:=zGv hl
     exact ⟨l,rfl,rfl,hb,Yd hc.1,Yd hc.2,by rw [← zT1]; exact h⟩
    ·cases h
   ·cases h
  ·cases h
 ·cases h
theorem zgX(l:List Nat):(zF l).length=l.length:=by simp [zF]
theorem ztu{l:List Nat}(h:zdK l):∀ x∈zF l,0≤x∧x≤255:=fun x hx=>by
 obtain ⟨y,hy,rfl⟩:=Xz.1 hx
 have:=h y hy
 omega
theorem zRs(l:List Nat):(zF l).map XJ=l:=by
 simp only [zF,Ys]
 exact (Yp fun x _=>(by simp:(XJ ∘ fun (n:Nat)=>(n:Int)) x=id x)).trans (List.map_id l)
theorem zTo{l:List Nat}(hn:l.length≤100000000)(h:zdK l):zKS (zF l)=zF (zxC l):=by
 have:=zWN (l:=zF l) (by rw [zgX]; exact hn) (ztu h)
 rwa [zRs] at this
theorem zC1(L:Nat):DK (zjV zxC L) (zo1 zc5 L):=by
 intro β a b k r h
 obtain ⟨l,rfl,rfl,hb,h1,h2,hk⟩:=zuq h
 show zc5 β L (ze .u8 (zF l)) (fun p0=>k (V.agg p0) [])=some r
 rw [zOY (by rw [zgX]; omega) (by rw [zgX]; omega) (ztu hb),zTo h2 hb]; exact hk
theorem zIu(L:Nat):DK (zjV zre L) (zp8 xX L):=by
 intro β a b k r h
 obtain ⟨l,rfl,rfl,hb,h1,h2,hk⟩:=zuq h
 show xX β L (ze .u8 (zF l)) (fun p0=>k (V.agg p0) [])=some r
 rw [zHO (by rw [zgX]; omega) (by rw [zgX]; omega) (ztu hb),(zKf h2 hb).1]; exact hk
theorem zG9(L:Nat):DK (zjV zxC L) (ztN zeM L):=by
 intro β a b k r h
 obtain ⟨l,rfl,rfl,hb,h1,h2,hk⟩:=zuq h
 show zeM β L (ze .u8 (zF l)) (fun p0=>k (V.agg p0) [])=some r
 rw [zRf (by rw [zgX]; omega) (by rw [zgX]; omega) (ztu hb),zTo h2 hb]; exact hk
theorem zLI(L:Nat):DK (zjV zre L) (zuD zaD L):=by
 intro β a b k r h
 obtain ⟨l,rfl,rfl,hb,h1,h2,hk⟩:=zuq h
 show zaD β L (ze .u8 (zF l)) (fun p0=>k (V.agg p0) [])=some r
 rw [zMd (by rw [zgX]; omega) (by rw [zgX]; omega) (ztu hb),(zKf h2 hb).1]; exact hk
end
section
theorem zUK(β:Type)(n:Nat)(k:List V→Int→Option β):zej β (n+300) 545259519 k=k [.sc (.int .u64 0),.sc (.int .u64 0),.sc (.int .u64 0),.sc (.int .u64 9223370937343148032)] 0:=by kernel_rfl
def zOJ(L:Nat):Dk:=dA (AI .u32) fun x=>d0 fun β k=>chk (x=545259519∧300≤L) (k (.tup [.agg [.sc (.int .u64 0),.sc (.int .u64 0),.sc (.int .u64 0),.sc (.int .u64 9223370937343148032)],.sc (.int .i64 0)]) [])
theorem zCQ(L:Nat):DK (zOJ L) (zpb zej L):=by
 refine xp xY fun x=>?_
 intro β a b k r h
 obtain ⟨rfl,rfl,h2⟩:=zLF h
 obtain ⟨hc,h3⟩:=zr h2
 obtain ⟨rfl,hL⟩:=hc
 obtain ⟨n,rfl⟩:∃ n,L=n+300:=⟨L-300,by omega⟩
 show zej β (n+300) 545259519 (fun p0 p1=>k (V.tup [V.agg p0,V.sc (.int .i64 p1)]) [])=some r
 rw [zUK]; exact h3
end
end Go.Proofs.YtgmhijonllockaaGreatDoor
