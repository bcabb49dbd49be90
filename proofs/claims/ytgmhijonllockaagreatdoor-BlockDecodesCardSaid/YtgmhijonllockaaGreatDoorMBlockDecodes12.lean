/- Part 12 of the proof of BlockDecodes: an abstract machine over plain values, its soundness, and the functions of the program on plain values. -/
import Derived.Test.YtgmhijonllockaaGreatDoorMBlockDecodes11
namespace Go.Proofs.YtgmhijonllockaaGreatDoor
set_option maxRecDepth 100000
set_option linter.unusedVariables false
set_option linter.unusedSimpArgs false
open List renaming length_cons->XQ,length_map->QB,length_nil->XR,append_assoc->Wu,length->XI,replicate->We,length_take->Ww,length_drop->XS,take->XK,take_of_length_le->Xy,mem_cons->Q9,nil_append->XT,set_append_right->XU,map_cons->QW,length_append->Wm,append_nil->XV,mem_append->QD,length_replicate->XW,singleton_append->XX,mem_map->Xz,getElem?_append_right->Wt,flatten_cons->WL,map_append->X0,length_set->QI,drop_append->X1,map_nil->X2
open IntKind renaming wrap->QG
open Nat renaming sub_zero->XY,zero_add->WB
open Int renaming toNat_natCast->XZ,toNat->XJ
open Bool renaming not_true->Xh
section
variable {β:Type}
def zdi{α:Type}(r:Except Int (α × Nat))(k:α→Nat→Option β)(b:Int→Option β):Option β:=match r with
 | .ok (v,a)=>k v a
 | .error e=>b e
theorem xH{α:Type}(v:α)(a:Nat)(k:α→Nat→Option β)(b:Int→Option β):zdi (.ok (v,a)) k b=k v a:=rfl
theorem yQ{α:Type}(e:Int)(k:α→Nat→Option β)(b:Int→Option β):zdi (.error e) k b=b e:=rfl
def gN(j:List Int)(w a:Nat):Except Int (Nat × Nat):=if a+w≤j.length then .ok (le j a w,a+w) else .error 1
theorem zE8(j:List Int)(w a:Nat)(k:Nat→Nat→Option β)(b:Int→Option β):zdi (gN j w a) k b=if a+w≤j.length then k (le j a w) (a+w) else b 1:=by
 unfold gN; split <;> rfl
def zyu(j:List Int)(w lo most a:Nat):Except Int (Nat × Nat):=if a+w≤j.length then (if le j a w<lo then .error 3 else if le j a w>most then .error 4 else .ok (le j a w,a+w)) else .error 1
def zbA(j:List Int)(most a:Nat):Except Int (Nat × Nat):=if a+1≤j.length then
  (if le j a 1<253 then (if le j a 1>most then .error 4 else .ok (le j a 1,a+1))
  else if le j a 1=253 then zyu j 2 253 most (a+1) else if le j a 1=254 then zyu j 4 65536 most (a+1) else zyu j 8 4294967296 most (a+1))
 else .error 1
theorem zo6(j:List Int)(w lo most a:Nat)(k:Nat→Nat→Option β)(b:Int→Option β):zdi (zyu j w lo most a) k b=if a+w≤j.length then (if le j a w<lo then b 3 else if le j a w>most then b 4 else k (le j a w) (a+w)) else b 1:=by
 unfold zyu; (repeat' split) <;> rfl
theorem lt1{j:List Int}(hb:Byt j)(a:Nat):le j a 1<256:=zuG hb a 1
theorem lt2{j:List Int}(hb:Byt j)(a:Nat):le j a 2<65536:=zuG hb a 2
theorem lt4{j:List Int}(hb:Byt j)(a:Nat):le j a 4<4294967296:=zuG hb a 4
theorem lt8{j:List Int}(hb:Byt j)(a:Nat):le j a 8<18446744073709551616:=zuG hb a 8
theorem zH1{L:Nat}(hL:20≤L){j:List Int}(hb:Byt j)(hj:j.length≤100000000){a:Nat}(most:Nat)(ha:a≤j.length)(k:Int→Int→Int→Option β):xl β L (ze .u8 j) (a:Int) (most:Int) k=zdi (zbA j most a) (fun v a'=>k (v:Int) (a':Int) 0) (fun e=>k 0 0 e):=by
 have h1:=lt1 hb a
 unfold xl zts
 rw [zWI hL hb hj ha]
 unfold zbA
 by_cases h:a+1≤j.length
 ·rw [if_pos h,if_pos h]
  try dsimp only
  rw [xm,if_pos rfl,zaQ (by omega) (by omega),zd]
  rcases (by omega:le j a 1<253∨le j a 1=253∨le j a 1=254∨le j a 1=255) with hc | hc | hc | hc
  ·rw [zao (by omega),zao (by omega),zao (by omega),xm,if_pos rfl,yq (by omega),zba,if_pos hc]
   by_cases hm:le j a 1>most
   ·rw [if_pos (by omega),if_pos hm]; rfl
   ·rw [if_neg (by omega),if_neg hm]; rfl
  ·have h2:=lt2 hb (a+1)
   rw [if_neg (by omega),if_pos hc,zo6,zbq (by omega),zVy hL hb hj h]
   by_cases h3:a+1+2≤j.length
   ·rw [if_pos h3,if_pos h3]
    try dsimp only
    rw [zaQ (by omega) (by omega),zd,xm,if_pos rfl,zba,zba]
    by_cases h4:le j (a+1) 2<253
    ·rw [if_pos (by omega),if_pos h4]
    ·rw [if_neg (by omega),if_neg h4]
     by_cases h5:le j (a+1) 2>most
     ·rw [if_pos (by omega),if_pos h5]
     ·rw [if_neg (by omega),if_neg h5]
   ·rw [if_neg h3,if_neg h3]
    try dsimp only
    rw [zaQ (by decide) (by decide),zd,xm,if_neg (by decide)]
  ·have h2:=lt4 hb (a+1)
   rw [if_neg (by omega),if_neg (by omega),if_pos hc,zo6,zao (by omega),zbq (by omega),zwf hL hb hj h]
   by_cases h3:a+1+4≤j.length
   ·rw [if_pos h3,if_pos h3]
    try dsimp only
    rw [zaQ (by omega) (by omega),zd,xm,if_pos rfl,zba,zba]
    by_cases h4:le j (a+1) 4<65536
    ·rw [if_pos (by omega),if_pos h4]
    ·rw [if_neg (by omega),if_neg h4]
     by_cases h5:le j (a+1) 4>most
     ·rw [if_pos (by omega),if_pos h5]
     ·rw [if_neg (by omega),if_neg h5]
   ·rw [if_neg h3,if_neg h3]
    try dsimp only
    rw [zaQ (by decide) (by decide),zd,xm,if_neg (by decide)]
  ·have h2:=lt8 hb (a+1)
   rw [if_neg (by omega),if_neg (by omega),if_neg (by omega),zo6,zao (by omega),zao (by omega),zbq (by omega),zPI hL hb hj h]
   by_cases h3:a+1+8≤j.length
   ·rw [if_pos h3,if_pos h3]
    try dsimp only
    rw [xm,if_pos rfl,zba,zba]
    by_cases h4:le j (a+1) 8<4294967296
    ·rw [if_pos (by omega),if_pos h4]
    ·rw [if_neg (by omega),if_neg h4]
     by_cases h5:le j (a+1) 8>most
     ·rw [if_pos (by omega),if_pos h5]
     ·rw [if_neg (by omega),if_neg h5]
   ·rw [if_neg h3,if_neg h3]
    try dsimp only
    rw [xm,if_neg (by decide)]
 ·rw [if_neg h,if_neg h]
  try dsimp only
  rw [xm,if_neg (by decide)]
  rfl
theorem zEe{L:Nat}(hL:20≤L){j:List Int}(hb:Byt j)(hj:j.length≤100000000){a:Nat}(most:Nat)(ha:a≤j.length)(k:Int→Int→Int→Option β):zm β L (ze .u8 j) (a:Int) (most:Int) k=zdi (zbA j most a) (fun v a'=>k (v:Int) (a':Int) 0) (fun e=>k 0 0 e):=by
 have h1:=lt1 hb a
 unfold zm zs9
 refine (zxh hL hb hj ha (w:=1) (by decide) _).trans ?_
 unfold zbA
 by_cases h:a+1≤j.length
 ·rw [if_pos h,if_pos h]
  try dsimp only
  rw [xm,if_pos rfl]
  rcases (by omega:le j a 1<253∨le j a 1=253∨le j a 1=254∨le j a 1=255) with hc | hc | hc | hc
  ·rw [yq (by omega),zba,if_pos hc]
   by_cases hm:le j a 1>most
   ·rw [if_pos (by omega),if_pos hm]; rfl
   ·rw [if_neg (by omega),if_neg hm]; rfl
  ·have h2:=lt2 hb (a+1)
   rw [if_neg (by omega),if_pos hc,zo6,xz (by omega),show QG .u64 (((le j a 1:Nat):Int)-253)=0 by rw [hc]; decide,zd,ya (by decide),show zct .i64 (2:Int) 0=((2:Nat):Int) by decide,zd,zxh hL hb hj h (by decide)]
   by_cases h3:a+1+2≤j.length
   ·rw [if_pos h3,if_pos h3]
    try dsimp only
    rw [xm,if_pos rfl,zbq (by omega),zba]
    by_cases h4:le j (a+1) 2<253
    ·rw [if_pos (by omega),if_pos h4]
    ·rw [if_neg (by omega),if_neg h4,zao (by omega),zao (by omega),zba]
     by_cases h5:le j (a+1) 2>most
     ·rw [if_pos (by omega),if_pos h5]
     ·rw [if_neg (by omega),if_neg h5]
   ·rw [if_neg h3,if_neg h3]
    try dsimp only
    rw [xm,if_neg (by decide)]
  ·have h2:=lt4 hb (a+1)
   rw [if_neg (by omega),if_neg (by omega),if_pos hc,zo6,xz (by omega),show QG .u64 (((le j a 1:Nat):Int)-253)=1 by rw [hc]; decide,zd,ya (by decide),show zct .i64 (2:Int) 1=((4:Nat):Int) by decide,zd,zxh hL hb hj h (by decide)]
   by_cases h3:a+1+4≤j.length
   ·rw [if_pos h3,if_pos h3]
    try dsimp only
    rw [xm,if_pos rfl,zao (by omega),zbq (by omega),zba]
    by_cases h4:le j (a+1) 4<65536
    ·rw [if_pos (by omega),if_pos h4]
    ·rw [if_neg (by omega),if_neg h4,zao (by omega),zba]
     by_cases h5:le j (a+1) 4>most
     ·rw [if_pos (by omega),if_pos h5]
     ·rw [if_neg (by omega),if_neg h5]
   ·rw [if_neg h3,if_neg h3]
    try dsimp only
    rw [xm,if_neg (by decide)]
  ·have h2:=lt8 hb (a+1)
   rw [if_neg (by omega),if_neg (by omega),if_neg (by omega),zo6,xz (by omega),show QG .u64 (((le j a 1:Nat):Int)-253)=2 by rw [hc]; decide,zd,ya (by decide),show zct .i64 (2:Int) 2=((8:Nat):Int) by decide,zd,zxh hL hb hj h (by decide)]
   by_cases h3:a+1+8≤j.length
   ·rw [if_pos h3,if_pos h3]
    try dsimp only
    rw [xm,if_pos rfl,zao (by omega),zao (by omega),zbq (by omega),zba]
    by_cases h4:le j (a+1) 8<4294967296
    ·rw [if_pos (by omega),if_pos h4]
    ·rw [if_neg (by omega),if_neg h4,zba]
     by_cases h5:le j (a+1) 8>most
     ·rw [if_pos (by omega),if_pos h5]
     ·rw [if_neg (by omega),if_neg h5]
   ·rw [if_neg h3,if_neg h3]
    try dsimp only
    rw [xm,if_neg (by decide)]
 ·rw [if_neg h,if_neg h]
  try dsimp only
  rw [xm,if_neg (by decide)]
  rfl
end
section
def zbu(w:List (List Int)):Ls:=w.map fun b=>[V.sl 1 (ze .u8 b)]
structure Inp where
 pv:List Int
 seq:Int
 wit:List (List Int)
structure Outp where
 val:Int
 scr:List Int
structure TxT where
 ver:Int
 ins:List Inp
 outs:List Outp
 lock:Int
def zek(x:Inp):List V:=[V.sc (.int .u8 (x.pv.getD 0 0)),V.sc (.int .u8 (x.pv.getD 1 0)),V.sc (.int .u8 (x.pv.getD 2 0)),V.sc (.int .u8 (x.pv.getD 3 0)),V.sc (.int .u8 (x.pv.getD 4 0)),V.sc (.int .u8 (x.pv.getD 5 0)),V.sc (.int .u8 (x.pv.getD 6 0)),V.sc (.int .u8 (x.pv.getD 7 0)),V.sc (.int .u8 (x.pv.getD 8 0)),V.sc (.int .u8 (x.pv.getD 9 0)),V.sc (.int .u8 (x.pv.getD 10 0)),V.sc (.int .u8 (x.pv.getD 11 0)),V.sc (.int .u8 (x.pv.getD 12 0)),V.sc (.int .u8 (x.pv.getD 13 0)),V.sc (.int .u8 (x.pv.getD 14 0)),V.sc (.int .u8 (x.pv.getD 15 0)),V.sc (.int .u8 (x.pv.getD 16 0)),V.sc (.int .u8 (x.pv.getD 17 0)),V.sc (.int .u8 (x.pv.getD 18 0)),V.sc (.int .u8 (x.pv.getD 19 0)),V.sc (.int .u8 (x.pv.getD 20 0)),V.sc (.int .u8 (x.pv.getD 21 0)),V.sc (.int .u8 (x.pv.getD 22 0)),V.sc (.int .u8 (x.pv.getD 23 0)),V.sc (.int .u8 (x.pv.getD 24 0)),V.sc (.int .u8 (x.pv.getD 25 0)),V.sc (.int .u8 (x.pv.getD 26 0)),V.sc (.int .u8 (x.pv.getD 27 0)),V.sc (.int .u8 (x.pv.getD 28 0)),V.sc (.int .u8 (x.pv.getD 29 0)),V.sc (.int .u8 (x.pv.getD 30 0)),V.sc (.int .u8 (x.pv.getD 31 0)),V.sc (.int .u32 (x.pv.getD 32 0)),V.sc (.int .u32 x.seq),V.sl 1 (zbu x.wit)]
def zcu(o:Outp):List V:=[V.sc (.int .i64 o.val),V.sl 1 (ze .u8 o.scr)]
def zaK(t:TxT):List V:=[V.sc (.int .u32 t.ver),V.sl 35 (t.ins.map zek),V.sl 2 (t.outs.map zcu),V.sc (.int .u32 t.lock)]
section
variable {β:Type}
theorem zKu(x:Inp)(k:Int→Option β):cI .u32 (zek x) 33 k=k x.seq:=zsp rfl k
theorem zNt(x:Outp)(k:Int→Option β):cI .i64 (zcu x) 0 k=k x.val:=zsp rfl k
theorem zNM(x:TxT)(k:Int→Option β):cI .u32 (zaK x) 0 k=k x.ver:=zsp rfl k
theorem zMX(x:TxT)(k:Int→Option β):cI .u32 (zaK x) 3 k=k x.lock:=zsp rfl k
end
theorem zx5(x:Inp):(zek x).length=35:=by simp [zek]
theorem zQD(x:Inp):XK 35 (zek x)=zek x:=by simp [zek]
theorem zKZ(x:Outp):(zcu x).length=2:=by simp [zcu]
theorem ztL(x:TxT):(zaK x).length=4:=by simp [zaK]
theorem zL5(x:TxT):[V.sc (.int .u32 x.ver),V.sl 35 (x.ins.map zek),V.sl 2 (x.outs.map zcu),V.sc (.int .u32 x.lock)]=zaK x:=(by simp [zaK])
def zBL(l:List Int):Prop:=∀ n∈l,0≤n∧n≤255
structure InpOk (x:Inp):Prop where
 pv:x.pv.length=33
 by_:∀ j,j<32→0≤x.pv.getD j 0∧x.pv.getD j 0≤255
 ix:0≤x.pv.getD 32 0∧x.pv.getD 32 0≤4294967295
 seq:0≤x.seq∧x.seq≤4294967295
 wit:∀ b∈x.wit,zBL b∧b.length≤maxLen
 wl:x.wit.length≤maxLen
structure OutpOk (x:Outp):Prop where
 val:-9223372036854775808≤x.val∧x.val≤9223372036854775807
 scr:zBL x.scr
 sl:x.scr.length≤maxLen
structure TxOk (t:TxT):Prop where
 ver:0≤t.ver∧t.ver≤4294967295
 lock:0≤t.lock∧t.lock≤4294967295
 ins:∀ x∈t.ins,InpOk x
 outs:∀ x∈t.outs,OutpOk x
 il:t.ins.length≤maxLen
 ol:t.outs.length≤maxLen
theorem HasRow.tail{ct:CT}{cts:List CT}{vs:List V}(h:HasRow (ct::cts) vs):∃ v r,vs=v::r∧HasC ct v∧HasRow cts r:=by
 cases vs with
 | nil=>have:=h.1; simp at this
 | cons v r=>exact ⟨v,r,rfl,h.2 0 v ct rfl rfl,⟨by simpa using h.1,fun i c ct hc hct=>h.2 (i+1) c ct (by simpa using hc) (by simpa using hct)⟩⟩
theorem HasRow.nil{vs:List V}(h:HasRow [] vs):vs=[]:=List.length_eq_zero_iff.1 (by simpa using h.1)
end
section
variable {β:Type}
theorem zHY{j:List Int}{w lo most a n a1:Nat}(h:zyu j w lo most a=.ok (n,a1)):a1≤j.length∧n≤most:=by
 unfold zyu at h
 split at h
 ·split at h
  ·cases h
  ·split at h
   ·cases h
   ·cases h; omega
 ·cases h
theorem zHH{j:List Int}{w lo most a:Nat}{e:Int}(h:zyu j w lo most a=.error e):e≠0:=by
 unfold zyu at h
 split at h
 ·split at h
  ·cases h; decide
  ·split at h
   ·cases h; decide
   ·cases h
 ·cases h; decide
theorem zbn{j:List Int}{most a n a1:Nat}(h:zbA j most a=.ok (n,a1)):a1≤j.length∧n≤most:=by
 unfold zbA at h
 split at h
 ·split at h
  ·split at h
   ·cases h
   ·cases h; omega
  ·split at h
   ·exact zHY h
   ·split at h
    ·exact zHY h
    ·exact zHY h
 ·cases h
theorem zcY{j:List Int}{most a:Nat}{e:Int}(h:zbA j most a=.error e):e≠0:=by
 unfold zbA at h
 split at h
 ·split at h
  ·split at h
   ·cases h; decide
   ·cases h
  ·split at h
   ·exact zHH h
   ·split at h
    ·exact zHH h
    ·exact zHH h
 ·cases h; decide
theorem zmu{j:List Int}{w a n a1:Nat}(h:gN j w a=.ok (n,a1)):a1≤j.length:=by
 unfold gN at h
 split at h
 ·cases h; assumption
 ·cases h
theorem ziF{j:List Int}{w a:Nat}{e:Int}(h:gN j w a=.error e):e≠0:=by
 unfold gN at h
 split at h
 ·cases h
 ·cases h; decide
def zg4(j:List Int)(a:Nat):Except Int (List Int × Nat):=if a+32≤j.length then .ok ((j.drop a).take 32,a+32) else .error 1
def zdE(j:List Int)(most a:Nat):Except Int (List Int × Nat):=match zbA j most a with
 | .error e=>.error e
 | .ok (n,a1)=>if a1+n≤j.length then .ok ((j.drop a1).take n,a1+n) else .error 1
theorem zsy{j h:List Int}{a a1:Nat}(hh:zg4 j a=.ok (h,a1)):a1≤j.length∧h.length=32:=by
 unfold zg4 at hh
 split at hh
 ·cases hh; rw [Ww,XS]; omega
 ·cases hh
theorem zx4{j:List Int}{a:Nat}{e:Int}(h:zg4 j a=.error e):e≠0:=by
 unfold zg4 at h
 split at h
 ·cases h
 ·cases h; decide
theorem zqc{j h:List Int}{most a a1:Nat}(hh:zdE j most a=.ok (h,a1)):a1≤j.length∧h.length≤most:=by
 unfold zdE at hh
 split at hh
 ·cases hh
 ·rename_i n a2 hz
  have:=zbn hz
  split at hh
  ·cases hh; rw [Ww,XS]; omega
  ·cases hh
theorem zkh{j:List Int}{most a:Nat}{e:Int}(h:zdE j most a=.error e):e≠0:=by
 unfold zdE at h
 split at h
 ·rename_i e' hz; cases h; exact zcY hz
 ·split at h
  ·cases h
  ·cases h; decide
theorem zQV(L:Nat){x:List Int}(hx:x.length≤100000000)(k:Ls→Option β):zi β L (ze .u8 x) ([]:Ls) k=k (ze .u8 x):=by
 unfold zi zpz
 have hs:(100000000:Nat)≤zg:=by decide
 rw [xG,xr (by simp <;> omega) (by simp <;> omega),zd,ya (by simp; omega),ya (by simp [xG]; omega),zd,ya (by simp [xG]; omega),zd]
 simp
theorem zPx(L:Nat){x:List Int}(hx:x.length≤100000000)(k:Ls→Option β):xW β L ([]:Ls) (ze .u8 x) k=k (ze .u8 x):=by
 unfold xW zpJ
 have hs:(100000000:Nat)≤zg:=by decide
 rw [xG,xr (by simp <;> omega) (by simp <;> omega),zd,ya (by simp; omega),ya (by simp),zd,ya (by simp [xG]; omega),zd]
 simp
theorem zSd{L:Nat}(hL:20≤L){j:List Int}(hb:Byt j)(hj:j.length≤100000000){a:Nat}(most:Nat)(hm:most≤1000000)(ha:a≤j.length)(k:Ls→Int→Int→Option β):xZ β L (ze .u8 j) (a:Int) (most:Int) k=zdi (zdE j most a) (fun v a'=>k (ze .u8 v) (a':Int) 0) (fun e=>k [] 0 e):=by
 unfold xZ zrs
 rw [yq (by omega),zaQ (by omega) (by omega),zd,zH1 hL hb hj most ha]
 unfold zdE
 cases hz:zbA j most a with
 | error e=>rw [yQ,xm,if_neg (zcY hz)]; rfl
 | ok p=>
  obtain ⟨n,a1⟩:=p
  obtain ⟨h1,h2⟩:=zbn hz
  rw [xH,xm,if_pos rfl,xG,xr (by omega) (by omega),zd,zaQ (by omega) (by omega),zd,zba]
  by_cases h:a1+n≤j.length
  ·have e1:XJ ((a1:Int)+(n:Int))=a1+n:=by omega
   have e2:((a1:Int)+(n:Int))=((a1+n:Nat):Int):=by omega
   rw [if_neg (by omega),xr (by omega) (by omega),zd,xr (by omega) (by omega),zd,ya (by omega),ya (by omega),e1,XZ,show a1+n-a1=n by omega,zuP,zke,zQV L (by rw [Ww,XS]; omega),e2]
   simp only [if_pos h,xH]
  ·rw [if_pos (by omega)]
   simp only [if_neg h,yQ]
theorem zQ0{L:Nat}(hL:20≤L){j:List Int}(hb:Byt j)(hj:j.length≤100000000){a:Nat}(most:Nat)(hm:most≤1000000)(ha:a≤j.length)(k:Ls→Int→Int→Option β):yZ β L (ze .u8 j) (a:Int) (most:Int) k=zdi (zdE j most a) (fun v a'=>k (ze .u8 v) (a':Int) 0) (fun e=>k [] 0 e):=by
 unfold yZ zra
 rw [yq (by omega),zaQ (by omega) (by omega),zd,zEe hL hb hj most ha]
 unfold zdE
 cases hz:zbA j most a with
 | error e=>rw [yQ,xm,if_neg (zcY hz)]; rfl
 | ok p=>
  obtain ⟨n,a1⟩:=p
  obtain ⟨h1,h2⟩:=zbn hz
  rw [xH,xm,if_pos rfl,xG,xr (by omega) (by omega),zd,zaQ (by omega) (by omega),zd,zba]
  by_cases h:a1+n≤j.length
  ·have e1:XJ ((a1:Int)+(n:Int))=a1+n:=by omega
   have e2:((a1:Int)+(n:Int))=((a1+n:Nat):Int):=by omega
   rw [if_neg (by omega),xr (by omega) (by omega),zd,xr (by omega) (by omega),zd,ya (by omega),ya (by omega),e1,XZ,show a1+n-a1=n by omega,zuP,zke,zPx L (by rw [Ww,XS]; omega),zd,zd,e2,xr (by omega) (by omega)]
   simp only [if_pos h,xH]
  ·rw [if_pos (by omega)]
   simp only [if_neg h,yQ]
def zbm:List V:=We 32 (Qa (0:Int))
theorem zQn(k:IntKind)(l:List Int):(ze k l).flatten=row k l:=by
 induction l with
 | nil=>rfl
 | cons x l ih=>simp only [ze,row,QW,WL] at ih ⊢; rw [ih]; rfl
theorem zpF{w:List Int}(hw:w.length=32):xd (We 32 (Qa (0:Int))) 0 (row .u8 w)=row .u8 w:=zai (by rw [zk,hw,XW])
theorem zyn{w:List Int}(hw:w.length=32):XK 32 (row .u8 w)=row .u8 w:=Xy (by rw [zk]; omega)
theorem zKI{j:List Int}{a:Nat}(h:a+32≤j.length):xd (We 32 (Qa (0:Int))) 0 (List.flatten (XK (min (XI (XK ((XI (ze .u8 j))-(XJ (a:Int))) (List.drop (XJ (a:Int)) (ze .u8 j)))) 32) (XK ((XI (ze .u8 j))-(XJ (a:Int))) (List.drop (XJ (a:Int)) (ze .u8 j)))))=row .u8 ((j.drop a).take 32):=by
 rw [XZ,zuP,xG,zke,xG,Xy (l:=j.drop a) (by rw [XS]; omega),XS,Nat.min_eq_right (by omega),zke,zQn]
 exact zpF (by rw [Ww,XS]; omega)
theorem ztD(k:Option β):chk (0=0∧(XI zbm)=32∧32≠0) k=k:=ya (by simp [zbm]) k
theorem zIE{L:Nat}(hL:20≤L){j:List Int}(hj:j.length≤100000000){a:Nat}(ha:a≤j.length)(k:List V→Int→Int→Option β):yE β L (ze .u8 j) (a:Int) k=zdi (zg4 j a) (fun v a'=>k (row .u8 v) (a':Int) 0) (fun e=>k zbm 0 e):=by
 unfold yE zsK
 refine (zxp L j ha hj (w:=32) (by decide) _).trans ?_
 unfold zg4
 by_cases h:a+32≤j.length
 ·have hl:((j.drop a).take 32).length=32:=by rw [Ww,XS]; omega
  rw [if_pos h,if_pos h,xm,if_pos rfl,ya (by rw [xG]; omega),zKI h,zd,ya (by rw [zk]; omega),xr (by omega) (by omega),zd,zyn hl,ya (by rw [zk]; omega),zpF hl,zd,ya (by rw [zk]; omega)]
  rfl
 ·rw [if_neg h,if_neg h,xm,if_neg (by decide),zd]
  exact ztD _
theorem zEa{L:Nat}(hL:20≤L){j:List Int}(hj:j.length≤100000000){a:Nat}(ha:a≤j.length)(k:List V→Int→Int→Option β):xE β L (ze .u8 j) (a:Int) k=zdi (zg4 j a) (fun v a'=>k (row .u8 v) (a':Int) 0) (fun e=>k zbm 0 e):=by
 unfold xE ztM
 rw [yq (by omega),xG,yq (by omega),xr (by omega) (by omega),zd]
 unfold zg4
 by_cases h:a+32≤j.length
 ·have hl:((j.drop a).take 32).length=32:=by rw [Ww,XS]; omega
  have hr:=zKI h
  rw [xG] at hr
  rw [if_pos h,yq (by omega),ya (by omega),hr,zd,ya (by rw [zk]; omega),xr (by omega) (by omega),zd,zyn hl,ya (by rw [zk]; omega),zpF hl,zd,ya (by rw [zk]; omega)]
  rfl
 ·rw [if_neg h,xz (by omega),zd]
  exact ztD _
end
section
set_option linter.unusedSectionVars false
variable {β:Type}
section
variable (L:Nat) (J:Ls) {e:Int} (he:e≠0) (at_:Int)
include he
theorem zwE(k:Int→Ls→Int→Int→Option β):zc β L J at_ e k=k 0 J at_ e:=by
 unfold zc ziB; rw [xm,if_neg he]
theorem zVh(k:Int→Ls→Int→Int→Option β):xc β L J at_ e k=k 0 J at_ e:=by
 unfold xc zgw; rw [xm,if_neg he]
theorem zKW(m:Int)(k:Int→Ls→Int→Int→Option β):yg β L m J at_ e k=k 0 J at_ e:=by
 unfold yg zp9 xP ziM; rw [xm,if_neg he]; rfl
theorem zFJ(m:Int)(k1 k2:Ls→Ls→Int→Int→Option β):ye β L m J at_ e k1 k2=k1 [] J at_ e:=by
 unfold ye zp7 yS zj2; rw [xm,if_neg he]
theorem zV5(k:List V→Ls→Int→Int→Option β):zf β L J at_ e k=k zbm J at_ e:=by
 unfold zf zg8; rw [xm,if_neg he,zd]; exact ztD _
theorem zGB(k:Int→Ls→Int→Int→Option β):yb β L J at_ e k=k 0 J at_ e:=by
 unfold yb zgq; rw [xm,if_neg he]
theorem zKx(m:Int)(k:Int→Ls→Int→Int→Option β):zb β L m J at_ e k=k 0 J at_ e:=by
 unfold zb zgy; rw [xm,if_neg he]
theorem zPB(m:Int)(k1 k2:Ls→Ls→Int→Int→Option β):za β L m J at_ e k1 k2=k1 [] J at_ e:=by
 unfold za zfL; rw [xm,if_neg he]
end
section
variable {L:Nat} (hL:20≤L) {j:List Int} (hb:Byt j) (hj:j.length≤100000000) {a:Nat} (ha:a≤j.length)
include hL hb hj ha
theorem zKb(k:Int→Ls→Int→Int→Option β):zc β L (ze .u8 j) a 0 k=zdi (gN j 4 a) (fun v a'=>k v (ze .u8 j) a' 0) (fun e=>k 0 (ze .u8 j) a e):=by
 unfold zc ziB
 rw [xm,if_pos rfl,zwf hL hb hj ha,zE8]
 by_cases h:a+4≤j.length
 ·rw [if_pos h,if_pos h,xm,if_pos rfl]
 ·rw [if_neg h,if_neg h,xm,if_neg (by decide)]
theorem zWX(k:Int→Ls→Int→Int→Option β):xc β L (ze .u8 j) a 0 k=zdi (gN j 8 a) (fun v a'=>k v (ze .u8 j) a' 0) (fun e=>k 0 (ze .u8 j) a e):=by
 unfold xc zgw
 rw [xm,if_pos rfl,zPI hL hb hj ha,zE8]
 by_cases h:a+8≤j.length
 ·rw [if_pos h,if_pos h,xm,if_pos rfl]
 ·rw [if_neg h,if_neg h,xm,if_neg (by decide)]
theorem zTt(m:Nat)(hm:m≤1000000)(k:Int→Ls→Int→Int→Option β):yg β L (m:Int) (ze .u8 j) a 0 k=zdi (zbA j m a) (fun v a'=>k v (ze .u8 j) a' 0) (fun e=>k 0 (ze .u8 j) a e):=by
 unfold yg zp9 xP ziM zaa zrn
 rw [xm,if_pos rfl,zH1 hL hb hj m ha]
 cases hz:zbA j m a with
 | error e=>rw [yQ]; dsimp only; rw [xm,if_neg (zcY hz)]; rfl
 | ok p=>
  obtain ⟨n,a1⟩:=p
  have:=zbn hz
  rw [xH]; dsimp only; rw [xm,if_pos rfl,xr (by omega) (by omega),zd]
  rfl
theorem zXf(m:Nat)(hm:m≤1000000)(k1 k2:Ls→Ls→Int→Int→Option β):ye β L (m:Int) (ze .u8 j) a 0 k1 k2=zdi (zdE j m a) (fun v a'=>k2 (ze .u8 v) (ze .u8 j) a' 0) (fun e=>k1 [] (ze .u8 j) a e):=by
 unfold ye zp7 yS zj2 y9 zrr
 rw [xm,if_pos rfl,zSd hL hb hj m hm ha]
 cases hz:zdE j m a with
 | error e=>rw [yQ]; dsimp only; rw [xm,if_neg (zkh hz)]; rfl
 | ok p=>rw [xH]; dsimp only; rw [xm,if_pos rfl]; rfl
theorem zW4(k:List V→Ls→Int→Int→Option β):zf β L (ze .u8 j) a 0 k=zdi (zg4 j a) (fun v a'=>k (row .u8 v) (ze .u8 j) a' 0) (fun e=>k zbm (ze .u8 j) a e):=by
 unfold zf zg8
 rw [xm,if_pos rfl,zIE hL hj ha]
 have z1:xd (We 32 (Qa (0:Int))) 0 zbm=zbm:=zai (by simp [zbm])
 cases hz:zg4 j a with
 | error e=>
  rw [yQ,ya (by simp [zbm]),z1,zd,xm,if_neg (zx4 hz),zd]
  exact ztD _
 | ok p=>
  obtain ⟨h,a1⟩:=p
  have hl:=(zsy hz).2
  rw [xH,ya (by rw [zk]; omega),zpF hl,zd,xm,if_pos rfl,ya (by rw [zk]; omega),zyn hl,ya (by rw [zk]; omega),zpF hl,zd,ya (by rw [zk]; omega)]
  rfl
theorem zKg(k:Int→Ls→Int→Int→Option β):yb β L (ze .u8 j) a 0 k=zdi (gN j 4 a) (fun v a'=>k v (ze .u8 j) a' 0) (fun e=>k 0 (ze .u8 j) 0 e):=by
 unfold yb zgq
 rw [xm,if_pos rfl,zwY hL hb hj ha,zE8]
theorem zWO(k:Int→Ls→Int→Int→Option β):zH β L (ze .u8 j) a 0 k=zdi (gN j 8 a) (fun v a'=>k v (ze .u8 j) a' 0) (fun e=>k 0 (ze .u8 j) 0 e):=by
 unfold zH zjB
 rw [xm,if_pos rfl,zTY hL hb hj ha,zE8]
theorem zTg(m:Nat)(hm:m≤1000000)(k:Int→Ls→Int→Int→Option β):zb β L (m:Int) (ze .u8 j) a 0 k=zdi (zbA j m a) (fun v a'=>k v (ze .u8 j) a' 0) (fun e=>k 0 (ze .u8 j) 0 e):=by
 unfold zb zgy
 rw [xm,if_pos rfl,zaQ (by omega) (by omega),zd,zEe hL hb hj m ha]
 cases hz:zbA j m a with
 | error e=>rw [yQ,yQ,xr (by decide) (by decide),zd]
 | ok p=>
  obtain ⟨n,a1⟩:=p
  have:=zbn hz
  rw [xH,xH,xr (by omega) (by omega),zd]
theorem zWG(m:Nat)(hm:m≤1000000)(k1 k2:Ls→Ls→Int→Int→Option β):za β L (m:Int) (ze .u8 j) a 0 k1 k2=zdi (zdE j m a) (fun v a'=>k2 (ze .u8 v) (ze .u8 j) a' 0) (fun e=>k2 [] (ze .u8 j) 0 e):=by
 unfold za zfL
 rw [xm,if_pos rfl,zQ0 hL hb hj m hm ha]
theorem zXb(k:List V→Ls→Int→Int→Option β):xe β L (ze .u8 j) a 0 k=zdi (zg4 j a) (fun v a'=>k (row .u8 v) (ze .u8 j) a' 0) (fun e=>k zbm (ze .u8 j) 0 e):=by
 unfold xe zjr
 rw [xm,if_pos rfl,zEa hL hj ha]
 have z1:xd (We 32 (Qa (0:Int))) 0 zbm=zbm:=zai (by simp [zbm])
 have z2:XK 32 zbm=zbm:=Xy (by simp [zbm])
 cases hz:zg4 j a with
 | error e=>
  rw [yQ,yQ,ya (by simp [zbm]),z1,zd,ya (by simp [zbm]),z2,ya (by simp [zbm]),z1,zd]
  exact ztD _
 | ok p=>
  obtain ⟨h,a1⟩:=p
  have hl:=(zsy hz).2
  rw [xH,xH,ya (by rw [zk]; omega),zpF hl,zd,ya (by rw [zk]; omega),zyn hl,ya (by rw [zk]; omega),zpF hl,zd,ya (by rw [zk]; omega)]
end
def gIn(j:List Int)(a:Nat):Except Int (Inp × Nat):=match zg4 j a with
 | .error e=>.error e
 | .ok (h,a1)=>match gN j 4 a1 with
  | .error e=>.error e
  | .ok (ix,a2)=>match gN j 4 a2 with
   | .error e=>.error e
   | .ok (sq,a3)=>.ok (⟨h++[(ix:Int)],sq,[]⟩,a3)
def zgD(j:List Int):Nat→Nat→Except Int (List Inp × Nat)
 | 0,a=>.ok ([],a)
 | n+1,a=>match gIn j a with
  | .error e=>.error e
  | .ok (x,a1)=>match zgD j n a1 with
   | .error e=>.error e
   | .ok (xs,a2)=>.ok (x::xs,a2)
def zly(j:List Int)(a:Nat):Except Int (Outp × Nat):=match gN j 8 a with
 | .error e=>.error e
 | .ok (v,a1)=>if v≥9223372036854775808 then .error 90 else match zdE j 520 a1 with
  | .error e=>.error e
  | .ok (s,a2)=>.ok (⟨v,s⟩,a2)
def zdH(j:List Int):Nat→Nat→Except Int (List Outp × Nat)
 | 0,a=>.ok ([],a)
 | n+1,a=>match zly j a with
  | .error e=>.error e
  | .ok (x,a1)=>match zdH j n a1 with
   | .error e=>.error e
   | .ok (xs,a2)=>.ok (x::xs,a2)
def zhl(j:List Int):Nat→Nat→Except Int (List (List Int) × Nat)
 | 0,a=>.ok ([],a)
 | n+1,a=>match zdE j 520 a with
  | .error e=>.error e
  | .ok (x,a1)=>match zhl j n a1 with
   | .error e=>.error e
   | .ok (xs,a2)=>.ok (x::xs,a2)
def zdx(j:List Int):List Inp→Nat→Except Int (List Inp × Nat)
 | [],a=>.ok ([],a)
 | x::xs,a=>match zbA j 32 a with
  | .error e=>.error e
  | .ok (n,a1)=>match zhl j n a1 with
   | .error e=>.error e
   | .ok (w,a2)=>match zdx j xs a2 with
    | .error e=>.error e
    | .ok (ys,a3)=>.ok ({ x with wit:=w }::ys,a3)
def gTx(j:List Int)(a:Nat):Except Int (TxT × Nat):=match gN j 4 a with
 | .error e=>.error e
 | .ok (ver,a1)=>match zbA j 64 a1 with
  | .error e=>.error e
  | .ok (n,a2)=>match zgD j n a2 with
   | .error e=>.error e
   | .ok (xs,a3)=>match zbA j 64 a3 with
    | .error e=>.error e
    | .ok (m,a4)=>match zdH j m a4 with
     | .error e=>.error e
     | .ok (os,a5)=>match gN j 4 a5 with
      | .error e=>.error e
      | .ok (lk,a6)=>match zdx j xs a6 with
       | .error e=>.error e
       | .ok (ys,a7)=>if a7-a>20000 then .error 4 else .ok (⟨ver,ys,os,lk⟩,a7)
end
section
set_option linter.unusedSectionVars false
variable {β:Type}
def zbO(h:List V)(ix sq:Int)(c:V):List V:=h++[V.sc (.int .u32 ix),V.sc (.int .u32 sq),c]
def zgs:V:=V.gs 1 ([]:Ls)
theorem zdI{h:List V}(hl:h.length=32)(ix sq:Int)(c:V):(zbO h ix sq c).length=35:=by simp [zbO,hl]
theorem zAy{h:List V}(hl:h.length=32)(ix sq:Int)(c:V):XK 35 (zbO h ix sq c)=zbO h ix sq c:=Xy (by rw [zdI hl]; exact Nat.le_refl _)
theorem zWB{h:List V}(hl:h.length=32):xd (We 32 (Qa (0:Int))++[(Qc (0:Int)),(Qc (0:Int)),(V.gs 1 ([]:Ls))]) 0 h=zbO h 0 0 zgs:=by
 unfold xd zbO
 rw [hl,X1,XW]
 simp [zgs]
theorem zVe{h:List V}(hl:h.length=32)(ix sq x:Int)(c:V):xd (zbO h ix sq c) 32 [(Qc x)]=zbO h x sq c:=by
 rw [znd (by rw [zdI hl]; omega)]
 unfold zbO
 rw [XU _ _ (by omega),hl]
 rfl
theorem zRj{h:List V}(hl:h.length=32)(ix sq x:Int)(c:V):xd (zbO h ix sq c) 33 [(Qc x)]=zbO h ix x c:=by
 rw [znd (by rw [zdI hl]; omega)]
 unfold zbO
 rw [XU _ _ (by omega),hl]
 rfl
theorem zKT{h:List V}(hl:h.length=32)(ix sq:Int)(c:V):xd (We 32 (Qa (0:Int))++[(Qc (0:Int)),(Qc (0:Int)),(V.sl 1 ([]:Ls))]) 0 (zbO h ix sq c)=zbO h ix sq c:=zai (by rw [zdI hl]; rfl)
theorem zQb{h:List V}(hl:h.length=32)(ix sq:Int)(c:V):xd (We 32 (Qa (0:Int))++[(Qc (0:Int)),(Qc (0:Int)),(V.gs 1 ([]:Ls))]) 0 (zbO h ix sq c)=zbO h ix sq c:=zai (by rw [zdI hl]; rfl)
theorem zFA{h:List V}(hl:h.length=32)(ix sq:Int)(c:V):yf 35 1 (zbO h ix sq c)=[zbO h ix sq c]:=by
 unfold yf; rw [zAy hl]; rfl
def zaC(x:Inp):List V:=zbO (row .u8 (x.pv.take 32)) (x.pv.getD 32 0) x.seq (V.gs 1 (zbu x.wit))
theorem zM7{h:List Int}(hl:h.length=32)(ix sq:Int):zaC ⟨h++[ix],sq,[]⟩=zbO (row .u8 h) ix sq zgs:=by
 unfold zaC
 rw [List.take_left' hl]
 simp [List.getD_eq_getElem?_getD,Wt,hl,zbu,zgs]
section
variable {L:Nat} (p1 b4_0:Int) (b4_1 b4_2:Ls) (b4_3 b10_0:Int) (b10_2:Ls) (b10_3:Int)
theorem zKR{n i:Nat}(hi:i<n)(hn:n≤64)(R J:Ls)(hR:R.length≤64)(at_ f:Int)(kh:zgo β)(kx:zjl β) :
  zc1 zc zf L p1 (n:Int) (i:Int) b4_0 b4_1 b4_2 b4_3 b10_0 R b10_2 b10_3 J at_ f kh kx =
  zf β L J at_ f (fun v8 v9 v10 v11=>chk ((XI v8)=32∧0+32≤35) (zc β L v9 v10 v11 (fun v13 v14 v15 v16=>zc β L v14 v15 v16 (fun v18 v19 v20 v21=>
   kh p1 (n:Int) ((i+1:Nat):Int) b4_0 b4_1 b4_2 b4_3 b10_0 (R++[zbO v8 v13 v18 zgs]) b10_2 b10_3 v19 v20 v21)))):=by
 have hs:(100000000:Nat)≤zg:=by decide
 unfold zc1
 rw [xz (by omega)]
 congr 1
 funext v8 v9 v10 v11
 by_cases h:(XI v8)=32∧0+32≤35
 ·have hl:=h.1
  rw [ya h,ya h,zd,zWB hl]
  congr 1
  funext v13 v14 v15 v16
  rw [ya (by rw [zdI hl]; omega),zVe hl,zd]
  congr 1
  funext v18 v19 v20 v21
  rw [ya (by rw [zdI hl]; omega),zRj hl,zd,zAy hl,zKT hl,zFA hl,ya (by rw [zdI hl]; omega),ya (by rw [zdI hl]; omega),ya (by simp only [XQ,XR]; omega),zd,yI (by omega),zd]
 ·rw [zfl,zfl,if_neg h,if_neg h]
theorem zNl{n i:Nat}(hi:¬ i<n)(R J:Ls)(at_ f:Int)(kh:zgo β)(kx:zjl β) :
  zc1 zc zf L p1 (n:Int) (i:Int) b4_0 b4_1 b4_2 b4_3 b10_0 R b10_2 b10_3 J at_ f kh kx=kx p1 b4_0 b4_1 b4_2 b4_3 b10_0 R b10_2 b10_3 J at_ f:=by
 unfold zc1
 rw [yq (by omega)]
theorem zGD:(XI zbm)=32∧0+32≤35:=by simp [zbm]
theorem zIb{n:Nat}(hn:n≤64)(J:Ls)(at_:Int){e:Int}(he:e≠0)(kx:zjl β):∀ (m i:Nat) (R:Ls),R.length=i→i≤n→n-i<m →
  ∃ R':Ls,R'.length=n∧zZ zc zf L kx m p1 (n:Int) (i:Int) b4_0 b4_1 b4_2 b4_3 b10_0 R b10_2 b10_3 J at_ e=kx p1 b4_0 b4_1 b4_2 b4_3 b10_0 R' b10_2 b10_3 J at_ e
 | 0,i,R,h1,h2,h3=>by omega
 | m+1,i,R,h1,h2,h3=>by
  by_cases hi:i<n
  ·obtain ⟨R',e1,e2⟩:=zIb hn J at_ he kx m (i+1) (R++[zbO zbm 0 0 zgs]) (by simp [h1]) (by omega) (by omega)
   refine ⟨R',e1,?_⟩
   rw [zZ,zKR (hi:=hi) (hn:=hn) (hR:=by omega),zV5 L J he,ya zGD,zwE L J he,zwE L J he]
   exact e2
  ·refine ⟨R,by omega,?_⟩
   rw [zZ,zNl (hi:=hi)]
end
end
section
set_option linter.unusedSectionVars false
variable {β:Type}
section
variable {L:Nat} (hL:20≤L) {j:List Int} (hb:Byt j) (hj:j.length≤100000000) {a:Nat} (ha:a≤j.length)
include hL hb hj ha
theorem zVU(k:Int→Ls→Int→Int→Option β):yg β L (64:Int) (ze .u8 j) a 0 k=zdi (zbA j 64 a) (fun v a'=>k v (ze .u8 j) a' 0) (fun e=>k 0 (ze .u8 j) a e):=zTt hL hb hj ha 64 (by decide) k
theorem zXL(k:Int→Ls→Int→Int→Option β):yg β L (32:Int) (ze .u8 j) a 0 k=zdi (zbA j 32 a) (fun v a'=>k v (ze .u8 j) a' 0) (fun e=>k 0 (ze .u8 j) a e):=zTt hL hb hj ha 32 (by decide) k
theorem zS4(k1 k2:Ls→Ls→Int→Int→Option β):ye β L (520:Int) (ze .u8 j) a 0 k1 k2=zdi (zdE j 520 a) (fun v a'=>k2 (ze .u8 v) (ze .u8 j) a' 0) (fun e=>k1 [] (ze .u8 j) a e):=zXf hL hb hj ha 520 (by decide) k1 k2
theorem zV1(k:Int→Ls→Int→Int→Option β):zb β L (64:Int) (ze .u8 j) a 0 k=zdi (zbA j 64 a) (fun v a'=>k v (ze .u8 j) a' 0) (fun e=>k 0 (ze .u8 j) 0 e):=zTg hL hb hj ha 64 (by decide) k
theorem zXr(k:Int→Ls→Int→Int→Option β):zb β L (32:Int) (ze .u8 j) a 0 k=zdi (zbA j 32 a) (fun v a'=>k v (ze .u8 j) a' 0) (fun e=>k 0 (ze .u8 j) 0 e):=zTg hL hb hj ha 32 (by decide) k
theorem zTp(k1 k2:Ls→Ls→Int→Int→Option β):za β L (520:Int) (ze .u8 j) a 0 k1 k2=zdi (zdE j 520 a) (fun v a'=>k2 (ze .u8 v) (ze .u8 j) a' 0) (fun e=>k2 [] (ze .u8 j) 0 e):=zWG hL hb hj ha 520 (by decide) k1 k2
end
section
variable {L:Nat} (hL:20≤L) {j:List Int} (hb:Byt j) (hj:j.length≤100000000)
variable (p1 b4_0:Int) (b4_1 b4_2:Ls) (b4_3 b10_0:Int) (b10_2:Ls) (b10_3:Int)
include hL hb hj
theorem zQt{n:Nat}(hn:n≤64)(kx:zjl β):∀ (m i a:Nat) (xs:List Inp),xs.length=i→i≤n→n-i<m→a≤j.length →
  (∃ ys a',zgD j (n-i) a=.ok (ys,a')∧zZ zc zf L kx m p1 (n:Int) (i:Int) b4_0 b4_1 b4_2 b4_3 b10_0 (xs.map zaC) b10_2 b10_3 (ze .u8 j) (a:Int) 0=kx p1 b4_0 b4_1 b4_2 b4_3 b10_0 ((xs++ys).map zaC) b10_2 b10_3 (ze .u8 j) (a':Int) 0) ∨
  (∃ e R at_,zgD j (n-i) a=.error e∧e≠0∧R.length=n∧zZ zc zf L kx m p1 (n:Int) (i:Int) b4_0 b4_1 b4_2 b4_3 b10_0 (xs.map zaC) b10_2 b10_3 (ze .u8 j) (a:Int) 0=kx p1 b4_0 b4_1 b4_2 b4_3 b10_0 R b10_2 b10_3 (ze .u8 j) at_ e)
 | 0,i,a,xs,h1,h2,h3,ha=>by omega
 | m+1,i,a,xs,h1,h2,h3,ha=>by
  by_cases hi:i<n
  ·have hn1:n-i=(n-(i+1))+1:=by omega
   rw [hn1,zZ,zKR (hi:=hi) (hn:=hn) (hR:=by rw [QB]; omega),zW4 hL hb hj ha]
   have bad:∀ (e:Int) (he:e≠0) (at_:Int) (r:List V),∃ R':Ls,R'.length=n∧zZ zc zf L kx m p1 (n:Int) ((i+1:Nat):Int) b4_0 b4_1 b4_2 b4_3 b10_0 (xs.map zaC++[r]) b10_2 b10_3 (ze .u8 j) at_ e=kx p1 b4_0 b4_1 b4_2 b4_3 b10_0 R' b10_2 b10_3 (ze .u8 j) at_ e:=fun e he at_ r=>
    zIb p1 b4_0 b4_1 b4_2 b4_3 b10_0 b10_2 b10_3 hn (ze .u8 j) at_ he kx m (i+1) _ (by simp [h1]) (by omega) (by omega)
   cases e1:zg4 j a with
   | error e=>
    have he:=zx4 e1
    obtain ⟨R',q1,q2⟩:=bad e he (a:Int) (zbO zbm 0 0 zgs)
    refine .inr ⟨e,R',(a:Int),by simp only [zgD,gIn,e1],he,q1,?_⟩
    rw [yQ,ya zGD,zwE L _ he,zwE L _ he]
    exact q2
   | ok p=>
    obtain ⟨h,a1⟩:=p
    obtain ⟨k1,k2⟩:=zsy e1
    rw [xH,ya (by rw [zk]; omega),zKb hL hb hj k1]
    cases e2:gN j 4 a1 with
    | error e=>
     have he:=ziF e2
     obtain ⟨R',q1,q2⟩:=bad e he (a1:Int) (zbO (row .u8 h) 0 0 zgs)
     refine .inr ⟨e,R',(a1:Int),by simp only [zgD,gIn,e1,e2],he,q1,?_⟩
     rw [yQ,zwE L _ he]
     exact q2
    | ok p=>
     obtain ⟨ix,a2⟩:=p
     have k3:=zmu e2
     rw [xH,zKb hL hb hj k3]
     cases e3:gN j 4 a2 with
     | error e=>
      have he:=ziF e3
      obtain ⟨R',q1,q2⟩:=bad e he (a2:Int) (zbO (row .u8 h) ix 0 zgs)
      refine .inr ⟨e,R',(a2:Int),by simp only [zgD,gIn,e1,e2,e3],he,q1,?_⟩
      rw [yQ]
      exact q2
     | ok p=>
      obtain ⟨sq,a3⟩:=p
      have k4:=zmu e3
      have hrow:xs.map zaC++[zbO (row .u8 h) (ix:Int) (sq:Int) zgs]=(xs++[(⟨h++[(ix:Int)],sq,[]⟩:Inp)]).map zaC:=by rw [X0,QW,X2,zM7 k2]
      rw [xH,hrow]
      rcases zQt hn kx m (i+1) a3 (xs++[(⟨h++[(ix:Int)],sq,[]⟩:Inp)]) (by simp [h1]) (by omega) (by omega) k4 with ⟨ys,a',q1,q2⟩ | ⟨e,R,at_,q1,q2,q3,q4⟩
      ·refine .inl ⟨(⟨h++[(ix:Int)],sq,[]⟩:Inp)::ys,a',by simp only [zgD,gIn,e1,e2,e3,q1],?_⟩
       rw [q2,Wu]
       rfl
      ·exact .inr ⟨e,R,at_,by simp only [zgD,gIn,e1,e2,e3,q1],q2,q3,q4⟩
  ·have hn0:n-i=0:=by omega
   refine .inl ⟨[],a,by rw [hn0]; rfl,?_⟩
   rw [zZ,zNl (hi:=hi),XV]
end
section
variable {L:Nat} (p1 b4_0:Int) (b4_1 b4_2:Ls) (b4_3 b10_0:Int) (b10_1:Ls) (b10_3:Int)
theorem zIX{n i:Nat}(hi:i<n)(hn:n≤64)(O J:Ls)(hO:O.length≤64)(at_ f:Int)(kh:zfw β)(kx:zjc β) :
  zcJ xc ye L p1 (n:Int) (i:Int) b4_0 b4_1 b4_2 b4_3 b10_0 b10_1 O b10_3 J at_ f kh kx =
  xc β L J at_ f (fun v29 v30 v31 v32=>ye β L (520:Int) v30 v31 (if v29≥(9223372036854775808:Int) then 90 else v32)
   (fun v34 v35 v36 v37=>kh p1 (n:Int) ((i+1:Nat):Int) b4_0 b4_1 b4_2 b4_3 b10_0 b10_1 (O++[[(Qe (QG .i64 v29)),(V.sl 1 v34)]]) b10_3 v35 v36 v37)
   (fun v34 v35 v36 v37=>kh p1 (n:Int) ((i+1:Nat):Int) b4_0 b4_1 b4_2 b4_3 b10_0 b10_1 (O++[[(Qe (QG .i64 v29)),(V.sl 1 v34)]]) b10_3 v35 v36 v37)):=by
 have hs:(100000000:Nat)≤zg:=by decide
 have hc:∀ (x y:V),yf 2 1 [x,y]=[[x,y]]:=fun x y=>rfl
 unfold zcJ
 rw [xz (by omega)]
 congr 1
 funext v29 v30 v31 v32
 rw [zba]
 by_cases h:v29≥(9223372036854775808:Int)
 ·rw [if_pos h,if_pos h,zd]
  congr 1
  ·funext v34 v35 v36 v37
   rw [hc,ya (by simp only [XQ,XR]; omega),zd,yI (by omega),zd]
  ·funext v34 v35 v36 v37
   rw [hc,ya (by simp only [XQ,XR]; omega),zd,yI (by omega),zd]
 ·rw [if_neg h,if_neg h,zd]
  congr 1
  ·funext v34 v35 v36 v37
   rw [hc,ya (by simp only [XQ,XR]; omega),zd,yI (by omega),zd]
  ·funext v34 v35 v36 v37
   rw [hc,ya (by simp only [XQ,XR]; omega),zd,yI (by omega),zd]
theorem zLn{n i:Nat}(hi:¬ i<n)(O J:Ls)(at_ f:Int)(kh:zfw β)(kx:zjc β) :
  zcJ xc ye L p1 (n:Int) (i:Int) b4_0 b4_1 b4_2 b4_3 b10_0 b10_1 O b10_3 J at_ f kh kx=kx p1 b4_0 b4_1 b4_2 b4_3 b10_0 b10_1 O b10_3 J at_ f:=by
 unfold zcJ
 rw [yq (by omega)]
theorem zxX{n:Nat}(hn:n≤64)(J:Ls)(at_:Int){e:Int}(he:e≠0)(kx:zjc β):∀ (m i:Nat) (O:Ls),O.length=i→i≤n→n-i<m →
  ∃ O':Ls,z8 xc ye L kx m p1 (n:Int) (i:Int) b4_0 b4_1 b4_2 b4_3 b10_0 b10_1 O b10_3 J at_ e=kx p1 b4_0 b4_1 b4_2 b4_3 b10_0 b10_1 O' b10_3 J at_ e
 | 0,i,O,h1,h2,h3=>by omega
 | m+1,i,O,h1,h2,h3=>by
  by_cases hi:i<n
  ·obtain ⟨O',e2⟩:=zxX hn J at_ he kx m (i+1) (O++[[(Qe (QG .i64 0)),(V.sl 1 [])]]) (by simp [h1]) (by omega) (by omega)
   refine ⟨O',?_⟩
   rw [z8,zIX (hi:=hi) (hn:=hn) (hO:=by omega),zVh L J he,if_neg (by decide),zFJ L J he]
   exact e2
  ·refine ⟨O,?_⟩
   rw [z8,zLn (hi:=hi)]
end
section
variable {L:Nat} (hL:20≤L) {j:List Int} (hb:Byt j) (hj:j.length≤100000000)
variable (p1 b4_0:Int) (b4_1 b4_2:Ls) (b4_3 b10_0:Int) (b10_1:Ls) (b10_3:Int)
include hL hb hj
theorem zM8{n:Nat}(hn:n≤64)(kx:zjc β):∀ (m i a:Nat) (xs:List Outp),xs.length=i→i≤n→n-i<m→a≤j.length →
  (∃ ys a',zdH j (n-i) a=.ok (ys,a')∧z8 xc ye L kx m p1 (n:Int) (i:Int) b4_0 b4_1 b4_2 b4_3 b10_0 b10_1 (xs.map zcu) b10_3 (ze .u8 j) (a:Int) 0=kx p1 b4_0 b4_1 b4_2 b4_3 b10_0 b10_1 ((xs++ys).map zcu) b10_3 (ze .u8 j) (a':Int) 0) ∨
  (∃ e O at_,zdH j (n-i) a=.error e∧e≠0∧z8 xc ye L kx m p1 (n:Int) (i:Int) b4_0 b4_1 b4_2 b4_3 b10_0 b10_1 (xs.map zcu) b10_3 (ze .u8 j) (a:Int) 0=kx p1 b4_0 b4_1 b4_2 b4_3 b10_0 b10_1 O b10_3 (ze .u8 j) at_ e)
 | 0,i,a,xs,h1,h2,h3,ha=>by omega
 | m+1,i,a,xs,h1,h2,h3,ha=>by
  by_cases hi:i<n
  ·have hn1:n-i=(n-(i+1))+1:=by omega
   rw [hn1,z8,zIX (hi:=hi) (hn:=hn) (hO:=by rw [QB]; omega),zWX hL hb hj ha]
   have bad:∀ (e:Int) (he:e≠0) (at_:Int) (r:List V),∃ O':Ls,z8 xc ye L kx m p1 (n:Int) ((i+1:Nat):Int) b4_0 b4_1 b4_2 b4_3 b10_0 b10_1 (xs.map zcu++[r]) b10_3 (ze .u8 j) at_ e=kx p1 b4_0 b4_1 b4_2 b4_3 b10_0 b10_1 O' b10_3 (ze .u8 j) at_ e:=fun e he at_ r=>
    zxX p1 b4_0 b4_1 b4_2 b4_3 b10_0 b10_1 b10_3 hn (ze .u8 j) at_ he kx m (i+1) _ (by simp [h1]) (by omega) (by omega)
   cases e1:gN j 8 a with
   | error e=>
    have he:=ziF e1
    obtain ⟨O',q2⟩:=bad e he (a:Int) [(Qe (QG .i64 0)),(V.sl 1 [])]
    refine .inr ⟨e,O',(a:Int),by simp only [zdH,zly,e1],he,?_⟩
    rw [yQ,if_neg (by decide),zFJ L _ he]
    exact q2
   | ok p=>
    obtain ⟨v,a1⟩:=p
    have k1:=zmu e1
    rw [xH]
    by_cases hv:v≥9223372036854775808
    ·obtain ⟨O',q2⟩:=bad 90 (by decide) (a1:Int) [(Qe (QG .i64 v)),(V.sl 1 [])]
     refine .inr ⟨90,O',(a1:Int),by simp only [zdH,zly,e1,if_pos hv],by decide,?_⟩
     rw [if_pos (by omega),zFJ L _ (by decide)]
     exact q2
    ·rw [if_neg (by omega),xr (by omega) (by omega),zS4 hL hb hj k1]
     cases e2:zdE j 520 a1 with
     | error e=>
      have he:=zkh e2
      obtain ⟨O',q2⟩:=bad e he (a1:Int) [(Qe v),(V.sl 1 [])]
      refine .inr ⟨e,O',(a1:Int),by simp only [zdH,zly,e1,if_neg hv,e2],he,?_⟩
      rw [yQ]
      exact q2
     | ok p=>
      obtain ⟨sc,a2⟩:=p
      have k2:=(zqc e2).1
      have hrow:xs.map zcu++[[(Qe (v:Int)),(V.sl 1 (ze .u8 sc))]]=(xs++[(⟨v,sc⟩:Outp)]).map zcu:=by rw [X0,QW,X2]; rfl
      rw [xH,hrow]
      rcases zM8 hn kx m (i+1) a2 (xs++[(⟨v,sc⟩:Outp)]) (by simp [h1]) (by omega) (by omega) k2 with ⟨ys,a',q1,q2⟩ | ⟨e,O,at_,q1,q2,q3⟩
      ·refine .inl ⟨(⟨v,sc⟩:Outp)::ys,a',by simp only [zdH,zly,e1,if_neg hv,e2,q1],?_⟩
       rw [q2,Wu]
       rfl
      ·exact .inr ⟨e,O,at_,by simp only [zdH,zly,e1,if_neg hv,e2,q1],q2,q3⟩
  ·have hn0:n-i=0:=by omega
   refine .inl ⟨[],a,by rw [hn0]; rfl,?_⟩
   rw [z8,zLn (hi:=hi),XV]
end
end
section
set_option linter.unusedSectionVars false
variable {β:Type}
theorem zVD{h:List V}(hl:h.length=32):xd (We 32 (Qa (0:Int))++[(Qc (0:Int))]) 0 h=h++[V.sc (.int .u32 0)]:=by
 unfold xd
 rw [hl,X1,XW]
 simp
theorem zU4{h:List V}(hl:h.length=32)(x:Int):xd (h++[V.sc (.int .u32 0)]) 32 [(Qc x)]=h++[V.sc (.int .u32 x)]:=by
 rw [znd (by simp [hl]),XU _ _ (by omega),hl]
 rfl
theorem zV4{h:List V}(hl:h.length=32)(x:Int):xd (We 32 (Qa (0:Int))++[(Qc (0:Int)),(Qc (0:Int)),(V.gs 1 ([]:Ls))]) 0 (h++[V.sc (.int .u32 x)])=zbO h x 0 zgs:=by
 unfold xd zbO
 rw [Wm,hl,X1,XW]
 simp [zgs]
section
variable {L:Nat} (p1 b4_0:Int) (b4_1 b4_2:Ls) (b4_3 b8_0:Int) (b8_2:Ls) (b8_3:Int)
theorem zSD(m:Nat)(R J:Ls)(hm:m≤64)(hR:R.length≤64)(at_:Int)(kh:zfq β)(kx:zhW β) :
  zcC yb xe L p1 ((m+1:Nat):Int) b4_0 b4_1 b4_2 b4_3 b8_0 R b8_2 b8_3 J at_ 0 kh kx =
  xe β L J at_ 0 (fun v10 v11 v12 v13=>yb β L v11 v12 v13 (fun v14 v15 v16 v17=>chk ((XI v10)=32∧0+32≤33) (yb β L v15 v16 v17 (fun v18 v19 v20 v21=>
   kh p1 (m:Int) b4_0 b4_1 b4_2 b4_3 b8_0 (R++[zbO v10 v14 v18 zgs]) b8_2 b8_3 v19 v20 v21)))):=by
 have hs:(100000000:Nat)≤zg:=by decide
 unfold zcC
 rw [xz (by omega),zbq rfl]
 congr 1
 funext v10 v11 v12 v13
 congr 1
 funext v14 v15 v16 v17
 by_cases h:(XI v10)=32∧0+32≤33
 ·have hl:=h.1
  rw [ya h,ya h,zVD hl,ya (by simp [hl]),zU4 hl,ya (by simp [hl]),zV4 hl,ya (by rw [zdI hl]; omega),zQb hl,zd]
  congr 1
  funext v18 v19 v20 v21
  rw [ya (by rw [zdI hl]; omega),zRj hl,zd,zAy hl,zKT hl,zFA hl,ya (by rw [zdI hl]; omega),ya (by rw [zdI hl]; omega),ya (by simp only [XQ,XR]; omega),zd,xr (by omega) (by omega),zd,show ((m+1:Nat):Int)-1=(m:Int) by omega]
 ·simp only [zfl,if_neg h]
theorem zIy(R J:Ls)(at_ f:Int)(n:Int)(hf:¬ n>0∨f≠0)(kh:zfq β)(kx:zhW β) :
  zcC yb xe L p1 n b4_0 b4_1 b4_2 b4_3 b8_0 R b8_2 b8_3 J at_ f kh kx=kx p1 b4_0 b4_1 b4_2 b4_3 b8_0 R b8_2 b8_3 J at_ f:=by
 unfold zcC
 by_cases h:n>0
 ·rw [xz h,zao (hf.resolve_left (fun hh=>hh h))]
 ·rw [yq h]
theorem zMK:(XI zbm)=32∧0+32≤33:=by simp [zbm]
variable (hL:20≤L) {j:List Int} (hb:Byt j) (hj:j.length≤100000000)
include hL hb hj
theorem zQo(kx:zhW β):∀ (fu m a:Nat) (xs:List Inp),xs.length+m≤64→m+1<fu→a≤j.length →
  (∃ ys a',zgD j m a=.ok (ys,a')∧y6 yb xe L kx fu p1 (m:Int) b4_0 b4_1 b4_2 b4_3 b8_0 (xs.map zaC) b8_2 b8_3 (ze .u8 j) (a:Int) 0=kx p1 b4_0 b4_1 b4_2 b4_3 b8_0 ((xs++ys).map zaC) b8_2 b8_3 (ze .u8 j) (a':Int) 0) ∨
  (∃ e R at_,zgD j m a=.error e∧e≠0∧R.length≤64∧y6 yb xe L kx fu p1 (m:Int) b4_0 b4_1 b4_2 b4_3 b8_0 (xs.map zaC) b8_2 b8_3 (ze .u8 j) (a:Int) 0=kx p1 b4_0 b4_1 b4_2 b4_3 b8_0 R b8_2 b8_3 (ze .u8 j) at_ e)
 | 0,m,a,xs,h1,h2,ha=>by omega
 | fu+1,0,a,xs,h1,h2,ha=>by
  refine .inl ⟨[],a,rfl,?_⟩
  rw [y6,zIy (hf:=.inl (by decide)),XV]
 | fu+1,m+1,a,xs,h1,h2,ha=>by
  rw [y6,zSD (hm:=by omega) (hR:=by rw [QB]; omega),zXb hL hb hj ha]
  have bad:∀ (e:Int) (he:e≠0) (at_:Int) (r:List V),y6 yb xe L kx fu p1 (m:Int) b4_0 b4_1 b4_2 b4_3 b8_0 (xs.map zaC++[r]) b8_2 b8_3 (ze .u8 j) at_ e=kx p1 b4_0 b4_1 b4_2 b4_3 b8_0 (xs.map zaC++[r]) b8_2 b8_3 (ze .u8 j) at_ e:=fun e he at_ r=>by
   obtain ⟨f2,rfl⟩:∃ f2,fu=f2+1:=⟨fu-1,by omega⟩
   rw [y6,zIy (hf:=.inr he)]
  have hlen:∀ r:List V,(xs.map zaC++[r]).length≤64:=fun r=>by simp; omega
  cases e1:zg4 j a with
  | error e=>
   have he:=zx4 e1
   refine .inr ⟨e,_,0,by simp only [zgD,gIn,e1],he,hlen (zbO zbm 0 0 zgs),?_⟩
   rw [yQ,zGB L _ he,ya zMK,zGB L _ he]
   exact bad e he 0 _
  | ok p=>
   obtain ⟨h,a1⟩:=p
   obtain ⟨k1,k2⟩:=zsy e1
   rw [xH,zKg hL hb hj k1]
   cases e2:gN j 4 a1 with
   | error e=>
    have he:=ziF e2
    refine .inr ⟨e,_,0,by simp only [zgD,gIn,e1,e2],he,hlen (zbO (row .u8 h) 0 0 zgs),?_⟩
    rw [yQ,ya (by rw [zk]; omega),zGB L _ he]
    exact bad e he 0 _
   | ok p=>
    obtain ⟨ix,a2⟩:=p
    have k3:=zmu e2
    rw [xH,ya (by rw [zk]; omega),zKg hL hb hj k3]
    cases e3:gN j 4 a2 with
    | error e=>
     have he:=ziF e3
     refine .inr ⟨e,_,0,by simp only [zgD,gIn,e1,e2,e3],he,hlen (zbO (row .u8 h) ix 0 zgs),?_⟩
     rw [yQ]
     exact bad e he 0 _
    | ok p=>
     obtain ⟨sq,a3⟩:=p
     have k4:=zmu e3
     have hrow:xs.map zaC++[zbO (row .u8 h) (ix:Int) (sq:Int) zgs]=(xs++[(⟨h++[(ix:Int)],sq,[]⟩:Inp)]).map zaC:=by rw [X0,QW,X2,zM7 k2]
     rw [xH,hrow]
     rcases zQo kx fu m a3 (xs++[(⟨h++[(ix:Int)],sq,[]⟩:Inp)]) (by simp; omega) (by omega) k4 with ⟨ys,a',q1,q2⟩ | ⟨e,R,at_,q1,q2,q3,q4⟩
     ·refine .inl ⟨(⟨h++[(ix:Int)],sq,[]⟩:Inp)::ys,a',by simp only [zgD,gIn,e1,e2,e3,q1],?_⟩
      rw [q2,Wu]
      rfl
     ·exact .inr ⟨e,R,at_,by simp only [zgD,gIn,e1,e2,e3,q1],q2,q3,q4⟩
end
section
variable {L:Nat} (hL:20≤L) {j:List Int} (hb:Byt j) (hj:j.length≤100000000)
include hL hb hj
theorem zTC{a:Nat}(ha:a≤j.length)(k:List V→Ls→Int→Int→Option β) :
  (∃ o a',zly j a=.ok (o,a')∧xb β L (ze .u8 j) (a:Int) 0 k=k (zcu o) (ze .u8 j) (a':Int) 0) ∨
  (∃ e o at_,zly j a=.error e∧e≠0∧xb β L (ze .u8 j) (a:Int) 0 k=k (zcu o) (ze .u8 j) at_ e):=by
 have hz:∀ (x:Int) (s:List Int) (K:Option β),chk (0=0∧(XI [(Qe x),(V.sl 1 (ze .u8 s))])=2∧2≠0) K=K:=fun x s K=>ya (by simp) K
 have hn:([]:Ls)=ze .u8 []:=rfl
 unfold xb zhO
 rw [zWO hL hb hj ha]
 cases e1:gN j 8 a with
 | error e=>
  have he:=ziF e1
  refine .inr ⟨e,⟨0,[]⟩,0,by simp only [zly,e1],he,?_⟩
  rw [yQ,zao he,xr (by decide) (by decide),zd,zPB L _ he,zd,hn,hz]
  rfl
 | ok p=>
  obtain ⟨v,a1⟩:=p
  have k1:=zmu e1
  rw [xH,zbq rfl,zba]
  by_cases hv:v≥9223372036854775808
  ·refine .inr ⟨90,⟨QG .i64 v,[]⟩,(a1:Int),by simp only [zly,e1,if_pos hv],by decide,?_⟩
   rw [if_pos (by omega),zd,zPB L _ (by decide),zd,hn,hz]
   rfl
  ·rw [if_neg (by omega),xr (by omega) (by omega),zd,zTp hL hb hj k1]
   cases e2:zdE j 520 a1 with
   | error e=>
    refine .inr ⟨e,⟨v,[]⟩,0,by simp only [zly,e1,if_neg hv,e2],zkh e2,?_⟩
    rw [yQ,zd,hn,hz]
    rfl
   | ok p=>
    obtain ⟨s,a2⟩:=p
    refine .inl ⟨⟨v,s⟩,a2,by simp only [zly,e1,if_neg hv,e2],?_⟩
    rw [xH,zd,hz]
    rfl
end
theorem zNQ{j:List Int}{a a':Nat}{o:Outp}(h:zly j a=.ok (o,a')):a'≤j.length:=by
 unfold zly at h
 split at h
 ·cases h
 ·split at h
  ·cases h
  ·split at h
   ·cases h
   ·rename_i hz; cases h; exact (zqc hz).1
section
variable {L:Nat} (p1 b4_0:Int) (b4_1 b4_2:Ls) (b4_3 b8_0:Int) (b8_1:Ls) (b8_3:Int)
theorem zSa(m:Nat)(O J:Ls)(hm:m≤64)(hO:O.length≤64)(at_:Int)(kh:ze3 β)(kx:zh9 β) :
  zcq xb L p1 ((m+1:Nat):Int) b4_0 b4_1 b4_2 b4_3 b8_0 b8_1 O b8_3 J at_ 0 kh kx =
  xb β L J at_ 0 (fun v30 v31 v32 v33=>chk ((XI v30)=2∧0+2≤2) (kh p1 (m:Int) b4_0 b4_1 b4_2 b4_3 b8_0 b8_1 (O++[v30]) b8_3 v31 v32 v33)):=by
 have hs:(100000000:Nat)≤zg:=by decide
 unfold zcq
 rw [xz (by omega),zbq rfl]
 congr 1
 funext v30 v31 v32 v33
 by_cases h:(XI v30)=2∧0+2≤2
 ·have hc:yf 2 1 v30=[v30]:=by unfold yf; rw [Xy (by omega)]; rfl
  rw [ya h,ya h,zai (new:=v30) (by simp [h.1]),hc,ya (by simp only [XQ,XR]; omega),zd,xr (by omega) (by omega),zd,show ((m+1:Nat):Int)-1=(m:Int) by omega]
 ·simp only [zfl,if_neg h]
theorem zBH(O J:Ls)(at_ f:Int)(n:Int)(hf:¬ n>0∨f≠0)(kh:ze3 β)(kx:zh9 β) :
  zcq xb L p1 n b4_0 b4_1 b4_2 b4_3 b8_0 b8_1 O b8_3 J at_ f kh kx=kx p1 b4_0 b4_1 b4_2 b4_3 b8_0 b8_1 O b8_3 J at_ f:=by
 unfold zcq
 by_cases h:n>0
 ·rw [xz h,zao (hf.resolve_left (fun hh=>hh h))]
 ·rw [yq h]
variable (hL:20≤L) {j:List Int} (hb:Byt j) (hj:j.length≤100000000)
include hL hb hj
theorem zPK(kx:zh9 β):∀ (fu m a:Nat) (xs:List Outp),xs.length+m≤64→m+1<fu→a≤j.length →
  (∃ ys a',zdH j m a=.ok (ys,a')∧yU xb L kx fu p1 (m:Int) b4_0 b4_1 b4_2 b4_3 b8_0 b8_1 (xs.map zcu) b8_3 (ze .u8 j) (a:Int) 0=kx p1 b4_0 b4_1 b4_2 b4_3 b8_0 b8_1 ((xs++ys).map zcu) b8_3 (ze .u8 j) (a':Int) 0) ∨
  (∃ e O at_,zdH j m a=.error e∧e≠0∧yU xb L kx fu p1 (m:Int) b4_0 b4_1 b4_2 b4_3 b8_0 b8_1 (xs.map zcu) b8_3 (ze .u8 j) (a:Int) 0=kx p1 b4_0 b4_1 b4_2 b4_3 b8_0 b8_1 O b8_3 (ze .u8 j) at_ e)
 | 0,m,a,xs,h1,h2,ha=>by omega
 | fu+1,0,a,xs,h1,h2,ha=>by
  refine .inl ⟨[],a,rfl,?_⟩
  rw [yU,zBH (hf:=.inl (by decide)),XV]
 | fu+1,m+1,a,xs,h1,h2,ha=>by
  rw [yU,zSa (hm:=by omega) (hO:=by rw [QB]; omega)]
  rcases zTC hL hb hj ha _ with ⟨o,a1,e1,q⟩ | ⟨e,o,at_,e1,he,q⟩
  ·rw [q,ya ⟨zKZ o,by omega⟩]
   have hrow:xs.map zcu++[zcu o]=(xs++[o]).map zcu:=by rw [X0,QW,X2]
   rw [hrow]
   rcases zPK kx fu m a1 (xs++[o]) (by simp; omega) (by omega) (zNQ e1) with ⟨ys,a',q1,q2⟩ | ⟨e,O,at_,q1,q2,q3⟩
   ·refine .inl ⟨o::ys,a',by simp only [zdH,e1,q1],?_⟩
    rw [q2,Wu]
    rfl
   ·exact .inr ⟨e,O,at_,by simp only [zdH,e1,q1],q2,q3⟩
  ·refine .inr ⟨e,xs.map zcu++[zcu o],at_,by simp only [zdH,e1],he,?_⟩
   rw [q,ya ⟨zKZ o,by omega⟩]
   obtain ⟨f2,rfl⟩:∃ f2,fu=f2+1:=⟨fu-1,by omega⟩
   rw [yU,zBH (hf:=.inr he)]
end
end
section
set_option linter.unusedSectionVars false
variable {β:Type}
def ztC(x:Inp)(w:Ls):List V:=zbO (row .u8 (x.pv.take 32)) (x.pv.getD 32 0) x.seq (V.gs 1 w)
theorem zQw(x:Inp):zaC x=ztC x (zbu x.wit):=rfl
def rws(ds:List Inp)(x:Inp)(w:Ls)(rs:List Inp):Ls:=ds.map zaC++ztC x w::rs.map zaC
def fl(ds:List Inp)(x:Inp)(w:Ls)(rs:List Inp):List V:=(rws ds x w rs).flatten
theorem zBk{x:Inp}(h:x.pv.length=33):(row .u8 (x.pv.take 32)).length=32:=by rw [zk,Ww]; omega
theorem zyq{x:Inp}(h:x.pv.length=33)(w:Ls):(ztC x w).length=35:=zdI (zBk h) _ _ _
theorem zKJ{ds:List Inp}{x:Inp}{rs:List Inp}(h:∀ y∈ds++x::rs,y.pv.length=33)(w:Ls):∀ e∈rws ds x w rs,e.length=35:=by
 intro e he
 unfold rws at he
 rcases QD.1 he with h1 | h1
 ·obtain ⟨y,hy,rfl⟩:=Xz.1 h1
  exact zyq (h y (QD.2 (.inl hy))) _
 ·rcases Q9.1 h1 with rfl | h1
  ·exact zyq (h x (by simp)) _
  ·obtain ⟨y,hy,rfl⟩:=Xz.1 h1
   exact zyq (h y (by simp [hy])) _
theorem zPy(ds:List Inp)(x:Inp)(w:Ls)(rs:List Inp):(rws ds x w rs)[ds.length]?=some (ztC x w):=by
 unfold rws
 rw [Wt (by simp)]
 simp
theorem zUD{x:Inp}(h:x.pv.length=33)(w:Ls):(ztC x w)[34]?=some (V.gs 1 w):=by
 unfold ztC zbO
 rw [Wt (by rw [zBk h]; omega),zBk h]
 rfl
theorem zRb(n:Nat):(0+((XJ ((n:Nat):Int))*35))+34=n*35+34:=by rw [XZ]; omega
theorem zLo{ds:List Inp}{x:Inp}{rs:List Inp}(h:∀ y∈ds++x::rs,y.pv.length=33)(w:Ls):(fl ds x w rs).length=(ds.length+1+rs.length)*35:=by
 unfold fl
 rw [zK7 (zKJ h w)]
 simp [rws]
 omega
theorem zQI{ds:List Inp}{x:Inp}{rs:List Inp}(h:∀ y∈ds++x::rs,y.pv.length=33)(w:Ls)(k:Ls→Option β):cG 1 (fl ds x w rs) (ds.length*35+34) k=k w:=by
 unfold cG zdn fl
 rw [zSy (by decide) (zKJ h w) (by decide:34<35) (zPy ds x w rs),zUD (h x (by simp))]
 show chk (1=1) (k w)=k w
 exact ya rfl _
theorem zFe{ds:List Inp}{x:Inp}{rs:List Inp}(h:∀ y∈ds++x::rs,y.pv.length=33)(w w':Ls)(u:V):List.set (List.set (fl ds x w rs) (ds.length*35+34) u) (ds.length*35+34) (V.gs 1 w')=fl ds x w' rs:=by
 have hl:=zLo h w
 rw [List.set_set,← znd (by omega)]
 unfold fl
 rw [zSK (by decide) (zKJ h w) (by decide:34<35) (zPy ds x w rs)]
 congr 1
 unfold rws
 rw [XU _ _ (by simp),QB,Nat.sub_self,List.set_cons_zero]
 congr 2
 unfold ztC zbO
 rw [XU _ _ (by rw [zBk (h x (by simp))]; omega),zBk (h x (by simp))]
 rfl
theorem zWq(d:Nat→Bool)(x:Inp)(w:Ls):∀ c∈ztC x w,zk3 d c=c:=by
 intro c hc
 unfold ztC zbO at hc
 rcases QD.1 hc with h | h
 ·unfold row at h
  obtain ⟨y,_,rfl⟩:=Xz.1 h
  rfl
 ·simp only [Q9,List.not_mem_nil,or_false] at h
  rcases h with rfl | rfl | rfl <;> rfl
theorem zKO(kb:List Bool){es:Ls}(h:∀ e∈es,∃ x w,e=ztC x w):xU kb es.flatten=es.flatten:=by
 unfold xU
 have:∀ c∈es.flatten,zk3 (fun id=>!(kb.getD id false)) c=c:=by
  intro c hc
  obtain ⟨e,he,hc⟩:=List.mem_flatten.1 hc
  obtain ⟨x,w,rfl⟩:=h e he
  exact zWq _ x w c hc
 rw [List.map_congr_left this,List.map_id']
theorem zjg(kb:List Bool)(ds:List Inp)(x:Inp)(w:Ls)(rs:List Inp):xU kb (fl ds x w rs)=fl ds x w rs:=by
 refine zKO kb ?_
 intro e he
 unfold rws at he
 rcases QD.1 he with h1 | h1
 ·obtain ⟨y,hy,rfl⟩:=Xz.1 h1
  exact ⟨y,_,rfl⟩
 ·rcases Q9.1 h1 with rfl | h1
  ·exact ⟨x,w,rfl⟩
  ·obtain ⟨y,hy,rfl⟩:=Xz.1 h1
   exact ⟨y,_,rfl⟩
theorem zsr(kb:List Bool)(xs:List Inp):xU kb (xs.map zaC).flatten=(xs.map zaC).flatten:=by
 refine zKO kb ?_
 intro e he
 obtain ⟨y,hy,rfl⟩:=Xz.1 he
 exact ⟨y,_,rfl⟩
section
variable {L:Nat} (p1:Int) (pl:Nat) (p72 p73 b4_0:Int) (b4_1 b4_2:Ls) (b4_3 b10_0:Int) (nl:Nat) (b10_2:Ls) (b10_3:Int)
variable {ds:List Inp} {x:Inp} {rs:List Inp} (hW:∀ y∈ds++x::rs,y.pv.length=33) (hnl:nl=ds.length+1+rs.length)
include hW hnl
theorem zL6{c i:Nat}(hi:i<c)(hc:c≤32)(w J:Ls)(hw:w.length≤64)(at_ f:Int)(kh:zbW β)(kx:zhv β) :
  y4 ye L p1 ((ds.length:Nat):Int) pl p72 p73 (c:Int) (i:Int) b4_0 b4_1 b4_2 b4_3 b10_0 nl b10_2 b10_3 J at_ f (fl ds x w rs) kh kx =
  ye β L (520:Int) J at_ f
   (fun v83 v84 v85 v86=>kh p1 ((ds.length:Nat):Int) pl p72 p73 (c:Int) ((i+1:Nat):Int) b4_0 b4_1 b4_2 b4_3 b10_0 nl b10_2 b10_3 v84 v85 v86 (fl ds x (w++[[(V.sl 1 v83)]]) rs))
   (fun v83 v84 v85 v86=>kh p1 ((ds.length:Nat):Int) pl p72 p73 (c:Int) ((i+1:Nat):Int) b4_0 b4_1 b4_2 b4_3 b10_0 nl b10_2 b10_3 v84 v85 v86 (fl ds x (w++[[(V.sl 1 v83)]]) rs)):=by
 have hs:(100000000:Nat)≤zg:=by decide
 have hl:=zLo hW w
 have hch:∀ v:V,yf 1 1 [v]=[[v]]:=fun v=>rfl
 unfold y4
 rw [xz (by omega),ya (by omega),zRb,zQI hW]
 congr 1
 ·funext v83 v84 v85 v86
  rw [hch,ya (by simp only [XQ,XR]; omega),zd,ya (by omega),ya (by rw [QI]; omega),zd,yI (by omega),zFe hW,zjg]
 ·funext v83 v84 v85 v86
  rw [hch,ya (by simp only [XQ,XR]; omega),zd,ya (by omega),ya (by rw [QI]; omega),zd,yI (by omega),zFe hW,zjg]
theorem zMS{c i:Nat}(hi:¬ i<c)(w J:Ls)(at_ f:Int)(kh:zbW β)(kx:zhv β) :
  y4 ye L p1 ((ds.length:Nat):Int) pl p72 p73 (c:Int) (i:Int) b4_0 b4_1 b4_2 b4_3 b10_0 nl b10_2 b10_3 J at_ f (fl ds x w rs) kh kx=kx p1 pl p72 p73 b4_0 b4_1 b4_2 b4_3 b10_0 nl b10_2 b10_3 J at_ f (fl ds x w rs):=by
 unfold y4
 rw [yq (by omega),zjg]
theorem zHo{c:Nat}(hc:c≤32)(J:Ls)(at_:Int){e:Int}(he:e≠0)(kx:zhv β):∀ (m i:Nat) (w:Ls),w.length=i→i≤c→c-i<m →
  ∃ b':List V,xB ye L kx m p1 ((ds.length:Nat):Int) pl p72 p73 (c:Int) (i:Int) b4_0 b4_1 b4_2 b4_3 b10_0 nl b10_2 b10_3 J at_ e (fl ds x w rs)=kx p1 pl p72 p73 b4_0 b4_1 b4_2 b4_3 b10_0 nl b10_2 b10_3 J at_ e b'
 | 0,i,w,h1,h2,h3=>by omega
 | m+1,i,w,h1,h2,h3=>by
  by_cases hi:i<c
  ·obtain ⟨b',e2⟩:=zHo hc J at_ he kx m (i+1) (w++[[(V.sl 1 [])]]) (by simp [h1]) (by omega) (by omega)
   refine ⟨b',?_⟩
   rw [xB,zL6 (hW:=hW) (hnl:=hnl) (hi:=hi) (hc:=hc) (hw:=by omega),zFJ L J he]
   exact e2
  ·refine ⟨fl ds x w rs,?_⟩
   rw [xB,zMS (hW:=hW) (hnl:=hnl) (hi:=hi)]
variable (hL:20≤L) {j:List Int} (hb:Byt j) (hj:j.length≤100000000)
include hL hb hj
theorem zQZ{c:Nat}(hc:c≤32)(kx:zhv β):∀ (m i a:Nat) (ws:List (List Int)),ws.length=i→i≤c→c-i<m→a≤j.length →
  (∃ ys a',zhl j (c-i) a=.ok (ys,a')∧xB ye L kx m p1 ((ds.length:Nat):Int) pl p72 p73 (c:Int) (i:Int) b4_0 b4_1 b4_2 b4_3 b10_0 nl b10_2 b10_3 (ze .u8 j) (a:Int) 0 (fl ds x (zbu ws) rs)=kx p1 pl p72 p73 b4_0 b4_1 b4_2 b4_3 b10_0 nl b10_2 b10_3 (ze .u8 j) (a':Int) 0 (fl ds x (zbu (ws++ys)) rs)) ∨
  (∃ e at_ b',zhl j (c-i) a=.error e∧e≠0∧xB ye L kx m p1 ((ds.length:Nat):Int) pl p72 p73 (c:Int) (i:Int) b4_0 b4_1 b4_2 b4_3 b10_0 nl b10_2 b10_3 (ze .u8 j) (a:Int) 0 (fl ds x (zbu ws) rs)=kx p1 pl p72 p73 b4_0 b4_1 b4_2 b4_3 b10_0 nl b10_2 b10_3 (ze .u8 j) at_ e b')
 | 0,i,a,ws,h1,h2,h3,ha=>by omega
 | m+1,i,a,ws,h1,h2,h3,ha=>by
  by_cases hi:i<c
  ·have hn1:c-i=(c-(i+1))+1:=by omega
   have hwl:(zbu ws).length=i:=by simp [zbu,h1]
   rw [hn1,xB,zL6 (hW:=hW) (hnl:=hnl) (hi:=hi) (hc:=hc) (hw:=by omega),zS4 hL hb hj ha]
   cases e1:zdE j 520 a with
   | error e=>
    have he:=zkh e1
    obtain ⟨b',q2⟩:=zHo p1 pl p72 p73 b4_0 b4_1 b4_2 b4_3 b10_0 nl b10_2 b10_3 hW hnl hc (ze .u8 j) (a:Int) he kx m (i+1) (zbu ws++[[(V.sl 1 [])]]) (by simp [hwl]) (by omega) (by omega)
    refine .inr ⟨e,(a:Int),b',by simp only [zhl,e1],he,?_⟩
    rw [yQ]
    exact q2
   | ok p=>
    obtain ⟨s,a1⟩:=p
    have k1:=(zqc e1).1
    have hrow:zbu ws++[[(V.sl 1 (ze .u8 s))]]=zbu (ws++[s]):=by simp [zbu]
    rw [xH,hrow]
    rcases zQZ hc kx m (i+1) a1 (ws++[s]) (by simp [h1]) (by omega) (by omega) k1 with ⟨ys,a',q1,q2⟩ | ⟨e,at_,b',q1,q2,q3⟩
    ·refine .inl ⟨s::ys,a',by simp only [zhl,e1,q1],?_⟩
     rw [q2,Wu]
     rfl
    ·exact .inr ⟨e,at_,b',by simp only [zhl,e1,q1],q2,q3⟩
  ·have hn0:c-i=0:=by omega
   refine .inl ⟨[],a,by rw [hn0]; rfl,?_⟩
   rw [xB,zMS (hW:=hW) (hnl:=hnl) (hi:=hi),XV]
end
end
section
set_option linter.unusedSectionVars false
variable {β:Type}
theorem zG4(ds:List Inp)(x:Inp)(w:List (List Int))(rs:List Inp):fl ds x (zbu w) rs=((ds++{ x with wit:=w }::rs).map zaC).flatten:=by
 simp [fl,rws,zQw,ztC]
theorem zQd(ds:List Inp)(x:Inp)(hx:x.wit=[])(rs:List Inp):((ds++x::rs).map zaC).flatten=fl ds x (zbu []) rs:=by
 rw [zG4,← hx]
theorem zBQ{j:List Int}:∀ (n a:Nat) {a':Nat} {ys:List (List Int)},a≤j.length→zhl j n a=.ok (ys,a')→a'≤j.length
 | 0,a,a',ys,ha,h=>by simp only [zhl] at h; cases h; exact ha
 | n+1,a,a',ys,ha,h=>by
  rw [zhl] at h
  split at h
  ·cases h
  ·rename_i x a1 hz
   split at h
   ·cases h
   ·rename_i xs a2 hz2
    cases h
    exact zBQ n a1 (zqc hz).1 hz2
section
variable {L:Nat} (p1:Int) (pl:Nat) (b4_0:Int) (b4_1 b4_2:Ls) (b4_3 b10_0:Int) (nl:Nat) (b10_2:Ls) (b10_3:Int)
theorem zLm{n:Nat}(hL:20≤L)(hn:n≤64)(J:Ls)(at_:Int){e:Int}(he:e≠0)(kx:zmc β):∀ (m i:Nat) (F:List V),i≤n→n-i<m →
  ∃ b':List V,zI yg ye L kx m p1 pl (n:Int) (i:Int) b4_0 b4_1 b4_2 b4_3 b10_0 nl b10_2 b10_3 J at_ e F=kx p1 pl b4_0 b4_1 b4_2 b4_3 b10_0 nl b10_2 b10_3 J at_ e b'
 | 0,i,F,h2,h3=>by omega
 | m+1,i,F,h2,h3=>by
  rw [zI]
  unfold zbH zc3
  by_cases hi:i<n
  ·obtain ⟨l,hl⟩:∃ l,L=l+1:=⟨L-1,by omega⟩
   rw [xz (by omega),zKW L J he]
   have key:∀ (kx6:zhv β) (F:List V),∃ b',xB ye L kx6 L p1 (i:Int) pl (n:Int) (i:Int) 0 0 b4_0 b4_1 b4_2 b4_3 b10_0 nl b10_2 b10_3 J at_ e F=kx6 p1 pl (n:Int) (i:Int) b4_0 b4_1 b4_2 b4_3 b10_0 nl b10_2 b10_3 J at_ e b':=by
    intro kx6 F
    generalize hg:L=L'
    rw [hl] at hg
    subst hg
    rw [xB]
    unfold y4
    rw [yq (by omega)]
    exact ⟨_,rfl⟩
   obtain ⟨b1,q1⟩:=key (fun p1 p71l p72 p73 b4_0 b4_1 b4_2 b4_3 b10_0 b10_1l b10_2 b10_3 b17_0 b17_1 b17_2 b71=>zD L p1 p71l p72 p73 b4_0 b4_1 b4_2 b4_3 b10_0 b10_1l b10_2 b10_3 b17_0 b17_1 b17_2 b71 (fun p1 p71l p72 p73 b4_0 b4_1 b4_2 b4_3 b10_0 b10_1l b10_2 b10_3 b17_0 b17_1 b17_2 b71=>zI yg ye L kx m p1 p71l p72 p73 b4_0 b4_1 b4_2 b4_3 b10_0 b10_1l b10_2 b10_3 b17_0 b17_1 b17_2 b71)) (xU (bl 680564733833211346651751552939242551295 129) F)
   have r:∀ F:List V,∃ b',zD L p1 pl (n:Int) (i:Int) b4_0 b4_1 b4_2 b4_3 b10_0 nl b10_2 b10_3 J at_ e F (fun p1 p71l p72 p73 b4_0 b4_1 b4_2 b4_3 b10_0 b10_1l b10_2 b10_3 b17_0 b17_1 b17_2 b71=>zI yg ye L kx m p1 p71l p72 p73 b4_0 b4_1 b4_2 b4_3 b10_0 b10_1l b10_2 b10_3 b17_0 b17_1 b17_2 b71)=kx p1 pl b4_0 b4_1 b4_2 b4_3 b10_0 nl b10_2 b10_3 J at_ e b':=by
    intro F
    unfold zD
    rw [yI (by omega),zd]
    exact zLm hL hn J at_ he kx m (i+1) _ (by omega) (by omega)
   obtain ⟨b2,q2⟩:=r b1
   exact ⟨b2,q1.trans q2⟩
  ·rw [yq (by omega)]
   exact ⟨_,rfl⟩
variable (hL:1000≤L) {j:List Int} (hb:Byt j) (hj:j.length≤100000000)
include hL hb hj
theorem zTj(hnl:nl≤64)(kx:zmc β):∀ (m a:Nat) (rs ds:List Inp),(∀ y∈ds++rs,y.pv.length=33)→(∀ y∈rs,y.wit=[])→nl=ds.length+rs.length→rs.length<m→a≤j.length →
  (∃ ys a',zdx j rs a=.ok (ys,a')∧zI yg ye L kx m p1 pl (nl:Int) ((ds.length:Nat):Int) b4_0 b4_1 b4_2 b4_3 b10_0 nl b10_2 b10_3 (ze .u8 j) (a:Int) 0 ((ds++rs).map zaC).flatten=kx p1 pl b4_0 b4_1 b4_2 b4_3 b10_0 nl b10_2 b10_3 (ze .u8 j) (a':Int) 0 ((ds++ys).map zaC).flatten) ∨
  (∃ e at_ b',zdx j rs a=.error e∧e≠0∧zI yg ye L kx m p1 pl (nl:Int) ((ds.length:Nat):Int) b4_0 b4_1 b4_2 b4_3 b10_0 nl b10_2 b10_3 (ze .u8 j) (a:Int) 0 ((ds++rs).map zaC).flatten=kx p1 pl b4_0 b4_1 b4_2 b4_3 b10_0 nl b10_2 b10_3 (ze .u8 j) at_ e b')
 | 0,a,rs,ds,hW,hw,h1,h2,ha=>by omega
 | m+1,a,[],ds,hW,hw,h1,h2,ha=>by
  refine .inl ⟨[],a,rfl,?_⟩
  rw [zI]
  unfold zbH zc3
  rw [yq (by simp only [XR] at h1; omega),zsr]
 | m+1,a,x::rs,ds,hW,hw,h1,h2,ha=>by
  simp only [XQ] at h1 h2
  have hx:=hw x (by simp)
  have hL20:20≤L:=by omega
  rw [zI]
  unfold zbH zc3
  rw [xz (by omega),zXL hL20 hb hj ha,zsr,zQd ds x hx rs]
  have bad:∀ {e:Int} (he:e≠0) (at_:Int) (F:List V),∃ b':List V,zD L p1 pl (nl:Int) ((ds.length:Nat):Int) b4_0 b4_1 b4_2 b4_3 b10_0 nl b10_2 b10_3 (ze .u8 j) at_ e F (fun p1 p71l p72 p73 b4_0 b4_1 b4_2 b4_3 b10_0 b10_1l b10_2 b10_3 b17_0 b17_1 b17_2 b71=>zI yg ye L kx m p1 p71l p72 p73 b4_0 b4_1 b4_2 b4_3 b10_0 b10_1l b10_2 b10_3 b17_0 b17_1 b17_2 b71)=kx p1 pl b4_0 b4_1 b4_2 b4_3 b10_0 nl b10_2 b10_3 (ze .u8 j) at_ e b':=by
   intro e he at_ F
   unfold zD
   rw [yI (by omega),zd]
   exact zLm p1 pl b4_0 b4_1 b4_2 b4_3 b10_0 nl b10_2 b10_3 hL20 hnl _ at_ he kx m _ _ (by omega) (by omega)
  cases e1:zbA j 32 a with
  | error e=>
   have he:=zcY e1
   rw [yQ]
   obtain ⟨b',q⟩:=zHo p1 pl (nl:Int) ((ds.length:Nat):Int) b4_0 b4_1 b4_2 b4_3 b10_0 nl b10_2 b10_3 hW (by omega) (c:=0) (by decide) (ze .u8 j) (a:Int) he (fun p1 p71l p72 p73 b4_0 b4_1 b4_2 b4_3 b10_0 b10_1l b10_2 b10_3 b17_0 b17_1 b17_2 b71=>zD L p1 p71l p72 p73 b4_0 b4_1 b4_2 b4_3 b10_0 b10_1l b10_2 b10_3 b17_0 b17_1 b17_2 b71 (fun p1 p71l p72 p73 b4_0 b4_1 b4_2 b4_3 b10_0 b10_1l b10_2 b10_3 b17_0 b17_1 b17_2 b71=>zI yg ye L kx m p1 p71l p72 p73 b4_0 b4_1 b4_2 b4_3 b10_0 b10_1l b10_2 b10_3 b17_0 b17_1 b17_2 b71)) L 0 (zbu []) rfl (by omega) (by omega)
   obtain ⟨b2,q2⟩:=bad he (a:Int) b'
   refine .inr ⟨e,(a:Int),b2,by simp only [zdx,e1],he,?_⟩
   exact q.trans q2
  | ok p=>
   obtain ⟨n,a1⟩:=p
   obtain ⟨k1,k2⟩:=zbn e1
   rw [xH]
   rcases zQZ p1 pl (nl:Int) ((ds.length:Nat):Int) b4_0 b4_1 b4_2 b4_3 b10_0 nl b10_2 b10_3 hW (by omega) hL20 hb hj k2 (fun p1 p71l p72 p73 b4_0 b4_1 b4_2 b4_3 b10_0 b10_1l b10_2 b10_3 b17_0 b17_1 b17_2 b71=>zD L p1 p71l p72 p73 b4_0 b4_1 b4_2 b4_3 b10_0 b10_1l b10_2 b10_3 b17_0 b17_1 b17_2 b71 (fun p1 p71l p72 p73 b4_0 b4_1 b4_2 b4_3 b10_0 b10_1l b10_2 b10_3 b17_0 b17_1 b17_2 b71=>zI yg ye L kx m p1 p71l p72 p73 b4_0 b4_1 b4_2 b4_3 b10_0 b10_1l b10_2 b10_3 b17_0 b17_1 b17_2 b71)) L 0 a1 [] rfl (by omega) (by omega) k1 with ⟨ws,a2,q1,q2⟩ | ⟨e,at_,b',q1,q2,q3⟩
   ·have k3:a2≤j.length:=zBQ _ _ k1 q1
    rw [XT] at q2
    rw [XY] at q1
    have hW':∀ y∈(ds++[{ x with wit:=ws }])++rs,y.pv.length=33:=by
     intro y hy
     rw [Wu] at hy
     rcases QD.1 hy with h | h
     ·exact hW y (by simp [h])
     ·rcases Q9.1 h with rfl | h
      ·exact hW x (by simp)
      ·exact hW y (by simp at h; simp [h])
    rcases zTj hnl kx m a2 rs (ds++[{ x with wit:=ws }]) hW' (fun y hy=>hw y (by simp [hy])) (by simp; omega) (by omega) k3 with ⟨ys,a',r1,r2⟩ | ⟨e,at_,b',r1,r2,r3⟩
    ·refine .inl ⟨{ x with wit:=ws }::ys,a',by simp only [zdx,e1,q1,r1],?_⟩
     refine q2.trans ?_
     unfold zD
     rw [yI (by omega),zd,zjg,zG4]
     rw [Wu,Wu] at r2
     refine Eq.trans ?_ r2
     simp only [Wm,XQ,XR,XX,WB]
    ·refine .inr ⟨e,at_,b',by simp only [zdx,e1,q1,r1],r2,?_⟩
     refine q2.trans ?_
     unfold zD
     rw [yI (by omega),zd,zjg,zG4]
     rw [Wu] at r3
     refine Eq.trans ?_ r3
     simp only [Wm,XQ,XR,XX,WB]
   ·obtain ⟨b2,r2⟩:=bad q2 at_ b'
    rw [XY] at q1
    exact .inr ⟨e,at_,b2,by simp only [zdx,e1,q1],q2,q3.trans r2⟩
end
end
section
set_option linter.unusedSectionVars false
variable {β:Type}
def zkR:List V:=[(Qc (0:Int)),(V.sl 35 ([]:Ls)),(V.sl 2 ([]:Ls)),(Qc (0:Int))]
theorem zxP(k:Option β):chk (0=0∧(XI zkR)=4∧4≠0) k=k:=ya (by simp [zkR]) k
theorem zRM{l:List Int}(h:32≤l.length):XK 32 l=(List.range 32).map (fun i=>l.getD i 0):=by
 apply List.ext_getElem
 ·simp; omega
 ·intro i h1 h2
  simp at h1 h2 ⊢
  rw [List.getElem?_eq_getElem (by omega)]
  rfl
theorem zOC{x:Inp}(h:x.pv.length=33):(zaC x).mapM V.plain=some (zek x):=by
 unfold zaC
 rw [zRM (by omega)]
 rfl
theorem zRa{f:V→Option V}:∀ {l m l' m':List V},l.mapM f=some l'→m.mapM f=some m'→(l++m).mapM f=some (l'++m'):=by
 intro l m l' m' h1 h2
 rw [List.mapM_append,h1,h2]
 rfl
theorem zym:∀ {xs:List Inp},(∀ y∈xs,y.pv.length=33)→((xs.map zaC).flatten).mapM V.plain=some (xs.map zek).flatten
 | [],_=>rfl
 | x::xs,h=>by
  rw [QW,WL,QW,WL]
  exact zRa (zOC (h x (by simp))) (zym (fun y hy=>h y (by simp [hy])))
theorem zDp(xs:List Inp):yf 35 xs.length (xs.map zek).flatten=xs.map zek:=by
 have:=zDG (sz:=35) (es:=xs.map zek) (fun e he=>by obtain ⟨y,_,rfl⟩:=Xz.1 he; exact zx5 y)
 rwa [QB] at this
theorem zKM{xs:List Inp}(h:(xs.map zaC).flatten=[])(hW:∀ y∈xs,y.pv.length=33):xs=[]:=by
 cases xs with
 | nil=>rfl
 | cons x xs=>
  rw [QW,WL] at h
  have:=zyq (hW x (by simp)) (zbu x.wit)
  rw [List.append_eq_nil_iff] at h
  rw [← zQw,h.1] at this
  cases this
theorem zv4{j:List Int}:∀ (n a:Nat) {a':Nat} {ys:List Inp},a≤j.length→zgD j n a=.ok (ys,a')→a'≤j.length∧ys.length=n∧(∀ y∈ys,y.pv.length=33)∧∀ y∈ys,y.wit=[]
 | 0,a,a',ys,ha,h=>by simp only [zgD] at h; cases h; exact ⟨ha,rfl,by simp,by simp⟩
 | n+1,a,a',ys,ha,h=>by
  rw [zgD] at h
  split at h
  ·cases h
  ·rename_i x a1 hz
   split at h
   ·cases h
   ·rename_i xs a2 hz2
    cases h
    unfold gIn at hz
    split at hz
    ·cases hz
    ·rename_i hh b1 z1
     split at hz
     ·cases hz
     ·rename_i ix b2 z2
      split at hz
      ·cases hz
      ·rename_i sq b3 z3
       cases hz
       obtain ⟨r1,r2,r3,r4⟩:=zv4 n _ (zmu z3) hz2
       have hl:=(zsy z1).2
       refine ⟨r1,by simp [r2],?_,?_⟩
       ·intro y hy
        rcases Q9.1 hy with rfl | hy
        ·simp [hl]
        ·exact r3 y hy
       ·intro y hy
        rcases Q9.1 hy with rfl | hy
        ·rfl
        ·exact r4 y hy
theorem zEX{j:List Int}:∀ (n a:Nat) {a':Nat} {ys:List Outp},a≤j.length→zdH j n a=.ok (ys,a')→a'≤j.length
 | 0,a,a',ys,ha,h=>by simp only [zdH] at h; cases h; exact ha
 | n+1,a,a',ys,ha,h=>by
  rw [zdH] at h
  split at h
  ·cases h
  ·rename_i x a1 hz
   split at h
   ·cases h
   ·rename_i xs a2 hz2
    cases h
    exact zEX n a1 (zNQ hz) hz2
theorem zyp{j:List Int}:∀ (xs:List Inp) (a:Nat) {a':Nat} {ys:List Inp},a≤j.length→(∀ y∈xs,y.pv.length=33)→zdx j xs a=.ok (ys,a')→a'≤j.length∧ys.length=xs.length∧∀ y∈ys,y.pv.length=33
 | [],a,a',ys,ha,hW,h=>by simp only [zdx] at h; cases h; exact ⟨ha,rfl,by simp⟩
 | x::xs,a,a',ys,ha,hW,h=>by
  rw [zdx] at h
  split at h
  ·cases h
  ·rename_i n a1 hz
   split at h
   ·cases h
   ·rename_i w a2 hz2
    split at h
    ·cases h
    ·rename_i zs a3 hz3
     cases h
     obtain ⟨r1,r2,r3⟩:=zyp xs a2 (zBQ _ _ (zbn hz).1 hz2) (fun y hy=>hW y (by simp [hy])) hz3
     refine ⟨r1,by simp [r2],?_⟩
     intro y hy
     rcases Q9.1 hy with rfl | hy
     ·exact hW x (by simp)
     ·exact r3 y hy
section
variable {L:Nat} (p1:Int) (pl:Nat) (b4_0:Int) (b4_1 b4_2:Ls) (b4_3 b10_0:Int) (nl:Nat) (b10_2:Ls) (b10_3:Int)
theorem zLG(J:Ls)(at_:Int){e:Int}(he:e≠0)(F:List V)(k:List V→Int→Int→Option β) :
  y5 L p1 pl b4_0 b4_1 b4_2 b4_3 b10_0 nl b10_2 b10_3 J at_ e F k=k zkR 0 e:=by
 unfold y5
 rw [zao he,xm,if_neg he,zd]
 exact zxP _
theorem zUy(a0 a:Nat)(h0:a0≤100000000)(h1:a≤100000000)(J:Ls)(xs:List Inp)(os:List Outp)(hn:nl=xs.length)(hW:∀ y∈xs,y.pv.length=33)(k:List V→Int→Int→Option β) :
  y5 L (a0:Int) pl b4_0 b4_1 b4_2 b4_3 b10_0 nl (os.map zcu) b10_3 J (a:Int) 0 (xs.map zaC).flatten k=if a-a0>20000 then k zkR 0 4 else k (zaK ⟨b10_0,xs,os,b10_3⟩) (a:Int) 0:=by
 unfold y5
 rw [zbq rfl,xr (by omega) (by omega),zd,zba]
 by_cases h:a-a0>20000
 ·rw [if_pos (by omega),if_pos h,zd]
  exact zxP _
 ·rw [if_neg (by omega),if_neg h,xm,if_pos rfl]
  have hp:=zym hW
  cases hF:(xs.map zaC).flatten with
  | nil=>
   have hx:=zKM hF hW
   subst hx
   have:nl=0:=hn
   show chk (nl=0) _=_
   rw [ya this,zd,ya (by simp)]
   rfl
  | cons c cs=>
   rw [hF] at hp
   show zb4 (c::cs) _=_
   unfold zb4
   rw [hp]
   show lt _ _=_
   rw [zd,ya (by simp),hn,zDp,zL5 ⟨b10_0,xs,os,b10_3⟩]
end
section
variable {L:Nat} (hL:1000≤L) {j:List Int} (hb:Byt j) (hj:j.length≤100000000)
include hL hb hj
theorem zSp{a:Nat}(ha:a≤j.length)(k:List V→Int→Int→Option β):yP β L (ze .u8 j) (a:Int) k=zdi (gTx j a) (fun t a'=>k (zaK t) (a':Int) 0) (fun e=>k zkR 0 e):=by
 have hL20:20≤L:=by omega
 have t4:∀ {e:Int} (he:e≠0) (pl:Nat) (b4_0:Int) (b4_1 b4_2:Ls) (b4_3 b10_0:Int) (nl:Nat) (b10_2:Ls) (b10_3 at_:Int) (F:List V),nl≤64→zI yg ye L (fun p1 p71l b4_0 b4_1 b4_2 b4_3 b10_0 b10_1l b10_2 b10_3 b17_0 b17_1 b17_2 b71=>y5 L p1 p71l b4_0 b4_1 b4_2 b4_3 b10_0 b10_1l b10_2 b10_3 b17_0 b17_1 b17_2 b71 k) L (a:Int) pl (nl:Int) ((0:Nat):Int) b4_0 b4_1 b4_2 b4_3 b10_0 nl b10_2 b10_3 (ze .u8 j) at_ e F=k zkR 0 e:=by
  intro e he pl b4_0 b4_1 b4_2 b4_3 b10_0 nl b10_2 b10_3 at_ F hn
  obtain ⟨b',q⟩:=zLm (β:=β) (a:Int) pl b4_0 b4_1 b4_2 b4_3 b10_0 nl b10_2 b10_3 hL20 hn (ze .u8 j) at_ he (fun p1 p71l b4_0 b4_1 b4_2 b4_3 b10_0 b10_1l b10_2 b10_3 b17_0 b17_1 b17_2 b71=>y5 L p1 p71l b4_0 b4_1 b4_2 b4_3 b10_0 b10_1l b10_2 b10_3 b17_0 b17_1 b17_2 b71 k) L 0 F (by omega) (by omega)
  exact q.trans (zLG _ _ _ _ _ _ _ _ _ _ _ _ he _ k)
 have t2:∀ {e:Int} (he:e≠0) (b4_0:Int) (b4_1 b4_2:Ls) (b4_3 b10_0:Int) (R b10_2:Ls) (b10_3 at_:Int),R.length≤64→zac zc yg ye L (a:Int) b4_0 b4_1 b4_2 b4_3 b10_0 R b10_2 b10_3 (ze .u8 j) at_ e k=k zkR 0 e:=by
  intro e he b4_0 b4_1 b4_2 b4_3 b10_0 R b10_2 b10_3 at_ hR
  unfold zac ze6
  rw [zwE L _ he,zd]
  exact t4 he _ _ _ _ _ _ _ _ _ _ _ hR
 have t0:∀ {e:Int} (he:e≠0) (b4_0:Int) (b4_1 b4_2:Ls) (b4_3 b10_0:Int) (R:Ls) (b10_3 at_:Int),R.length≤64→zak zc yg xc ye L (a:Int) b4_0 b4_1 b4_2 b4_3 b10_0 R [] b10_3 (ze .u8 j) at_ e k=k zkR 0 e:=by
  intro e he b4_0 b4_1 b4_2 b4_3 b10_0 R b10_3 at_ hR
  unfold zak zfQ
  rw [zKW L _ he]
  obtain ⟨O',q⟩:=zxX (β:=β) (L:=L) (a:Int) b4_0 b4_1 b4_2 b4_3 b10_0 R b10_3 (n:=0) (by decide) (ze .u8 j) at_ he (fun p1 b4_0 b4_1 b4_2 b4_3 b10_0 b10_1 b10_2 b10_3 b17_0 b17_1 b17_2=>zac zc yg ye L p1 b4_0 b4_1 b4_2 b4_3 b10_0 b10_1 b10_2 b10_3 b17_0 b17_1 b17_2 k) L 0 [] rfl (by omega) (by omega)
  exact q.trans (t2 he _ _ _ _ _ _ _ _ _ hR)
 have tI:∀ {e:Int} (he:e≠0) (v at_:Int),zZ zc zf L (fun p1 b4_0 b4_1 b4_2 b4_3 b10_0 b10_1 b10_2 b10_3 b17_0 b17_1 b17_2=>zak zc yg xc ye L p1 b4_0 b4_1 b4_2 b4_3 b10_0 b10_1 b10_2 b10_3 b17_0 b17_1 b17_2 k) L (a:Int) 0 0 0 [] [] 0 v [] [] 0 (ze .u8 j) at_ e=k zkR 0 e:=by
  intro e he v at_
  obtain ⟨R',q0,q⟩:=zIb (β:=β) (L:=L) (a:Int) 0 [] [] 0 v [] 0 (n:=0) (by decide) (ze .u8 j) at_ he (fun p1 b4_0 b4_1 b4_2 b4_3 b10_0 b10_1 b10_2 b10_3 b17_0 b17_1 b17_2=>zak zc yg xc ye L p1 b4_0 b4_1 b4_2 b4_3 b10_0 b10_1 b10_2 b10_3 b17_0 b17_1 b17_2 k) L 0 [] rfl (by omega) (by omega)
  exact q.trans (t0 he _ _ _ _ _ _ _ _ (by omega))
 unfold yP zuS zAB
 rw [zKb hL20 hb hj ha]
 unfold gTx
 cases e1:gN j 4 a with
 | error e=>
  have he:=ziF e1
  rw [yQ,zKW L _ he]
  exact tI he _ _
 | ok p=>
  obtain ⟨ver,a1⟩:=p
  have h1:=zmu e1
  rw [xH,zVU hL20 hb hj h1]
  cases e2:zbA j 64 a1 with
  | error e=>
   have he:=zcY e2
   rw [yQ]
   simp only [e2]
   exact tI he _ _
  | ok p=>
   obtain ⟨n,a2⟩:=p
   obtain ⟨h2,hn⟩:=zbn e2
   rw [xH]
   simp only [e2]
   rcases zQt hL20 hb hj (a:Int) 0 [] [] 0 (ver:Int) [] 0 hn (fun p1 b4_0 b4_1 b4_2 b4_3 b10_0 b10_1 b10_2 b10_3 b17_0 b17_1 b17_2=>zak zc yg xc ye L p1 b4_0 b4_1 b4_2 b4_3 b10_0 b10_1 b10_2 b10_3 b17_0 b17_1 b17_2 k) L 0 a2 [] rfl (by omega) (by omega) h2 with ⟨xs,a3,q1,q2⟩ | ⟨e,R,at_,q1,q2,q3,q4⟩
   ·rw [XY] at q1
    rw [XT] at q2
    obtain ⟨h3,hx1,hx2,hx3⟩:=zv4 n a2 h2 q1
    refine Eq.trans q2 ?_
    simp only [q1]
    unfold zak zfQ
    rw [zVU hL20 hb hj h3]
    cases e4:zbA j 64 a3 with
    | error e=>
     have he:=zcY e4
     rw [yQ]
     obtain ⟨O',q⟩:=zxX (β:=β) (L:=L) (a:Int) 0 [] [] 0 (ver:Int) (xs.map zaC) 0 (n:=0) (by decide) (ze .u8 j) (a3:Int) he (fun p1 b4_0 b4_1 b4_2 b4_3 b10_0 b10_1 b10_2 b10_3 b17_0 b17_1 b17_2=>zac zc yg ye L p1 b4_0 b4_1 b4_2 b4_3 b10_0 b10_1 b10_2 b10_3 b17_0 b17_1 b17_2 k) L 0 [] rfl (by omega) (by omega)
     exact q.trans (t2 he _ _ _ _ _ _ _ _ _ (by rw [QB]; omega))
    | ok p=>
     obtain ⟨m,a4⟩:=p
     obtain ⟨h4,hm⟩:=zbn e4
     rw [xH]
     simp only []
     rcases zM8 hL20 hb hj (a:Int) 0 [] [] 0 (ver:Int) (xs.map zaC) 0 hm (fun p1 b4_0 b4_1 b4_2 b4_3 b10_0 b10_1 b10_2 b10_3 b17_0 b17_1 b17_2=>zac zc yg ye L p1 b4_0 b4_1 b4_2 b4_3 b10_0 b10_1 b10_2 b10_3 b17_0 b17_1 b17_2 k) L 0 a4 [] rfl (by omega) (by omega) h4 with ⟨os,a5,r1,r2⟩ | ⟨e,O,at_,r1,r2,r3⟩
     ·rw [XY] at r1
      rw [XT] at r2
      have h5:=zEX m a4 h4 r1
      refine Eq.trans r2 ?_
      simp only [r1]
      unfold zac ze6
      rw [zKb hL20 hb hj h5]
      cases e6:gN j 4 a5 with
      | error e=>
       have he:=ziF e6
       rw [yQ,zd]
       exact t4 he _ _ _ _ _ _ _ _ _ _ _ (by rw [QB]; omega)
      | ok p=>
       obtain ⟨lk,a6⟩:=p
       have h6:=zmu e6
       rw [xH,zd,zsr]
       simp only []
       rcases zTj (β:=β) (a:Int) (xs.map zaC).length 0 [] [] 0 (ver:Int) (xs.map zaC).length (os.map zcu) (lk:Int) hL hb hj (by rw [QB]; omega) (fun p1 p71l b4_0 b4_1 b4_2 b4_3 b10_0 b10_1l b10_2 b10_3 b17_0 b17_1 b17_2 b71=>y5 L p1 p71l b4_0 b4_1 b4_2 b4_3 b10_0 b10_1l b10_2 b10_3 b17_0 b17_1 b17_2 b71 k) L a6 xs [] (by simpa using hx2) hx3 (by simp) (by omega) h6 with ⟨ys,a7,s1,s2⟩ | ⟨e,at_,b',s1,s2,s3⟩
       ·obtain ⟨h7,hy1,hy2⟩:=zyp xs a6 h6 hx2 s1
        refine Eq.trans s2 ?_
        simp only [s1]
        rw [XT,zUy _ _ _ _ _ _ _ _ _ _ (by omega) (by omega) _ ys os (by rw [QB,hy1]) hy2]
        by_cases hh:a7-a>20000
        ·rw [if_pos hh,if_pos hh]; rfl
        ·rw [if_neg hh,if_neg hh]; rfl
       ·refine Eq.trans s3 ?_
        simp only [s1]
        exact zLG _ _ _ _ _ _ _ _ _ _ _ _ s2 _ k
     ·rw [XY] at r1
      refine Eq.trans r3 ?_
      simp only [r1]
      exact t2 r2 _ _ _ _ _ _ _ _ _ (by rw [QB]; omega)
   ·rw [XY] at q1
    refine Eq.trans q4 ?_
    simp only [q1]
    exact t0 q2 _ _ _ _ _ _ _ _ (by omega)
end
end
section
set_option linter.unusedSectionVars false
variable {β:Type}
section
variable {L:Nat} (p1:Int) (pl:Nat) (p72 p73 b4_0:Int) (b4_1 b4_2:Ls) (b4_3 b10_0:Int) (nl:Nat) (b10_2:Ls) (b10_3:Int)
theorem zBU(i n:Int)(F:List V)(J:Ls)(at_ f:Int)(hf:¬ n>0∨f≠0)(kh:zbF β)(kx:zec β) :
  zal za L p1 i n pl p72 p73 b4_0 b4_1 b4_2 b4_3 b10_0 nl b10_2 b10_3 J at_ f F kh kx=kx p1 pl p72 p73 b4_0 b4_1 b4_2 b4_3 b10_0 nl b10_2 b10_3 J at_ f (xU (bl 356811923167403450762135544012445415519542271 148) F):=by
 unfold zal
 by_cases h:n>0
 ·rw [xz h,zao (hf.resolve_left (fun hh=>hh h))]
 ·rw [yq h]
variable {ds:List Inp} {x:Inp} {rs:List Inp} (hW:∀ y∈ds++x::rs,y.pv.length=33) (hnl:nl=ds.length+1+rs.length)
include hW hnl
theorem zR9(m:Nat)(hm:m≤64)(w J:Ls)(hw:w.length≤64)(at_:Int)(kh:zbF β)(kx:zec β) :
  zal za L p1 ((ds.length:Nat):Int) ((m+1:Nat):Int) pl p72 p73 b4_0 b4_1 b4_2 b4_3 b10_0 nl b10_2 b10_3 J at_ 0 (fl ds x w rs) kh kx =
  za β L (520:Int) J at_ 0
   (fun v83 v84 v85 v86=>kh p1 ((ds.length:Nat):Int) (m:Int) pl p72 p73 b4_0 b4_1 b4_2 b4_3 b10_0 nl b10_2 b10_3 v84 v85 v86 (fl ds x (w++[[(V.sl 1 v83)]]) rs))
   (fun v83 v84 v85 v86=>kh p1 ((ds.length:Nat):Int) (m:Int) pl p72 p73 b4_0 b4_1 b4_2 b4_3 b10_0 nl b10_2 b10_3 v84 v85 v86 (fl ds x (w++[[(V.sl 1 v83)]]) rs)):=by
 have hs:(100000000:Nat)≤zg:=by decide
 have hl:=zLo hW w
 have hch:∀ v:V,yf 1 1 [v]=[[v]]:=fun v=>rfl
 unfold zal
 rw [xz (by omega),zbq rfl,ya (by omega),zRb,zQI hW]
 congr 1
 ·funext v83 v84 v85 v86
  rw [hch,ya (by simp only [XQ,XR]; omega),zd,ya (by omega),ya (by rw [QI]; omega),zd,xr (by omega) (by omega),zFe hW,zjg,show ((m+1:Nat):Int)-1=(m:Int) by omega]
 ·funext v83 v84 v85 v86
  rw [hch,ya (by simp only [XQ,XR]; omega),zd,ya (by omega),ya (by rw [QI]; omega),zd,xr (by omega) (by omega),zFe hW,zjg,show ((m+1:Nat):Int)-1=(m:Int) by omega]
variable (hL:20≤L) {j:List Int} (hb:Byt j) (hj:j.length≤100000000)
include hL hb hj
theorem zQU(kx:zec β):∀ (fu m a:Nat) (ws:List (List Int)),ws.length+m≤32→m+1<fu→a≤j.length →
  (∃ ys a',zhl j m a=.ok (ys,a')∧yz za L kx fu p1 ((ds.length:Nat):Int) (m:Int) pl p72 p73 b4_0 b4_1 b4_2 b4_3 b10_0 nl b10_2 b10_3 (ze .u8 j) (a:Int) 0 (fl ds x (zbu ws) rs)=kx p1 pl p72 p73 b4_0 b4_1 b4_2 b4_3 b10_0 nl b10_2 b10_3 (ze .u8 j) (a':Int) 0 (fl ds x (zbu (ws++ys)) rs)) ∨
  (∃ e at_ b',zhl j m a=.error e∧e≠0∧yz za L kx fu p1 ((ds.length:Nat):Int) (m:Int) pl p72 p73 b4_0 b4_1 b4_2 b4_3 b10_0 nl b10_2 b10_3 (ze .u8 j) (a:Int) 0 (fl ds x (zbu ws) rs)=kx p1 pl p72 p73 b4_0 b4_1 b4_2 b4_3 b10_0 nl b10_2 b10_3 (ze .u8 j) at_ e b')
 | 0,m,a,ws,h1,h2,ha=>by omega
 | fu+1,0,a,ws,h1,h2,ha=>by
  refine .inl ⟨[],a,rfl,?_⟩
  rw [yz,zBU (hf:=.inl (by decide)),zjg,XV]
 | fu+1,m+1,a,ws,h1,h2,ha=>by
  have hwl:(zbu ws).length=ws.length:=by simp [zbu]
  rw [yz,zR9 (hW:=hW) (hnl:=hnl) (hm:=by omega) (hw:=by omega),zTp hL hb hj ha]
  cases e1:zdE j 520 a with
  | error e=>
   have he:=zkh e1
   obtain ⟨f2,rfl⟩:∃ f2,fu=f2+1:=⟨fu-1,by omega⟩
   refine .inr ⟨e,0,xU (bl 356811923167403450762135544012445415519542271 148) (fl ds x (zbu ws++[[(V.sl 1 [])]]) rs),by simp only [zhl,e1],he,?_⟩
   rw [yQ,yz,zBU (hf:=.inr he)]
  | ok p=>
   obtain ⟨s,a1⟩:=p
   have k1:=(zqc e1).1
   have hrow:zbu ws++[[(V.sl 1 (ze .u8 s))]]=zbu (ws++[s]):=by simp [zbu]
   rw [xH,hrow]
   rcases zQU kx fu m a1 (ws++[s]) (by simp; omega) (by omega) k1 with ⟨ys,a',q1,q2⟩ | ⟨e,at_,b',q1,q2,q3⟩
   ·refine .inl ⟨s::ys,a',by simp only [zhl,e1,q1],?_⟩
    rw [q2,Wu]
    rfl
   ·exact .inr ⟨e,at_,b',by simp only [zhl,e1,q1],q2,q3⟩
end
section
variable {L:Nat} (p1:Int) (pl:Nat) (b4_0:Int) (b4_1 b4_2:Ls) (b4_3 b10_0:Int) (nl:Nat) (b10_2:Ls) (b10_3:Int)
theorem zHJ{n:Nat}(hL:20≤L)(hn:n≤64)(J:Ls)(at_:Int){e:Int}(he:e≠0)(kx:zhY β):∀ (m i:Nat) (F:List V),i≤n→n-i<m →
  ∃ b':List V,yF zb za L kx m p1 pl (n:Int) (i:Int) b4_0 b4_1 b4_2 b4_3 b10_0 nl b10_2 b10_3 J at_ e F=kx p1 pl b4_0 b4_1 b4_2 b4_3 b10_0 nl b10_2 b10_3 J at_ e b'
 | 0,i,F,h2,h3=>by omega
 | m+1,i,F,h2,h3=>by
  rw [yF]
  unfold zbw zcU
  by_cases hi:i<n
  ·obtain ⟨l,hl⟩:∃ l,L=l+1:=⟨L-1,by omega⟩
   rw [xz (by omega),zKx L J he]
   have key:∀ (kx6:zec β) (F:List V),∃ b',yz za L kx6 L p1 (i:Int) 0 pl (n:Int) (i:Int) b4_0 b4_1 b4_2 b4_3 b10_0 nl b10_2 b10_3 J at_ e F=kx6 p1 pl (n:Int) (i:Int) b4_0 b4_1 b4_2 b4_3 b10_0 nl b10_2 b10_3 J at_ e b':=by
    intro kx6 F
    generalize hg:L=L'
    rw [hl] at hg
    subst hg
    rw [yz,zBU (hf:=.inl (by decide))]
    exact ⟨_,rfl⟩
   obtain ⟨b1,q1⟩:=key (fun p1 p71l p72 p73 b4_0 b4_1 b4_2 b4_3 b10_0 b10_1l b10_2 b10_3 b17_0 b17_1 b17_2 b71=>yB L p1 p71l p72 p73 b4_0 b4_1 b4_2 b4_3 b10_0 b10_1l b10_2 b10_3 b17_0 b17_1 b17_2 b71 (fun p1 p71l p72 p73 b4_0 b4_1 b4_2 b4_3 b10_0 b10_1l b10_2 b10_3 b17_0 b17_1 b17_2 b71=>yF zb za L kx m p1 p71l p72 p73 b4_0 b4_1 b4_2 b4_3 b10_0 b10_1l b10_2 b10_3 b17_0 b17_1 b17_2 b71)) (xU (bl 356811923167403450762135544012445415519550463 148) F)
   have r:∀ F:List V,∃ b',yB L p1 pl (n:Int) (i:Int) b4_0 b4_1 b4_2 b4_3 b10_0 nl b10_2 b10_3 J at_ e F (fun p1 p71l p72 p73 b4_0 b4_1 b4_2 b4_3 b10_0 b10_1l b10_2 b10_3 b17_0 b17_1 b17_2 b71=>yF zb za L kx m p1 p71l p72 p73 b4_0 b4_1 b4_2 b4_3 b10_0 b10_1l b10_2 b10_3 b17_0 b17_1 b17_2 b71)=kx p1 pl b4_0 b4_1 b4_2 b4_3 b10_0 nl b10_2 b10_3 J at_ e b':=by
    intro F
    unfold yB
    rw [yI (by omega),zd]
    exact zHJ hL hn J at_ he kx m (i+1) _ (by omega) (by omega)
   obtain ⟨b2,q2⟩:=r b1
   exact ⟨b2,q1.trans q2⟩
  ·rw [yq (by omega)]
   exact ⟨_,rfl⟩
variable (hL:1000≤L) {j:List Int} (hb:Byt j) (hj:j.length≤100000000)
include hL hb hj
theorem zQ5(hnl:nl≤64)(kx:zhY β):∀ (m a:Nat) (rs ds:List Inp),(∀ y∈ds++rs,y.pv.length=33)→(∀ y∈rs,y.wit=[])→nl=ds.length+rs.length→rs.length<m→a≤j.length →
  (∃ ys a',zdx j rs a=.ok (ys,a')∧yF zb za L kx m p1 pl (nl:Int) ((ds.length:Nat):Int) b4_0 b4_1 b4_2 b4_3 b10_0 nl b10_2 b10_3 (ze .u8 j) (a:Int) 0 ((ds++rs).map zaC).flatten=kx p1 pl b4_0 b4_1 b4_2 b4_3 b10_0 nl b10_2 b10_3 (ze .u8 j) (a':Int) 0 ((ds++ys).map zaC).flatten) ∨
  (∃ e at_ b',zdx j rs a=.error e∧e≠0∧yF zb za L kx m p1 pl (nl:Int) ((ds.length:Nat):Int) b4_0 b4_1 b4_2 b4_3 b10_0 nl b10_2 b10_3 (ze .u8 j) (a:Int) 0 ((ds++rs).map zaC).flatten=kx p1 pl b4_0 b4_1 b4_2 b4_3 b10_0 nl b10_2 b10_3 (ze .u8 j) at_ e b')
 | 0,a,rs,ds,hW,hw,h1,h2,ha=>by omega
 | m+1,a,[],ds,hW,hw,h1,h2,ha=>by
  refine .inl ⟨[],a,rfl,?_⟩
  rw [yF]
  unfold zbw zcU
  rw [yq (by simp only [XR] at h1; omega),zsr]
 | m+1,a,x::rs,ds,hW,hw,h1,h2,ha=>by
  simp only [XQ] at h1 h2
  have hx:=hw x (by simp)
  have hL20:20≤L:=by omega
  rw [yF]
  unfold zbw zcU
  rw [xz (by omega),zXr hL20 hb hj ha,zsr,zQd ds x hx rs]
  have bad:∀ {e:Int} (he:e≠0) (at_:Int) (F:List V),∃ b':List V,yB L p1 pl (nl:Int) ((ds.length:Nat):Int) b4_0 b4_1 b4_2 b4_3 b10_0 nl b10_2 b10_3 (ze .u8 j) at_ e F (fun p1 p71l p72 p73 b4_0 b4_1 b4_2 b4_3 b10_0 b10_1l b10_2 b10_3 b17_0 b17_1 b17_2 b71=>yF zb za L kx m p1 p71l p72 p73 b4_0 b4_1 b4_2 b4_3 b10_0 b10_1l b10_2 b10_3 b17_0 b17_1 b17_2 b71)=kx p1 pl b4_0 b4_1 b4_2 b4_3 b10_0 nl b10_2 b10_3 (ze .u8 j) at_ e b':=by
   intro e he at_ F
   unfold yB
   rw [yI (by omega),zd]
   exact zHJ p1 pl b4_0 b4_1 b4_2 b4_3 b10_0 nl b10_2 b10_3 hL20 hnl _ at_ he kx m _ _ (by omega) (by omega)
  cases e1:zbA j 32 a with
  | error e=>
   have he:=zcY e1
   rw [yQ]
   have q:∀ (kx6:zec β) (F:List V),∃ b',yz za L kx6 L p1 ((ds.length:Nat):Int) 0 pl (nl:Int) ((ds.length:Nat):Int) b4_0 b4_1 b4_2 b4_3 b10_0 nl b10_2 b10_3 (ze .u8 j) 0 e F=kx6 p1 pl (nl:Int) ((ds.length:Nat):Int) b4_0 b4_1 b4_2 b4_3 b10_0 nl b10_2 b10_3 (ze .u8 j) 0 e b':=by
    intro kx6 F
    obtain ⟨l,hl⟩:∃ l,L=l+1:=⟨L-1,by omega⟩
    generalize hg:L=L'
    rw [hl] at hg
    subst hg
    rw [yz,zBU (hf:=.inl (by decide))]
    exact ⟨_,rfl⟩
   obtain ⟨b',q⟩:=q (fun p1 p71l p72 p73 b4_0 b4_1 b4_2 b4_3 b10_0 b10_1l b10_2 b10_3 b17_0 b17_1 b17_2 b71=>yB L p1 p71l p72 p73 b4_0 b4_1 b4_2 b4_3 b10_0 b10_1l b10_2 b10_3 b17_0 b17_1 b17_2 b71 (fun p1 p71l p72 p73 b4_0 b4_1 b4_2 b4_3 b10_0 b10_1l b10_2 b10_3 b17_0 b17_1 b17_2 b71=>yF zb za L kx m p1 p71l p72 p73 b4_0 b4_1 b4_2 b4_3 b10_0 b10_1l b10_2 b10_3 b17_0 b17_1 b17_2 b71)) (fl ds x (zbu []) rs)
   obtain ⟨b2,q2⟩:=bad he 0 b'
   refine .inr ⟨e,0,b2,by simp only [zdx,e1],he,?_⟩
   exact q.trans q2
  | ok p=>
   obtain ⟨n,a1⟩:=p
   obtain ⟨k1,k2⟩:=zbn e1
   rw [xH]
   rcases zQU p1 pl (nl:Int) ((ds.length:Nat):Int) b4_0 b4_1 b4_2 b4_3 b10_0 nl b10_2 b10_3 hW (by omega) hL20 hb hj (fun p1 p71l p72 p73 b4_0 b4_1 b4_2 b4_3 b10_0 b10_1l b10_2 b10_3 b17_0 b17_1 b17_2 b71=>yB L p1 p71l p72 p73 b4_0 b4_1 b4_2 b4_3 b10_0 b10_1l b10_2 b10_3 b17_0 b17_1 b17_2 b71 (fun p1 p71l p72 p73 b4_0 b4_1 b4_2 b4_3 b10_0 b10_1l b10_2 b10_3 b17_0 b17_1 b17_2 b71=>yF zb za L kx m p1 p71l p72 p73 b4_0 b4_1 b4_2 b4_3 b10_0 b10_1l b10_2 b10_3 b17_0 b17_1 b17_2 b71)) L n a1 [] (by simp; omega) (by omega) k1 with ⟨ws,a2,q1,q2⟩ | ⟨e,at_,b',q1,q2,q3⟩
   ·have k3:a2≤j.length:=zBQ _ _ k1 q1
    rw [XT] at q2
    have hW':∀ y∈(ds++[{ x with wit:=ws }])++rs,y.pv.length=33:=by
     intro y hy
     rw [Wu] at hy
     rcases QD.1 hy with h | h
     ·exact hW y (by simp [h])
     ·rcases Q9.1 h with rfl | h
      ·exact hW x (by simp)
      ·exact hW y (by simp at h; simp [h])
    rcases zQ5 hnl kx m a2 rs (ds++[{ x with wit:=ws }]) hW' (fun y hy=>hw y (by simp [hy])) (by simp; omega) (by omega) k3 with ⟨ys,a',r1,r2⟩ | ⟨e,at_,b',r1,r2,r3⟩
    ·refine .inl ⟨{ x with wit:=ws }::ys,a',by simp only [zdx,e1,q1,r1],?_⟩
     refine q2.trans ?_
     unfold yB
     rw [yI (by omega),zd,zjg,zG4]
     rw [Wu,Wu] at r2
     refine Eq.trans ?_ r2
     simp only [Wm,XQ,XR,XX,WB]
    ·refine .inr ⟨e,at_,b',by simp only [zdx,e1,q1,r1],r2,?_⟩
     refine q2.trans ?_
     unfold yB
     rw [yI (by omega),zd,zjg,zG4]
     rw [Wu] at r3
     refine Eq.trans ?_ r3
     simp only [Wm,XQ,XR,XX,WB]
   ·obtain ⟨b2,r2⟩:=bad q2 at_ b'
    exact .inr ⟨e,at_,b2,by simp only [zdx,e1,q1],q2,q3.trans r2⟩
end
section
variable {L:Nat} (p1:Int) (pl:Nat) (b4_0:Int) (b4_1 b4_2:Ls) (b4_3 b10_0:Int) (nl:Nat) (b10_2:Ls) (b10_3:Int)
theorem zLC(J:Ls)(at_:Int){e:Int}(he:e≠0)(F:List V)(k:List V→Int→Int→Option β) :
  yY L p1 pl b4_0 b4_1 b4_2 b4_3 b10_0 nl b10_2 b10_3 J at_ e F k=k zkR 0 e:=by
 unfold yY
 rw [zao he,xm,if_neg he,zd]
 exact zxP _
theorem zT3(a0 a:Nat)(h0:a0≤100000000)(h1:a≤100000000)(J:Ls)(xs:List Inp)(os:List Outp)(hn:nl=xs.length)(hW:∀ y∈xs,y.pv.length=33)(k:List V→Int→Int→Option β) :
  yY L (a0:Int) pl b4_0 b4_1 b4_2 b4_3 b10_0 nl (os.map zcu) b10_3 J (a:Int) 0 (xs.map zaC).flatten k=if a-a0>20000 then k zkR 0 4 else k (zaK ⟨b10_0,xs,os,b10_3⟩) (a:Int) 0:=by
 unfold yY
 rw [zbq rfl,xr (by omega) (by omega),zd,zba]
 by_cases h:a-a0>20000
 ·rw [if_pos (by omega),if_pos h,zd]
  exact zxP _
 ·rw [if_neg (by omega),if_neg h,xm,if_pos rfl]
  have hp:=zym hW
  cases hF:(xs.map zaC).flatten with
  | nil=>
   have hx:=zKM hF hW
   subst hx
   have:nl=0:=hn
   show chk (nl=0) _=_
   rw [ya this,zd,ya (by simp)]
   rfl
  | cons c cs=>
   rw [hF] at hp
   show zb4 (c::cs) _=_
   unfold zb4
   rw [hp]
   show lt _ _=_
   rw [zd,ya (by simp),hn,zDp,zL5 ⟨b10_0,xs,os,b10_3⟩]
end
section
variable {L:Nat} (hL:1000≤L) {j:List Int} (hb:Byt j) (hj:j.length≤100000000)
include hL hb hj
theorem zRO{a:Nat}(ha:a≤j.length)(k:List V→Int→Int→Option β):xA β L (ze .u8 j) (a:Int) k=zdi (gTx j a) (fun t a'=>k (zaK t) (a':Int) 0) (fun e=>k zkR 0 e):=by
 have hL20:20≤L:=by omega
 have t4:∀ {e:Int} (he:e≠0) (pl:Nat) (b4_0:Int) (b4_1 b4_2:Ls) (b4_3 b10_0:Int) (nl:Nat) (b10_2:Ls) (b10_3 at_:Int) (F:List V),nl≤64→yF zb za L (fun p1 p71l b4_0 b4_1 b4_2 b4_3 b10_0 b10_1l b10_2 b10_3 b17_0 b17_1 b17_2 b71=>yY L p1 p71l b4_0 b4_1 b4_2 b4_3 b10_0 b10_1l b10_2 b10_3 b17_0 b17_1 b17_2 b71 k) L (a:Int) pl (nl:Int) ((0:Nat):Int) b4_0 b4_1 b4_2 b4_3 b10_0 nl b10_2 b10_3 (ze .u8 j) at_ e F=k zkR 0 e:=by
  intro e he pl b4_0 b4_1 b4_2 b4_3 b10_0 nl b10_2 b10_3 at_ F hn
  obtain ⟨b',q⟩:=zHJ (β:=β) (a:Int) pl b4_0 b4_1 b4_2 b4_3 b10_0 nl b10_2 b10_3 hL20 hn (ze .u8 j) at_ he (fun p1 p71l b4_0 b4_1 b4_2 b4_3 b10_0 b10_1l b10_2 b10_3 b17_0 b17_1 b17_2 b71=>yY L p1 p71l b4_0 b4_1 b4_2 b4_3 b10_0 b10_1l b10_2 b10_3 b17_0 b17_1 b17_2 b71 k) L 0 F (by omega) (by omega)
  exact q.trans (zLC _ _ _ _ _ _ _ _ _ _ _ _ he _ k)
 have t2:∀ {e:Int} (he:e≠0) (b4_0:Int) (b4_1 b4_2:Ls) (b4_3 b10_0:Int) (R b10_2:Ls) (b10_3 at_:Int),R.length≤64→zR yb zb za L (a:Int) b4_0 b4_1 b4_2 b4_3 b10_0 R b10_2 b10_3 (ze .u8 j) at_ e k=k zkR 0 e:=by
  intro e he b4_0 b4_1 b4_2 b4_3 b10_0 R b10_2 b10_3 at_ hR
  unfold zR zew
  rw [zGB L _ he,zd]
  exact t4 he _ _ _ _ _ _ _ _ _ _ _ hR
 have t0:∀ {e:Int} (he:e≠0) (b4_0:Int) (b4_1 b4_2:Ls) (b4_3 b10_0:Int) (R:Ls) (b10_3 at_:Int),R.length≤64→zaJ yb zb xb za L (a:Int) b4_0 b4_1 b4_2 b4_3 b10_0 R [] b10_3 (ze .u8 j) at_ e k=k zkR 0 e:=by
  intro e he b4_0 b4_1 b4_2 b4_3 b10_0 R b10_3 at_ hR
  unfold zaJ ze1
  rw [zKx L _ he]
  obtain ⟨l,hl⟩:∃ l,L=l+1:=⟨L-1,by omega⟩
  have q:yU xb L (fun p1 b4_0 b4_1 b4_2 b4_3 b10_0 b10_1 b10_2 b10_3 b17_0 b17_1 b17_2=>zR yb zb za L p1 b4_0 b4_1 b4_2 b4_3 b10_0 b10_1 b10_2 b10_3 b17_0 b17_1 b17_2 k) L (a:Int) 0 b4_0 b4_1 b4_2 b4_3 b10_0 R [] b10_3 (ze .u8 j) at_ e=zR yb zb za L (a:Int) b4_0 b4_1 b4_2 b4_3 b10_0 R [] b10_3 (ze .u8 j) at_ e k:=by
   generalize hg:L=L'
   rw [hl] at hg
   subst hg
   rw [yU,zBH (hf:=.inr he)]
  exact q.trans (t2 he b4_0 b4_1 b4_2 b4_3 b10_0 R [] b10_3 at_ hR)
 obtain ⟨l,hl⟩:∃ l,L=l+1:=⟨L-1,by omega⟩
 have tI:∀ {e:Int} (he:e≠0) (v at_:Int),y6 yb xe L (fun p1 b4_0 b4_1 b4_2 b4_3 b10_0 b10_1 b10_2 b10_3 b17_0 b17_1 b17_2=>zaJ yb zb xb za L p1 b4_0 b4_1 b4_2 b4_3 b10_0 b10_1 b10_2 b10_3 b17_0 b17_1 b17_2 k) L (a:Int) 0 0 [] [] 0 v [] [] 0 (ze .u8 j) at_ e=k zkR 0 e:=by
  intro e he v at_
  refine Eq.trans ?_ (t0 he 0 [] [] 0 v [] 0 at_ (by decide))
  generalize hg:L=L'
  rw [hl] at hg
  subst hg
  rw [y6,zIy (hf:=.inr he)]
 unfold xA zoc ztc
 rw [yq (by omega),xG,yq (by omega),zKg hL20 hb hj ha]
 unfold gTx
 cases e1:gN j 4 a with
 | error e=>
  have he:=ziF e1
  rw [yQ,zKx L _ he]
  exact tI he _ _
 | ok p=>
  obtain ⟨ver,a1⟩:=p
  have h1:=zmu e1
  rw [xH,zV1 hL20 hb hj h1]
  cases e2:zbA j 64 a1 with
  | error e=>
   have he:=zcY e2
   rw [yQ]
   simp only [e2]
   exact tI he _ _
  | ok p=>
   obtain ⟨n,a2⟩:=p
   obtain ⟨h2,hn⟩:=zbn e2
   rw [xH]
   simp only [e2]
   rcases zQo (a:Int) 0 [] [] 0 (ver:Int) [] 0 hL20 hb hj (fun p1 b4_0 b4_1 b4_2 b4_3 b10_0 b10_1 b10_2 b10_3 b17_0 b17_1 b17_2=>zaJ yb zb xb za L p1 b4_0 b4_1 b4_2 b4_3 b10_0 b10_1 b10_2 b10_3 b17_0 b17_1 b17_2 k) L n a2 [] (by simpa using hn) (by omega) h2 with ⟨xs,a3,q1,q2⟩ | ⟨e,R,at_,q1,q2,q3,q4⟩
   ·rw [XT] at q2
    obtain ⟨h3,hx1,hx2,hx3⟩:=zv4 n a2 h2 q1
    refine Eq.trans q2 ?_
    simp only [q1]
    unfold zaJ ze1
    rw [zV1 hL20 hb hj h3]
    cases e4:zbA j 64 a3 with
    | error e=>
     have he:=zcY e4
     rw [yQ]
     have q:yU xb L (fun p1 b4_0 b4_1 b4_2 b4_3 b10_0 b10_1 b10_2 b10_3 b17_0 b17_1 b17_2=>zR yb zb za L p1 b4_0 b4_1 b4_2 b4_3 b10_0 b10_1 b10_2 b10_3 b17_0 b17_1 b17_2 k) L (a:Int) 0 0 [] [] 0 (ver:Int) (xs.map zaC) [] 0 (ze .u8 j) 0 e=zR yb zb za L (a:Int) 0 [] [] 0 (ver:Int) (xs.map zaC) [] 0 (ze .u8 j) 0 e k:=by
      generalize hg:L=L'
      rw [hl] at hg
      subst hg
      rw [yU,zBH (hf:=.inr he)]
     exact q.trans (t2 he _ _ _ _ _ _ _ _ _ (by rw [QB]; omega))
    | ok p=>
     obtain ⟨m,a4⟩:=p
     obtain ⟨h4,hm⟩:=zbn e4
     rw [xH]
     simp only []
     rcases zPK (a:Int) 0 [] [] 0 (ver:Int) (xs.map zaC) 0 hL20 hb hj (fun p1 b4_0 b4_1 b4_2 b4_3 b10_0 b10_1 b10_2 b10_3 b17_0 b17_1 b17_2=>zR yb zb za L p1 b4_0 b4_1 b4_2 b4_3 b10_0 b10_1 b10_2 b10_3 b17_0 b17_1 b17_2 k) L m a4 [] (by simpa using hm) (by omega) h4 with ⟨os,a5,r1,r2⟩ | ⟨e,O,at_,r1,r2,r3⟩
     ·rw [XT] at r2
      have h5:=zEX m a4 h4 r1
      refine Eq.trans r2 ?_
      simp only [r1]
      unfold zR zew
      rw [zKg hL20 hb hj h5]
      cases e6:gN j 4 a5 with
      | error e=>
       have he:=ziF e6
       rw [yQ,zd]
       exact t4 he _ _ _ _ _ _ _ _ _ _ _ (by rw [QB]; omega)
      | ok p=>
       obtain ⟨lk,a6⟩:=p
       have h6:=zmu e6
       rw [xH,zd,zsr]
       simp only []
       rcases zQ5 (β:=β) (a:Int) (xs.map zaC).length 0 [] [] 0 (ver:Int) (xs.map zaC).length (os.map zcu) (lk:Int) hL hb hj (by rw [QB]; omega) (fun p1 p71l b4_0 b4_1 b4_2 b4_3 b10_0 b10_1l b10_2 b10_3 b17_0 b17_1 b17_2 b71=>yY L p1 p71l b4_0 b4_1 b4_2 b4_3 b10_0 b10_1l b10_2 b10_3 b17_0 b17_1 b17_2 b71 k) L a6 xs [] (by simpa using hx2) hx3 (by simp) (by omega) h6 with ⟨ys,a7,s1,s2⟩ | ⟨e,at_,b',s1,s2,s3⟩
       ·obtain ⟨h7,hy1,hy2⟩:=zyp xs a6 h6 hx2 s1
        refine Eq.trans s2 ?_
        simp only [s1]
        rw [XT,zT3 _ _ _ _ _ _ _ _ _ _ (by omega) (by omega) _ ys os (by rw [QB,hy1]) hy2]
        by_cases hh:a7-a>20000
        ·rw [if_pos hh,if_pos hh]; rfl
        ·rw [if_neg hh,if_neg hh]; rfl
       ·refine Eq.trans s3 ?_
        simp only [s1]
        exact zLC _ _ _ _ _ _ _ _ _ _ _ _ s2 _ k
     ·refine Eq.trans r3 ?_
      simp only [r1]
      exact t2 r2 _ _ _ _ _ _ _ _ _ (by rw [QB]; omega)
   ·refine Eq.trans q4 ?_
    simp only [q1]
    exact t0 q2 _ _ _ _ _ _ _ _ (by omega)
end
end
section
set_option linter.unusedSectionVars false
variable {β:Type}
structure SmallT (t:TxT):Prop where
 i:t.ins.length≤64
 o:t.outs.length≤64
 w:∀ x∈t.ins,x.wit.length≤32
def zT:TxT:=⟨0,[],[],0⟩
theorem zQA:zaK zT=zkR:=rfl
theorem zLi{j:List Int}:∀ (n a:Nat) {a':Nat} {ys:List (List Int)},zhl j n a=.ok (ys,a')→ys.length=n
 | 0,a,a',ys,h=>by simp only [zhl] at h; cases h; rfl
 | n+1,a,a',ys,h=>by
  rw [zhl] at h
  split at h
  ·cases h
  ·split at h
   ·cases h
   ·rename_i hz2; cases h; simp [zLi n _ hz2]
theorem zI0{j:List Int}:∀ (n a:Nat) {a':Nat} {ys:List Outp},zdH j n a=.ok (ys,a')→ys.length=n
 | 0,a,a',ys,h=>by simp only [zdH] at h; cases h; rfl
 | n+1,a,a',ys,h=>by
  rw [zdH] at h
  split at h
  ·cases h
  ·split at h
   ·cases h
   ·rename_i hz2; cases h; simp [zI0 n _ hz2]
theorem zDC{j:List Int}:∀ (xs:List Inp) (a:Nat) {a':Nat} {ys:List Inp},zdx j xs a=.ok (ys,a')→ys.length=xs.length∧∀ y∈ys,y.wit.length≤32
 | [],a,a',ys,h=>by simp only [zdx] at h; cases h; exact ⟨rfl,by simp⟩
 | x::xs,a,a',ys,h=>by
  rw [zdx] at h
  split at h
  ·cases h
  ·rename_i n a1 hz
   split at h
   ·cases h
   ·rename_i w a2 hz2
    split at h
    ·cases h
    ·rename_i zs a3 hz3
     cases h
     obtain ⟨r2,r3⟩:=zDC xs a2 hz3
     refine ⟨by simp [r2],?_⟩
     intro y hy
     rcases Q9.1 hy with rfl | hy
     ·have:=(zbn hz).2
      have:=zLi _ _ hz2
      simp only; omega
     ·exact r3 y hy
theorem zPX{j:List Int}{a a':Nat}(ha:a≤j.length){t:TxT}(h:gTx j a=.ok (t,a')):SmallT t:=by
 unfold gTx at h
 split at h
 ·cases h
 ·rename_i ver a1 e1
  split at h
  ·cases h
  ·rename_i n a2 e2
   split at h
   ·cases h
   ·rename_i xs a3 e3
    split at h
    ·cases h
    ·rename_i m a4 e4
     split at h
     ·cases h
     ·rename_i os a5 e5
      split at h
      ·cases h
      ·rename_i lk a6 e6
       split at h
       ·cases h
       ·rename_i ys a7 e7
        split at h
        ·cases h
        ·cases h
         obtain ⟨w1,w2⟩:=zDC _ _ e7
         have hx:=(zv4 n a2 (zbn e2).1 e3).2.1
         have:=(zbn e2).2
         have:=(zbn e4).2
         have ho:=zI0 m a4 e5
         exact ⟨by simp only; omega,by simp only; omega,w2⟩
section
variable {L:Nat} (hL:1000≤L) {j:List Int} (hb:Byt j) (hj:j.length≤100000000)
include hL hb hj
omit hL hb hj in
theorem zXx(J:Ls)(q:Int):∃ v:Int,(∀ k:Int→Option β,zJ β L J q k=k v)∧(∀ k:Int→Option β,yJ β L J q k=k v):=by
 unfold zJ zpR yJ zp2
 by_cases h1:q<0
 ·exact ⟨5,fun k=>xz h1 _ _,fun k=>xz h1 _ _⟩
 ·by_cases h2:q>((XI J:Nat):Int)
  ·exact ⟨5,fun k=>by rw [yq h1,xz h2],fun k=>by rw [yq h1,xz h2]⟩
  ·by_cases h3:q<((XI J:Nat):Int)
   ·exact ⟨2,fun k=>by rw [yq h1,yq h2,xz h3],fun k=>by rw [yq h1,yq h2,xz h3]⟩
   ·exact ⟨0,fun k=>by rw [yq h1,yq h2,yq h3],fun k=>by rw [yq h1,yq h2,yq h3]⟩
omit hL hb hj in
theorem zyj(t:TxT):xd [(Qc (0:Int)),(V.gs 35 ([]:Ls)),(V.gs 2 ([]:Ls)),(Qc (0:Int))] 0 (zaK t)=zaK t:=zai (by rw [ztL]; rfl)
omit hL hb hj in
theorem zXQ(t:TxT):XK 4 (zaK t)=zaK t:=Xy (by rw [ztL]; exact Nat.le_refl _)
end
theorem zLy:∀ (l:List Int),zfZ (ze .u8 l)=some (l.map fun n=>UInt8.ofNat n.toNat)
 | []=>rfl
 | n::l=>by
  have:=zLy l
  simp only [ze] at this
  simp [ze,zfZ,this]
theorem zI9{L:Nat}(l:List Int)(k:Bool→Option β):yh β L (ze .u8 l) (ze .u8 l) k=k true:=by
 simp only [yh,zsH,zIx,zLy,BEq.rfl]
theorem zwR(x:TxT)(k:Ls→Option β):cLd 35 (zaK x) 1 k=k (x.ins.map zek):=zsG rfl k
theorem zwA(x:TxT)(k:Ls→Option β):cLd 2 (zaK x) 2 k=k (x.outs.map zcu):=zsG rfl k
theorem zs5(x:Inp)(k:Ls→Option β):cLd 1 (zek x) 34 k=k (zbu x.wit):=zsG rfl k
theorem zNb(x:Outp)(k:Ls→Option β):cLd 1 (zcu x) 1 k=k (ze .u8 x.scr):=zsG rfl k
theorem zP1(x:TxT):List.map V.dem (XK 4 (zaK x))=zaK x:=Eq.trans rfl rfl
theorem zPO(x:Outp):List.map V.dem (XK 2 (zcu x))=zcu x:=Eq.trans rfl rfl
theorem zQr(x:Inp):xd (We 32 (Qa (0:Int))++[(Qc (0:Int)),(Qc (0:Int)),(V.gs 1 ([]:Ls))]) 0 (zek x)=zek x:=zai (by rw [zx5]; rfl)
theorem zM2{l:List Inp}{i:Nat}(h:i<l.length):(l.map zek)[i]?=some (zek l[i]):=by simp [h]
theorem zKw{l:List Outp}{i:Nat}(h:i<l.length):(l.map zcu)[i]?=some (zcu l[i]):=by simp [h]
theorem zNC{w:List (List Int)}{i:Nat}(h:i<w.length):(zbu w)[i]?=some [V.sl 1 (ze .u8 w[i])]:=by simp [zbu,h]
theorem zFH:∀ (l:List V),(∀ c∈l,∃ k n,c=V.sc (.int k n))→ze0 l l=some true
 | [],_=>rfl
 | c::l,h=>by
  obtain ⟨k,n,rfl⟩:=h c (by simp)
  have:=zFH l (fun c hc=>h c (by simp [hc]))
  simp only [ze0,if_true,this,Option.map_some,BEq.rfl,Bool.and_true]
theorem zRP(x:Inp)(k:Bool→Option β):eqC 33 (XK 33 (zek x)) (XK 33 (zek x)) k=k true:=by
 have h:ze0 (XK 33 (zek x)) (XK 33 (zek x))=some true:=by
  apply zFH
  intro c hc
  simp only [zek,List.take_succ_cons,List.take_zero,Q9,List.not_mem_nil,or_false] at hc
  rcases hc with rfl | rfl | rfl | rfl | rfl | rfl | rfl | rfl | rfl | rfl | rfl | rfl | rfl | rfl | rfl | rfl | rfl | rfl | rfl | rfl | rfl | rfl | rfl | rfl | rfl | rfl | rfl | rfl | rfl | rfl | rfl | rfl | rfl <;> exact ⟨_,_,rfl⟩
 have hl:(XK 33 (zek x)).length=33:=by rw [Ww,zx5]; rfl
 unfold eqC
 rw [ya ⟨hl,hl⟩,h]
theorem zUq{L:Nat}(o:Outp)(k:Bool→Option β):yi β L (zcu o) (zcu o) k=k true:=by
 unfold yi zoB
 rw [zNt,zNt,zbq rfl,zNb,zNb,zI9]
theorem zJa{L:Nat}(x:Inp)(hw:x.wit.length≤64)(b2 b3:List V)(p42 p43:Int)(kr:Bool→Option β)(kx:Int→Int→List V→List V→Option β):∀ (m i:Nat),i≤x.wit.length→x.wit.length-i<m →
  zbb yh L kr kx m p42 p43 (x.wit.length:Int) (i:Int) b2 b3 (zek x) (zek x)=kx p42 p43 b2 b3
 | 0,i,h1,h2=>by omega
 | m+1,i,h1,h2=>by
  rw [zbb]
  unfold zdT
  by_cases hi:i<x.wit.length
  ·rw [xz (by omega),zs5,zef (zNC hi),zBP rfl,zs5,zef (zNC hi),zBP rfl,zI9]
   simp only [Xh,zik]
   rw [yI (by omega),zd]
   exact zJa x hw b2 b3 p42 p43 kr kx m (i+1) (by omega) (by omega)
  ·rw [yq (by omega)]
theorem zJl{L:Nat}(hL:1000≤L){t:TxT}(ht:SmallT t)(kr:Bool→Option β)(kx:List V→List V→Option β):∀ (m i:Nat),i≤t.ins.length→t.ins.length-i<m →
  zea yh L kr kx m (t.ins.length:Int) (i:Int) (zaK t) (zaK t)=kx (zaK t) (zaK t)
 | 0,i,h1,h2=>by omega
 | m+1,i,h1,h2=>by
  have hti:=ht.i
  rw [zea]
  unfold zfz zjE
  by_cases hi:i<t.ins.length
  ·have hw:=ht.w t.ins[i] (List.getElem_mem hi)
   have l35:=zx5 t.ins[i]
   rw [xz (by omega),zwR,zef (zM2 hi),zwR,zef (zM2 hi),zQD,ya (by omega),zQr,zd,ya (by omega),zd,ya (by omega),ya (by omega),zRP]
   simp only [Xh,zik]
   rw [zKu,zKu,xm,if_pos rfl,zs5,zs5,xm,if_pos rfl,zs5,show (zbu t.ins[i].wit).length=t.ins[i].wit.length by simp [zbu]]
   refine (zJa t.ins[i] (by omega) _ _ _ _ _ _ L 0 (by omega) (by omega)).trans ?_
   unfold zdf
   rw [yI (by omega),zd]
   exact zJl hL ht kr kx m (i+1) (by omega) (by omega)
  ·rw [yq (by omega)]
theorem zGr{L:Nat}{t:TxT}(ht:SmallT t)(kr:Bool→Option β)(kx:Option β):∀ (m i:Nat),i≤t.outs.length→t.outs.length-i<m →
  zdo yi L kr kx m (t.outs.length:Int) (i:Int) (zaK t) (zaK t)=kx
 | 0,i,h1,h2=>by omega
 | m+1,i,h1,h2=>by
  have hto:=ht.o
  rw [zdo]
  unfold ziE
  by_cases hi:i<t.outs.length
  ·rw [xz (by omega),zwA,zef (zKw hi),zwA,zef (zKw hi),zPO,zUq]
   simp only [Xh,zik]
   rw [yI (by omega),zd]
   exact zGr ht kr kx m (i+1) (by omega) (by omega)
  ·rw [yq (by omega)]
theorem zWz{L:Nat}(hL:1000≤L){t:TxT}(ht:SmallT t)(k:Bool→Option β):yu β L (zaK t) (zaK t) k=k true:=by
 have h1:=ht.i
 have h2:=ht.o
 unfold yu zkZ zpq
 rw [zNM,zNM,xm,if_pos rfl,zMX,zMX,xm,if_pos rfl,zwR,zwR,xm,if_pos rfl,zwA,zwA,xm,if_pos rfl,zwR,QB]
 refine (zJl hL ht _ _ L 0 (by omega) (by omega)).trans ?_
 unfold zex zii
 rw [zwA,QB]
 refine (zGr ht _ _ L 0 (by omega) (by omega)).trans ?_
 rfl
end
section
set_option linter.unusedSectionVars false
variable {β:Type}
theorem zWr{j:List Int}{a:Nat}{e:Int}(h:gIn j a=.error e):e≠0:=by
 unfold gIn at h
 split at h
 ·rename_i z; cases h; exact zx4 z
 ·split at h
  ·rename_i z; cases h; exact ziF z
  ·split at h
   ·rename_i z; cases h; exact ziF z
   ·cases h
theorem zNg{j:List Int}:∀ (n a:Nat) {e:Int},zgD j n a=.error e→e≠0
 | 0,a,e,h=>by simp only [zgD] at h; cases h
 | n+1,a,e,h=>by
  rw [zgD] at h
  split at h
  ·rename_i z; cases h; exact zWr z
  ·split at h
   ·rename_i z; cases h; exact zNg n _ z
   ·cases h
theorem zTF{j:List Int}{a:Nat}{e:Int}(h:zly j a=.error e):e≠0:=by
 unfold zly at h
 split at h
 ·rename_i z; cases h; exact ziF z
 ·split at h
  ·cases h; decide
  ·split at h
   ·rename_i z; cases h; exact zkh z
   ·cases h
theorem zLS{j:List Int}:∀ (n a:Nat) {e:Int},zdH j n a=.error e→e≠0
 | 0,a,e,h=>by simp only [zdH] at h; cases h
 | n+1,a,e,h=>by
  rw [zdH] at h
  split at h
  ·rename_i z; cases h; exact zTF z
  ·split at h
   ·rename_i z; cases h; exact zLS n _ z
   ·cases h
theorem zNr{j:List Int}:∀ (n a:Nat) {e:Int},zhl j n a=.error e→e≠0
 | 0,a,e,h=>by simp only [zhl] at h; cases h
 | n+1,a,e,h=>by
  rw [zhl] at h
  split at h
  ·rename_i z; cases h; exact zkh z
  ·split at h
   ·rename_i z; cases h; exact zNr n _ z
   ·cases h
theorem zLs{j:List Int}:∀ (xs:List Inp) (a:Nat) {e:Int},zdx j xs a=.error e→e≠0
 | [],a,e,h=>by simp only [zdx] at h; cases h
 | x::xs,a,e,h=>by
  rw [zdx] at h
  split at h
  ·rename_i z; cases h; exact zcY z
  ·split at h
   ·rename_i z; cases h; exact zNr _ _ z
   ·split at h
    ·rename_i z; cases h; exact zLs xs _ z
    ·cases h
theorem zPU{j:List Int}{a:Nat}{e:Int}(h:gTx j a=.error e):e≠0:=by
 unfold gTx at h
 split at h
 ·rename_i z; cases h; exact ziF z
 ·split at h
  ·rename_i z; cases h; exact zcY z
  ·split at h
   ·rename_i z; cases h; exact zNg _ _ z
   ·split at h
    ·rename_i z; cases h; exact zcY z
    ·split at h
     ·rename_i z; cases h; exact zLS _ _ z
     ·split at h
      ·rename_i z; cases h; exact ziF z
      ·split at h
       ·rename_i z; cases h; exact zLs _ _ z
       ·split at h
        ·cases h; decide
        ·cases h
end
end Go.Proofs.YtgmhijonllockaaGreatDoor
