/- BlockBack: for every input the call returns true, and each argument reads afterwards as it read before. Condition: the package variables lightclient/sha.k and lightclient/sha.initial begin as the program text lays them (the card ties them to the pruned copy of the text); nothing else is asked. -/
import Derived.LaidMore
import Derived.OpenShut
import Derived.MakeChecks
import Derived.LaidLaws
import Derived.Test.YtgmhijonllockaaGreatDoorRows
import Derived.JoinedOf
import Derived.Test.YtgmhijonllockaaGreatDoorCards
import Derived.Test.YtgmhijonllockaaGreatDoorTie
import Derived.SevenTiedAt
import Derived.Stop.Joined
import Derived.Test.YtgmhijonllockaaGreatDoorMBlockBack13
namespace Go.Proofs.YtgmhijonllockaaGreatDoor
set_option maxRecDepth 100000
set_option linter.unusedVariables false
set_option linter.unusedSimpArgs false
open List renaming replicate->We,getD_eq_getElem?_getD->Ws,take_of_length_le->XE,length_replicate->X0,getElem?_eq_getElem->Wc,length_set->QI,map_cons->QW,length_drop->XU,mem_cons->Q9,take->XM,getD_cons_succ->Yn,length_cons->XS,mem_append->QD,map_nil->Yp,length_append->Wm,length->XK,append_assoc->Wu,getElem?_map->WJ,getElem?_eq_none->Q3,mem_of_mem_drop->WU,mem_of_mem_take->WV,getD_cons_zero->Yw,mem_replicate->Yx,mem_map->Xy
open IntKind renaming wrap->QG,bits->XH
open Nat renaming add->Yj,mod->Yk,shiftRight->Yl,xor->Ym,le_of_ble_eq_true->Yo,land->Yr,shiftLeft->Ys,mul->Yt,exists_eq_add_of_le->Yv,zero_add->WB,mul_one->Yb
open Int renaming toNat_natCast->XV,toNat->XL,ofNat_tmod->Yq,natCast_emod->Yu,tmod->XQ,tdiv->Yy
open Option.some renaming inj->QV
open Bool renaming and_eq_true->Wh
open _root_.Array renaming getElem?_toList->W5
section
def zs(n:Nat):Nat:=(64-(n+9) % 64) % 64
def pb(n i:Nat):Int:=QG .u8 (zb1 .u64 (QG .u64 ((8:Int)*(n:Int))) ((56-8*i:Nat):Int))
def pbs(n:Nat):Nat→Nat→List Int
 | 0,_=>[]
 | m+1,i=>pb n i::pbs n m (i+1)
theorem zPm(n:Nat):∀ m i:Nat,(pbs n m i).length=m
 | 0,_=>rfl
 | m+1,i=>by rw [pbs,XS,zPm n m]
theorem zA1(n:Int):0≤QG .u8 n∧QG .u8 n≤255:=by
 unfold QG
 simp only [IntKind.signed,Bool.false_and,Bool.false_eq_true,if_false]
 have h1:=Int.emod_nonneg n (show (2:Int) ^ XH .u8≠0 by decide)
 have h2:=Int.emod_lt_of_pos n (show (0:Int)<2 ^ XH .u8 by decide)
 exact ⟨h1,Int.le_of_lt_add_one h2⟩
theorem zSA(n:Nat):∀ m i:Nat,∀ x∈pbs n m i,0≤x∧x≤255
 | 0,_=>fun x h=>by simp [pbs] at h
 | m+1,i=>fun x h=>by
  rw [pbs,Q9] at h
  rcases h with rfl | h
  ·exact zA1 _
  ·exact zSA n m (i+1) x h
def zeO(n:Nat):List Int:=(128::We (zs n) 0)++pbs n 8 0
theorem zvc(n:Nat):(zeO n).length=9+zs n:=by simp [zeO,zPm]; omega
theorem zWn(n:Nat):∀ x∈zeO n,0≤x∧x≤255:=by
 intro x hx
 rw [zeO,QD,Q9] at hx
 rcases hx with (rfl | hx) | hx
 ·exact ⟨by decide,by decide⟩
 ·rw [List.eq_of_mem_replicate hx]; exact ⟨by decide,by decide⟩
 ·exact zSA n 8 0 x hx
theorem zIC(n:Nat):zs n<64:=Nat.mod_lt _ (by decide)
theorem zSU(n:Nat):(n+9+zs n) % 64=0:=by unfold zs; omega
theorem zXz(n k:Nat)(h:k<zs n):(n+9+k) % 64≠0:=by unfold zs at h; omega
theorem zz9(x:Int):zf 1 1 [V.sc (.int .u8 x)]=yf .u8 [x]:=rfl
theorem zUn{β:Type}(L:Nat){n i:Nat}(hi:i<8)(b:Nat){acc:List Int}(ha:acc.length≤1000000)(kh:Int→Ls→Int→Nat→Option β)(kx:Ls→Nat→Option β):zeU L (n:Int) (yf .u8 acc) (i:Int) b kh kx=kh (n:Int) (yf .u8 (acc++[pb n i])) ((i+1:Nat):Int) b:=by
 unfold zeU
 have e8:QG .i64 ((8:Int)*(i:Int))=((8*i:Nat):Int):=by rw [xH (by omega) (by omega)]; omega
 have e56:QG .i64 ((56:Int)-((8*i:Nat):Int))=((56-8*i:Nat):Int):=by rw [xH (by omega) (by omega)]; omega
 rw [yv (by omega:(i:Int)<8)]
 simp only [zg,e8,e56,zz9,zb0,xM (show i≤1000000000 by omega)]
 rw [zb (by omega),zb (by simp [xr,xf]; omega)]
 exact Eq.trans rfl rfl
theorem zNc{β:Type}(L n b:Nat)(kx:Ls→Nat→Option β):∀ (f m i:Nat) (acc:List Int),i+m=8→m<f→acc.length≤900000+i→zbY L kx f (n:Int) (yf .u8 acc) (i:Int) b=kx (yf .u8 (acc++pbs n m i)) b
 | 0,m,i,acc,_,h,_=>by omega
 | f+1,0,i,acc,h1,h2,h3=>by
  unfold zbY zeU
  rw [zp (by omega),pbs,List.append_nil]
 | f+1,m+1,i,acc,h1,h2,h3=>by
  unfold zbY
  rw [zUn L (by omega) b (by omega)]
  refine (zNc L n b kx f m (i+1) _ (by omega) (by omega) (by simp; omega)).trans ?_
  rw [pbs,Wu]; exact Eq.trans rfl rfl
theorem zZc{β:Type}{L:Nat}(hL:100≤L){n:Nat}(hn:n≤100000000)(k k1:Ls→Option β):yL β L (n:Int) k k1=k1 (yf .u8 (zeO n)):=by
 unfold yL zvS zBN
 have z64:=zIC n
 have e0:QG .u64 ((n:Int)+(9:Int))=((n+9:Nat):Int):=by rw [xW (by omega) (by omega)]; omega
 have e1:XQ ((n+9:Nat):Int) (64:Int)=(((n+9) % 64:Nat):Int):=(Yq (n+9) 64).symm
 have e2:QG .u64 ((64:Int)-(((n+9) % 64:Nat):Int))=((64-(n+9) % 64:Nat):Int):=by rw [xW (by omega) (by omega)]; omega
 have e3:XQ ((64-(n+9) % 64:Nat):Int) (64:Int)=((zs n:Nat):Int):=(Yq (64-(n+9) % 64) 64).symm
 have e4:QG .u64 ((1:Int)+((zs n:Nat):Int))=((1+zs n:Nat):Int):=by rw [xW (by omega) (by omega)]; omega
 have e5:QG .u64 ((9:Int)+((zs n:Nat):Int))=((9+zs n:Nat):Int):=by rw [xW (by omega) (by omega)]; omega
 have e6:List.flatten (We (9+zs n) [V.sc (.int .u8 (0:Int))])=row .u8 (We (9+zs n) 0):=by
  rw [List.flatten_replicate_singleton,zy8]
 have e7:yd (row .u8 (We (9+zs n) 0)) 0 [V.sc (.int .u8 (128:Int))]=row .u8 (128::We (8+zs n) 0):=by
  rw [zgT (by simp; omega),show 9+zs n=(8+zs n)+1 by omega,List.replicate_succ,List.set_cons_zero]
 simp only [zg,e0,e1,e2,e3,e4,e5,XV,e6,e7]
 rw [zb ⟨by omega,by omega,by simp [xf]; omega,by simp [xf]; omega⟩,zb ⟨by omega,by omega⟩,zb ⟨trivial,by simp [xk]; omega⟩]
 obtain ⟨L',rfl⟩:=Yv hL
 rw [show 100+L'=(99+L')+1 by omega]
 refine (show _=ziT (99+L'+1) (n:Int) (1+zs n) (0:Int) (row .u8 (128::We (8+zs n) 0)) (fun p0 p4 p18 b15=>zbY (99+L'+1) (fun p4 b15=>zex (99+L'+1) p4 b15 k1) (99+L') p0 p4 p18 b15) (fun p4l b15=>zkF (99+L'+1) p4l b15 k) from rfl).trans ?_
 unfold ziT
 have e8:QG .i64 ((8:Int)*(0:Int))=((8*0:Nat):Int):=by rw [xH (by omega) (by omega)]; omega
 have e56:QG .i64 ((56:Int)-((8*0:Nat):Int))=((56-8*0:Nat):Int):=by rw [xH (by omega) (by omega)]; omega
 have e9:QG .i64 ((0:Int)+(1:Int))=((1:Nat):Int):=xM (i:=0) (by omega)
 have ec:zf 1 (1+zs n) (row .u8 (128::We (8+zs n) 0))=yf .u8 (128::We (zs n) 0):=by
  rw [ztM _ _ _ (by simp; omega),show 1+zs n=zs n+1 by omega,List.take_succ_cons,List.take_replicate,show min (zs n) (8+zs n)=zs n by omega]
 rw [yv (by decide:(0:Int)<8)]
 simp only [zg,e8,e56,e9,zz9,ec,zb0]
 rw [zb ⟨trivial,by simp [xk]; omega,by simp [xk]⟩,zb (by omega),zb (by simp [xr,xf]; omega)]
 refine (zNc _ n _ _ (99+L') 7 1 _ rfl (by omega) (by simp; omega)).trans ?_
 unfold zex zeO
 rw [pbs,Wu]; exact Eq.trans rfl rfl
theorem zHT{β:Type}(L:Nat){n:Nat}(hn:n≤100000000)(kx:Int→Ls→Option β):∀ (f m k:Nat),k+m=zs n→m<f→zg4 L kx f (n:Int) (yf .u8 (128::We k 0))=kx (n:Int) (yf .u8 (128::We (zs n) 0))
 | 0,m,k,_,h=>by omega
 | f+1,m,k,h1,h2=>by
  have z64:=zIC n
  unfold zg4 zpY
  have e0:QG .u64 (((yf .u8 (128::We k 0)).length:Nat):Int)=((k+1:Nat):Int):=by
   rw [xr,XS,X0,xW (by omega) (by omega)]
  have e1:QG .u64 ((n:Int)+((k+1:Nat):Int))=((n+(k+1):Nat):Int):=by rw [xW (by omega) (by omega)]; omega
  have e2:QG .u64 (((n+(k+1):Nat):Int)+(8:Int))=((n+9+k:Nat):Int):=by rw [xW (by omega) (by omega)]; omega
  have e3:XQ ((n+9+k:Nat):Int) (64:Int)=(((n+9+k) % 64:Nat):Int):=(Yq (n+9+k) 64).symm
  simp only [zg,e0,e1,e2,e3]
  rw [xu]
  match m,h1,h2 with
  | 0,h1,h2=>
   have:k=zs n:=by omega
   subst this
   rw [if_pos (by rw [zSU]; rfl)]
  | m+1,h1,h2=>
   have hz:=zXz n k (by omega)
   rw [if_neg (by omega)]
   rw [zz9,zb0]
   rw [zb (by simp [xr,xf]; omega)]
   have e4:(128::We k (0:Int))++[0]=128::We (k+1) 0:=by
    rw [List.cons_append,List.replicate_succ']
   rw [e4]
   exact zHT L hn kx f m (k+1) (by omega) (by omega)
theorem zRO{β:Type}(L:Nat){n i:Nat}(hi:i<8){acc:List Int}(ha:acc.length≤1000000)(kh:Int→Ls→Int→Option β)(kx:Ls→Option β):zfs L (n:Int) (yf .u8 acc) ((7:Int)-(i:Int)) kh kx=kh (n:Int) (yf .u8 (acc++[pb n i])) ((7:Int)-((i+1:Nat):Int)):=by
 unfold zfs
 have e8:QG .i64 ((8:Int)*((7:Int)-(i:Int)))=((56-8*i:Nat):Int):=by rw [xH (by omega) (by omega)]; omega
 have e1:QG .i64 (((7:Int)-(i:Int))-(1:Int))=(7:Int)-((i+1:Nat):Int):=by rw [xH (by omega) (by omega)]; omega
 rw [yv (by omega:(7:Int)-(i:Int)≥0)]
 simp only [zg,e8,e1,zz9,zb0]
 rw [zb (by omega),zb (by simp [xr,xf]; omega)]
 exact Eq.trans rfl rfl
theorem zKJ{β:Type}(L n:Nat)(kx:Ls→Option β):∀ (f m i:Nat) (acc:List Int),i+m=8→m<f→acc.length≤900000+i→zdG L kx f (n:Int) (yf .u8 acc) ((7:Int)-(i:Int))=kx (yf .u8 (acc++pbs n m i))
 | 0,m,i,acc,_,h,_=>by omega
 | f+1,0,i,acc,h1,h2,h3=>by
  unfold zdG zfs
  rw [zp (by omega),pbs,List.append_nil]
 | f+1,m+1,i,acc,h1,h2,h3=>by
  unfold zdG
  rw [zRO L (by omega) (by omega)]
  refine (zKJ L n kx f m (i+1) _ (by omega) (by omega) (by simp; omega)).trans ?_
  rw [pbs,Wu]; exact Eq.trans rfl rfl
theorem zVQ{β:Type}{L:Nat}(hL:100≤L){n:Nat}(hn:n≤100000000)(k:Ls→Option β):zC β L (n:Int) k=k (yf .u8 (zeO n)):=by
 unfold zC zrv zxz
 have z64:=zIC n
 refine (zHT L hn _ L (zs n) 0 (by omega) (by omega)).trans ?_
 unfold zhe zmr
 refine (zKJ L n _ L 8 0 _ rfl (by omega) (by simp; omega)).trans ?_
 unfold zjC zeO
 exact Eq.trans rfl rfl
theorem zRP{β:Type}{L:Nat}(hL:100≤L){a b:List Int}(ha:a.length≤1000000000)(hb:b.length≤1000000000)(k:Ls→Option β):xJ β L (zf 1 2 [V.sl 1 (yf .u8 a),V.sl 1 (yf .u8 b)]) k=k (yf .u8 (a++b)):=by
 unfold xJ zvZ zDC
 obtain ⟨L',rfl⟩:=Yv hL
 have es:zf 1 2 [V.sl 1 (yf .u8 a),V.sl 1 (yf .u8 b)]=[[V.sl 1 (yf .u8 a)],[V.sl 1 (yf .u8 b)]]:=rfl
 rw [es,show 100+L'=(97+L')+1+1+1 by omega]
 refine (show _=zc2 (97+L'+1+1+1) [] [[V.sl 1 (yf .u8 a)],[V.sl 1 (yf .u8 b)]] ((2:Nat):Int) ((0:Nat):Int) (fun p3 p6 p7 p8=>zf4 (97+L'+1+1+1) _ (97+L'+1+1) p3 p6 p7 p8) (fun p3=>zeg (97+L'+1+1+1) p3 k) from rfl).trans ?_
 unfold zc2
 rw [yv (by decide),zaG (c:=[V.sl 1 (yf .u8 a)]) rfl,zqB (sz:=1) (es:=yf .u8 a) rfl,zb (by simp [xr,xf]; omega),zg,List.nil_append,zg,xM (i:=0) (by omega)]
 refine (show _=zc2 (97+L'+1+1+1) (yf .u8 a) [[V.sl 1 (yf .u8 a)],[V.sl 1 (yf .u8 b)]] ((2:Nat):Int) ((1:Nat):Int) (fun p3 p6 p7 p8=>zf4 (97+L'+1+1+1) _ (97+L'+1) p3 p6 p7 p8) (fun p3=>zeg (97+L'+1+1+1) p3 k) from rfl).trans ?_
 unfold zc2
 rw [yv (by decide),zaG (c:=[V.sl 1 (yf .u8 b)]) rfl,zqB (sz:=1) (es:=yf .u8 b) rfl,zb (by simp [xr,xf]; omega),zg,zb0,zg,xM (i:=1) (by omega)]
 refine (show _=zc2 (97+L'+1+1+1) (yf .u8 (a++b)) [[V.sl 1 (yf .u8 a)],[V.sl 1 (yf .u8 b)]] ((2:Nat):Int) ((2:Nat):Int) (fun p3 p6 p7 p8=>zf4 (97+L'+1+1+1) _ (97+L') p3 p6 p7 p8) (fun p3=>zeg (97+L'+1+1+1) p3 k) from rfl).trans ?_
 unfold zc2
 rw [zp (by decide)]
 unfold zeg
 exact Eq.trans rfl rfl
end
section
def init0:List Int:=gk_sha_initial.map fun v=>match v with | .sc (.int _ n)=>n | _=>0
theorem zwf:init0.length=8:=rfl
def zDk:Nat→Nat→List Int→List Int→List Int
 | 0,_,_,h=>h
 | m+1,i,p,h=>zDk m (i+1) p (zzU h ((p.drop (64*i)).take 64))
theorem zGa:∀ (m i:Nat) (p h:List Int),h.length=8→(zDk m i p h).length=8
 | 0,_,_,_,hh=>hh
 | m+1,i,p,h,hh=>by rw [zDk]; exact zGa m _ _ _ (znQ _ _)
theorem zC6(k:IntKind):∀ l:List Int,List.flatten (yf k l)=row k l
 | []=>rfl
 | x::l=>by
  have:=zC6 k l
  simp only [yf,row] at this
  simp only [yf,row,QW,List.flatten_cons,this,List.singleton_append]
theorem zt7{p:List Int}{i:Nat}(h:64*(i+1)≤p.length):((p.drop (64*i)).take 64).length=64:=by
 rw [List.length_take,XU]; omega
theorem zSY{p:List Int}(hp:∀ x∈p,0≤x∧x≤255)(i:Nat):∀ x∈(p.drop (64*i)).take 64,0≤x∧x≤255:=
 fun x hx=>hp x (WU (WV hx))
theorem zPv(p:List Int)(n:Nat):XM ((yf .u8 p).length-n) (List.drop n (yf .u8 p))=yf .u8 (p.drop n):=by
 rw [zDv,XE (by rw [xr,xr,XU]; omega)]
theorem zUa{β:Type}{L:Nat}(hL:100≤L){p:List Int}(hp:∀ x∈p,0≤x∧x≤255)(hs:p.length≤1000000000){N i:Nat}(hi:i<N)(hN:64*(i+1)≤p.length)(b2:List V){h:List Int}(hh:h.length=8)(kh:Ls→Int→Int→List V→List V→Option β)(kx:List V→List V→Option β):zg0 yp L (yf .u8 p) (N:Int) (i:Int) b2 (row .u32 h) kh kx=kh (yf .u8 p) (N:Int) ((i+1:Nat):Int) b2 (row .u32 (zzU h ((p.drop (64*i)).take 64))):=by
 unfold zg0
 have e9:QG .i64 ((64:Int)*(i:Int))=((64*i:Nat):Int):=by rw [xH (by omega) (by omega)]; omega
 have e8:XM 8 (row .u32 h)=row .u32 h:=XE (by rw [xk]; omega)
 have ec:XM 64 (row .u8 ((p.drop (64*i)).take 64))=row .u8 ((p.drop (64*i)).take 64):=XE (by rw [xk,zt7 hN]; omega)
 rw [yv (by omega:(i:Int)<(N:Int)),zb (by rw [xk]; omega),zg,e9,XV,zPv,zoi,zC6,e8,ec]
 rw [zb ⟨by omega,by rw [xr]; omega⟩,zb (by rw [xr,XU]; omega)]
 refine (zOV hL hh (zt7 hN) (zSY hp i) _).trans ?_
 rw [zb ⟨by rw [xk,znQ],by rw [xk]; omega⟩,zg,zg,zaj (by rw [xk,xk,znQ,hh]),xM (by omega)]
theorem zNr{β:Type}{L:Nat}(hL:100≤L){p:List Int}(hp:∀ x∈p,0≤x∧x≤255)(hs:p.length≤1000000000){N:Nat}(hN:64*N≤p.length)(b2:List V)(kx:List V→List V→Option β):∀ (f m i:Nat) (h:List Int),h.length=8→i+m=N→m<f→ze7 yp L kx f (yf .u8 p) (N:Int) (i:Int) b2 (row .u32 h)=kx b2 (row .u32 (zDk m i p h))
 | 0,m,i,h,_,_,hf=>by omega
 | f+1,0,i,h,hh,h1,h2=>by
  unfold ze7 zg0
  rw [zp (by omega)]; exact Eq.trans rfl rfl
 | f+1,m+1,i,h,hh,h1,h2=>by
  unfold ze7
  rw [zUa hL hp hs (by omega) (by omega) b2 hh]
  exact zNr hL hp hs hN b2 kx f m (i+1) _ (znQ _ _) (by omega) (by omega)
theorem zRY{β:Type}{L:Nat}(hL:100≤L){p:List Int}(hp:∀ x∈p,0≤x∧x≤255)(hs:p.length≤1000000000){i:Nat}(hN:64*(i+1)≤p.length)(b2:List V){h:List Int}(hh:h.length=8)(kh:Ls→Int→List V→List V→Option β)(kx:List V→List V→Option β):zfq ym L (yf .u8 p) ((64*i:Nat):Int) b2 (row .u32 h) kh kx=kh (yf .u8 p) ((64*(i+1):Nat):Int) b2 (row .u32 (zzU h ((p.drop (64*i)).take 64))):=by
 unfold zfq
 have e9:QG .i64 (((64*i:Nat):Int)+(64:Int))=((64*(i+1):Nat):Int):=by rw [xH (by omega) (by omega)]; omega
 have e8:XM 8 (row .u32 h)=row .u32 h:=XE (by rw [xk]; omega)
 have em:min (yf .u8 (p.drop (64*i))).length 64=64:=by rw [xr,XU]; omega
 have er:yd (We 64 (Qa (0:Int))) 0 (row .u8 ((p.drop (64*i)).take 64))=row .u8 ((p.drop (64*i)).take 64):=zaj (by rw [xk,zt7 hN,X0])
 have ec:XM 64 (row .u8 ((p.drop (64*i)).take 64))=row .u8 ((p.drop (64*i)).take 64):=XE (by rw [xk,zt7 hN]; omega)
 rw [zg,e9,yv (by rw [xr]; omega),XV,zPv,em,zoi,zC6,er,e8,zg,ec]
 rw [zb ⟨by omega,by rw [xr]; omega⟩,zb (by rw [xk]; omega),zb (by rw [xk,zt7 hN]; omega)]
 refine (zMX hL hh (zt7 hN) (zSY hp i) _).trans ?_
 rw [zb ⟨by rw [xk,znQ],by rw [xk]; omega⟩,zg,zg,zaj (by rw [xk,xk,znQ,hh])]
theorem zKZ{β:Type}{L:Nat}(hL:100≤L){p:List Int}(hp:∀ x∈p,0≤x∧x≤255)(hs:p.length≤1000000000){N:Nat}(hN:64*N=p.length)(b2:List V)(kx:List V→List V→Option β):∀ (f m i:Nat) (h:List Int),h.length=8→i+m=N→m<f→zdH ym L kx f (yf .u8 p) ((64*i:Nat):Int) b2 (row .u32 h)=kx b2 (row .u32 (zDk m i p h))
 | 0,m,i,h,_,_,hf=>by omega
 | f+1,0,i,h,hh,h1,h2=>by
  unfold zdH zfq
  have e9:QG .i64 (((64*i:Nat):Int)+(64:Int))=((64*(i+1):Nat):Int):=by rw [xH (by omega) (by omega)]; omega
  rw [zg,e9,zp (by rw [xr]; omega)]; exact Eq.trans rfl rfl
 | f+1,m+1,i,h,hh,h1,h2=>by
  unfold zdH
  rw [zRY hL hp hs (by omega) b2 hh]
  exact zKZ hL hp hs hN b2 kx f m (i+1) _ (znQ _ _) (by omega) (by omega)
def ob(h:List Int)(i:Nat):Int:=QG .u8 (zb1 .u32 (h.getD (i / 4) 0) ((24-i % 4*8:Nat):Int))
def zss(h:List Int):List Int:=(List.range 32).map (ob h)
theorem zzG(h:List Int):(zss h).length=32:=by simp [zss]
theorem zU3(h:List Int){i:Nat}(hi:i<32):(zss h).getD i 0=ob h i:=by
 simp [zss,Ws,hi]
theorem zWd(h:List Int):∀ x∈zss h,0≤x∧x≤255:=by
 intro x hx
 rw [zss,Xy] at hx
 obtain ⟨i,_,rfl⟩:=hx
 exact zA1 _
theorem zTQ{l m:List Int}(h:l.length=m.length)(hg:∀ i,i<l.length→l.getD i 0=m.getD i 0):l=m:=by
 apply List.ext_getElem h
 intro i h1 h2
 have:=hg i h1
 rwa [Ws,Ws,Wc h1,Wc h2] at this
theorem zPy{h z:List Int}(hz:z.length=32)(hg:∀ j,j<32→z.getD j 0=ob h j):z=zss h:=
 zTQ (by rw [hz,zzG]) fun i hi=>by rw [zU3 h (by omega)]; exact hg i (by omega)
theorem zSt{β:Type}(L:Nat){i:Nat}(hi:i<32)(b2:List V){h z:List Int}(hh:h.length=8)(hz:z.length=32)(kh:Int→List V→List V→List V→Option β)(kx:List V→List V→Option β):zfk L (i:Int) b2 (row .u32 h) (row .u8 z) kh kx=kh ((i+1:Nat):Int) b2 (row .u32 h) (row .u8 (z.set i (ob h i))):=by
 unfold zfk
 have e1:QG .i64 (Yy (i:Int) (4:Int))=((i / 4:Nat):Int):=by
  rw [show Yy (i:Int) (4:Int)=((i / 4:Nat):Int) from (Int.ofNat_tdiv i 4).symm,xH (by omega) (by omega)]
 have e2:XQ (i:Int) (4:Int)=((i % 4:Nat):Int):=(Yq i 4).symm
 have e3:QG .i64 (((i % 4:Nat):Int)*(8:Int))=((i % 4*8:Nat):Int):=by rw [xH (by omega) (by omega)]; omega
 have e4:QG .i64 ((24:Int)-((i % 4*8:Nat):Int))=((24-i % 4*8:Nat):Int):=by rw [xH (by omega) (by omega)]; omega
 have c1:0≤((i / 4:Nat):Int)∧((i / 4:Nat):Int)<((8:Nat):Int):=by omega
 have c2:0≤(i:Int)∧(i:Int)<((32:Nat):Int):=by omega
 have c3:0≤((24-i % 4*8:Nat):Int):=by omega
 have cl:True∧i+1≤32:=⟨trivial,by omega⟩
 rw [yv (by omega:(i:Int)<32)]
 simp only [zg,e1,e2,e3,e4,zb c1,zb c2,zb c3,XV,Yb,WB,zN (show i / 4<h.length by omega),xk,hz,zgT (show i<z.length by omega),xM (show i≤1000000000 by omega)]
 rw [zb cl]
 exact Eq.trans rfl rfl
theorem zKK{β:Type}(L:Nat)(b2:List V){h:List Int}(hh:h.length=8)(kx:List V→List V→Option β):∀ (f m i:Nat) (z:List Int),z.length=32→i+m=32→m<f→(∀ j,j<i→z.getD j 0=ob h j)→zdJ L kx f (i:Int) b2 (row .u32 h) (row .u8 z)=kx b2 (row .u8 (zss h))
 | 0,m,i,z,_,_,hf,_=>by omega
 | f+1,0,i,z,hz,h1,h2,hg=>by
  unfold zdJ zfk
  rw [zp (by omega),zPy hz fun j hj=>hg j (by omega)]
 | f+1,m+1,i,z,hz,h1,h2,hg=>by
  unfold zdJ
  rw [zSt L (by omega) b2 hh hz]
  refine zKK L b2 hh kx f m (i+1) _ (by simpa using hz) (by omega) (by omega) fun j hj=>?_
  by_cases he:i=j
  ·subst he; exact zfZ (by omega) _
  ·rw [getD_set_ne he]; exact hg j (by omega)
theorem zZS(v:Int):zb1 .u32 v ((0:Nat):Int)=v:=by
 unfold zb1
 rw [show min (XL ((0:Nat):Int)) (XH .u32)=0 from rfl,show (2:Int) ^ 0=1 from rfl,Int.fdiv_one]
theorem zQy{β:Type}(L:Nat){i:Nat}(hi:i<8)(b2:List V){h z:List Int}(hh:h.length=8)(hz:z.length=32)(kh:List V→Int→List V→List V→Option β)(kx:List V→List V→Option β):zd6 L (row .u32 h) (i:Int) b2 (row .u8 z) kh kx=kh (row .u32 h) ((i+1:Nat):Int) b2 (row .u8 ((((z.set (4*i) (ob h (4*i))).set (4*i+1) (ob h (4*i+1))).set (4*i+2) (ob h (4*i+2))).set (4*i+3) (ob h (4*i+3)))):=by
 unfold zd6
 have e4:QG .i64 ((4:Int)*(i:Int))=((4*i:Nat):Int):=zQI (by omega)
 have e1:QG .i64 (((4*i:Nat):Int)+(1:Int))=((4*i+1:Nat):Int):=zF1 (b:=1) (by omega) (by omega)
 have e2:QG .i64 (((4*i:Nat):Int)+(2:Int))=((4*i+2:Nat):Int):=zF1 (b:=2) (by omega) (by omega)
 have e3:QG .i64 (((4*i:Nat):Int)+(3:Int))=((4*i+3:Nat):Int):=zF1 (b:=3) (by omega) (by omega)
 have c0:0≤(i:Int)∧(i:Int)<((8:Nat):Int):=by omega
 have c4:0≤((4*i:Nat):Int)∧((4*i:Nat):Int)<((32:Nat):Int):=by omega
 have c1:0≤((4*i+1:Nat):Int)∧((4*i+1:Nat):Int)<((32:Nat):Int):=by omega
 have c2:0≤((4*i+2:Nat):Int)∧((4*i+2:Nat):Int)<((32:Nat):Int):=by omega
 have c3:0≤((4*i+3:Nat):Int)∧((4*i+3:Nat):Int)<((32:Nat):Int):=by omega
 have l0:True∧4*i+1≤32:=⟨trivial,by omega⟩
 have l1:True∧4*i+1+1≤32:=⟨trivial,by omega⟩
 have l2:True∧4*i+2+1≤32:=⟨trivial,by omega⟩
 have l3:True∧4*i+3+1≤32:=⟨trivial,by omega⟩
 have o0:QG .u8 (zb1 .u32 (h.getD i 0) (24:Int))=ob h (4*i):=by
  unfold ob; rw [show 4*i / 4=i by omega,show 24-4*i % 4*8=24 by omega]; exact Eq.trans rfl rfl
 have o1:QG .u8 (zb1 .u32 (h.getD i 0) (16:Int))=ob h (4*i+1):=by
  unfold ob; rw [show (4*i+1) / 4=i by omega,show 24-(4*i+1) % 4*8=16 by omega]; exact Eq.trans rfl rfl
 have o2:QG .u8 (zb1 .u32 (h.getD i 0) (8:Int))=ob h (4*i+2):=by
  unfold ob; rw [show (4*i+2) / 4=i by omega,show 24-(4*i+2) % 4*8=8 by omega]; exact Eq.trans rfl rfl
 have o3:QG .u8 (h.getD i 0)=ob h (4*i+3):=by
  unfold ob; rw [show (4*i+3) / 4=i by omega,show 24-(4*i+3) % 4*8=0 by omega,zZS]
 rw [yv (by omega:(i:Int)<8)]
 simp only [zg,e4,e1,e2,e3,zb c0,zb c4,zb c1,zb c2,zb c3,XV,Yb,WB,zN (show i<h.length by omega),o0,o1,o2,o3,xk]
 rw [zgT (by omega),zgT (by rw [QI]; omega),zgT (by rw [QI,QI]; omega),zgT (by rw [QI,QI,QI]; omega)]
 simp only [xk,QI,hz,xM (show i≤1000000000 by omega)]
 rw [zb l0,zb l1,zb l2,zb l3]
theorem zHm{β:Type}(L:Nat)(b2:List V){h:List Int}(hh:h.length=8)(kx:List V→List V→Option β):∀ (f m i:Nat) (z:List Int),z.length=32→i+m=8→m<f→(∀ j,j<4*i→z.getD j 0=ob h j)→zcx L kx f (row .u32 h) (i:Int) b2 (row .u8 z)=kx b2 (row .u8 (zss h))
 | 0,m,i,z,_,_,hf,_=>by omega
 | f+1,0,i,z,hz,h1,h2,hg=>by
  unfold zcx zd6
  rw [zp (by omega),zPy hz fun j hj=>hg j (by omega)]
 | f+1,m+1,i,z,hz,h1,h2,hg=>by
  unfold zcx
  rw [zQy L (by omega) b2 hh hz]
  refine zHm L b2 hh kx f m (i+1) _ (by simpa using hz) (by omega) (by omega) fun j hj=>?_
  by_cases h3:4*i+3=j
  ·subst h3; exact zfZ (by simp; omega) _
  rw [getD_set_ne h3]
  by_cases h2:4*i+2=j
  ·subst h2; exact zfZ (by simp; omega) _
  rw [getD_set_ne h2]
  by_cases h1:4*i+1=j
  ·subst h1; exact zfZ (by simp; omega) _
  rw [getD_set_ne h1]
  by_cases h0:4*i=j
  ·subst h0; exact zfZ (by omega) _
  rw [getD_set_ne h0]
  exact hg j (by omega)
def zsM(l:List Int):List Int:=zss (zDk ((l++zeO l.length).length / 64) 0 (l++zeO l.length) init0)
theorem zaD(l:List Int):(zsM l).length=32:=zzG _
theorem zQc(l:List Int):∀ x∈zsM l,0≤x∧x≤255:=zWd _
theorem zPi(l:List Int):64*((l++zeO l.length).length / 64)=(l++zeO l.length).length:=by
 have:=zSU l.length
 rw [Wm,zvc]; omega
theorem zTd{l:List Int}(h:∀ x∈l,0≤x∧x≤255):∀ x∈l++zeO l.length,0≤x∧x≤255:=by
 intro x hx
 rcases QD.1 hx with hx | hx
 ·exact h x hx
 ·exact zWn _ x hx
theorem zPO{β:Type}{w:List Int}(hw:w.length=32)(z:List Int)(hz:z.length=32)(k:List V→Option β) :
  chk (0+32≤(XK (row .u8 w))) (chk ((XK (XM 32 (row .u8 w)))=32∧0+32≤(XK (row .u8 z))) (
   lt (yd (row .u8 z) 0 (XM 32 (row .u8 w))) fun r41=>chk (0=0∧(XK r41)=32∧32≠0) (k r41)))=k (row .u8 w):=by
 have e:XM 32 (row .u8 w)=row .u8 w:=XE (by rw [xk]; omega)
 rw [zg,e,zaj (by rw [xk,xk]; omega)]
 rw [zb (by rw [xk]; omega),zb ⟨by rw [xk]; omega,by rw [xk]; omega⟩,zb ⟨rfl,by rw [xk]; omega,by decide⟩]
theorem zMZ{β:Type}{L:Nat}{l:List Int}(hL:l.length+200≤L)(hl:l.length≤100000000)(hb:∀ x∈l,0≤x∧x≤255)(k:List V→Option β):zaw β L (yf .u8 l) k=k (row .u8 (zsM l)):=by
 unfold zaw zvV zC3
 have z64:=zIC l.length
 have hm:=zPi l
 have hlen:(l++zeO l.length).length=l.length+(9+zs l.length):=by rw [Wm,zvc]
 have e0:QG .u64 (((yf .u8 l).length:Nat):Int)=(l.length:Int):=by rw [xr,xW (by omega) (by omega)]
 rw [zg,e0]
 refine (zZc (by omega) hl _ _).trans ?_
 refine (zRP (by omega) (by omega) (by rw [zvc]; omega) _).trans ?_
 have e1:yd [V.sc (.int .u32 (0:Int)),V.sc (.int .u32 (0:Int)),V.sc (.int .u32 (0:Int)),V.sc (.int .u32 (0:Int)),V.sc (.int .u32 (0:Int)),V.sc (.int .u32 (0:Int)),V.sc (.int .u32 (0:Int)),V.sc (.int .u32 (0:Int))] 0 (XM 8 gk_sha_initial)=row .u32 init0:=(zaj rfl).trans rfl
 have e2:QG .i64 (Yy (((yf .u8 (l++zeO l.length)).length:Nat):Int) (64:Int))=(((l++zeO l.length).length / 64:Nat):Int):=by
  rw [xr,show Yy (((l++zeO l.length).length:Nat):Int) (64:Int)=(((l++zeO l.length).length / 64:Nat):Int) from (Int.ofNat_tdiv _ 64).symm,xH (by omega) (by omega)]
 rw [zb ⟨rfl,by decide⟩,zg,e1,zg,e2]
 refine (zNr (by omega) (zTd hb) (by omega) (by omega) _ _ L ((l++zeO l.length).length / 64) 0 _ zwf (by omega) (by omega)).trans ?_
 unfold zhb zms
 rw [zy8]
 refine (zKK L _ (zGa _ _ _ _ zwf) _ L 32 0 _ X0 rfl (by omega) (fun j hj=>by omega)).trans ?_
 unfold zjT
 exact zPO (zzG _) _ X0 k
theorem zQF{β:Type}(L:Nat)(k:List V→Option β):zq β L k=k (row .u32 init0):=by
 unfold zq zoT
 rw [zg]
 exact (zb ⟨rfl,rfl,by decide⟩ _).trans rfl
theorem zKa{β:Type}{L:Nat}{l:List Int}(hL:l.length+200≤L)(hl:l.length≤100000000)(hb:∀ x∈l,0≤x∧x≤255)(k:List V→Option β):zW β L (yf .u8 l) k=k (row .u8 (zsM l)):=by
 unfold zW zry zw2
 have z64:=zIC l.length
 have hm:=zPi l
 have hlen:(l++zeO l.length).length=l.length+(9+zs l.length):=by rw [Wm,zvc]
 have e0:QG .u64 (((yf .u8 l).length:Nat):Int)=(l.length:Int):=by rw [xr,xW (by omega) (by omega)]
 rw [zb (by simp [xr,xf]; omega),zg,List.nil_append,zg,e0]
 refine (zVQ (by omega) hl _).trans ?_
 rw [zb (by simp [xr,zvc,xf]; omega),zg,zb0]
 refine (zQF L _).trans ?_
 have e1:yd [V.sc (.int .u32 (0:Int)),V.sc (.int .u32 (0:Int)),V.sc (.int .u32 (0:Int)),V.sc (.int .u32 (0:Int)),V.sc (.int .u32 (0:Int)),V.sc (.int .u32 (0:Int)),V.sc (.int .u32 (0:Int)),V.sc (.int .u32 (0:Int))] 0 (row .u32 init0)=row .u32 init0:=zaj rfl
 rw [zb ⟨rfl,by decide⟩,zg,e1]
 refine (zKZ (by omega) (zTd hb) (by omega) hm _ _ L ((l++zeO l.length).length / 64) 0 _ zwf (by omega) (by omega)).trans ?_
 unfold zfw zjK
 have hb8:=zGa ((l++zeO l.length).length / 64) 0 (l++zeO l.length) init0 zwf
 rw [zb (by rw [xk,hb8]; omega),XE (by rw [xk,hb8]; omega),zy8]
 refine (zHm L _ hb8 _ L 8 0 _ X0 rfl (by omega) (fun j hj=>by omega)).trans ?_
 unfold ziq
 exact zPO (zzG _) _ X0 k
def zNS(l:List Int):List Int:=zsM (zsM l)
theorem zMp{w:List Int}(hw:w.length=32):yd (We 32 (Qa (0:Int))) 0 (row .u8 w)=row .u8 w:=zaj (by rw [xk,hw,X0])
theorem zPD{w:List Int}(hw:w.length=32):List.isEmpty (row .u8 w)=false:=by
 rw [List.isEmpty_eq_false_iff]; intro h
 have:=congrArg XK h
 rw [xk,hw] at this; cases this
theorem zTq{β:Type}{L:Nat}{l:List Int}(hL:l.length+300≤L)(hl:l.length≤100000000)(hb:∀ x∈l,0≤x∧x≤255)(k:List V→Option β):zeR β L (yf .u8 l) k=k (row .u8 (zNS l)):=by
 unfold zeR zuL
 have ec:zf 1 32 (row .u8 (zsM l))=yf .u8 (zsM l):=by
  rw [ztM _ _ _ (by rw [zaD]; omega),XE (by rw [zaD]; omega)]
 refine (zMZ (by omega) hl hb _).trans ?_
 rw [zb ⟨by rw [xk,zaD],by decide⟩,zg,zMp (zaD l),zb (by rw [xk,zaD]; omega),zPD (zaD l),zc7,ec]
 refine (zMZ (by rw [zaD]; omega) (by rw [zaD]; omega) (zQc l) _).trans ?_
 rw [zb ⟨by rw [xk,zaD],by decide⟩,zg,zMp (zaD _),zb ⟨rfl,by rw [xk,zaD],by decide⟩]
 exact Eq.trans rfl rfl
theorem zRe{β:Type}{L:Nat}{l:List Int}(hL:l.length+300≤L)(hl:l.length≤100000000)(hb:∀ x∈l,0≤x∧x≤255)(k:List V→Option β):zc5 β L (yf .u8 l) k=k (row .u8 (zNS l)):=by
 unfold zc5 zqI
 have ec:zf 1 32 (row .u8 (zsM l))=yf .u8 (zsM l):=by
  rw [ztM _ _ _ (by rw [zaD]; omega),XE (by rw [zaD]; omega)]
 refine (zKa (by omega) hl hb _).trans ?_
 rw [zb ⟨by rw [xk,zaD],by decide⟩,zg,zMp (zaD l),zb (by rw [xk,zaD]; omega),zPD (zaD l),zc7,ec]
 refine (zKa (by rw [zaD]; omega) (by rw [zaD]; omega) (zQc l) _).trans ?_
 rw [zb ⟨by rw [xk,zaD],by decide⟩,zg,zMp (zaD _),zb ⟨rfl,by rw [xk,zaD],by decide⟩]
 exact Eq.trans rfl rfl
end
section
def frc{α:Type}(n:Nat)(k:Nat→α):α:=Nat.casesOn (motive:=fun _=>α) n (k 0) (fun m=>k (Nat.succ m))
theorem zkS{α:Type}(n:Nat)(k:Nat→α):frc n k=k n:=by cases n <;> rfl
def zmh(a n:Nat):Nat:=Nat.lor (Yk (Ys a (Nat.sub 32 n)) 4294967296) (Yl a n)
def s2N(a b c d:Nat):Nat:=Yk (Yj (Yk (Yj (Yk (Yj a (Ym (Ym (zmh b 7) (zmh b 18)) (Yl b 3))) 4294967296) c) 4294967296) (Ym (Ym (zmh d 17) (zmh d 19)) (Yl d 10))) 4294967296
def t1N(e f g h kk ww:Nat):Nat:=Yk (Yj (Yk (Yj (Yk (Yj (Yk (Yj h (Ym (Ym (zmh e 6) (zmh e 11)) (zmh e 25))) 4294967296) (Ym (Yr e f) (Yr (Ym 4294967295 e) g))) 4294967296) kk) 4294967296) ww) 4294967296
def t2N(a b c:Nat):Nat:=Yk (Yj (Ym (Ym (zmh a 2) (zmh a 13)) (zmh a 22)) (Ym (Ym (Yr a b) (Yr a c)) (Yr b c))) 4294967296
def zlX:Nat→Nat→List Nat→List Nat
 | 0,_,w=>w
 | m+1,t,w=>frc (s2N (w.getD (t-16) 0) (w.getD (t-15) 0) (w.getD (t-7) 0) (w.getD (t-2) 0)) fun x=>zlX m (t+1) (w.set t x)
def zrr(l:List Nat)(t:Nat):Nat:=Yj (Yt (Yj (Yt (Yj (Yt (l.getD (4*t) 0) 256) (l.getD (4*t+1) 0)) 256) (l.getD (4*t+2) 0)) 256) (l.getD (4*t+3) 0)
def znv:Nat→Nat→List Nat→List Nat→List Nat
 | 0,_,_,w=>w
 | m+1,t,l,w=>frc (zrr l t) fun x=>znv m (t+1) l (w.set t x)
def zfj(l:List Nat):List Nat:=zlX 48 16 (znv 16 0 l (We 64 0))
def kcN:List Nat:=[1116352408,1899447441,3049323471,3921009573,961987163,1508970993,2453635748,2870763221,3624381080,310598401,607225278,1426881987,1925078388,2162078206,2614888103,3248222580,3835390401,4022224774,264347078,604807628,770255983,1249150122,1555081692,1996064986,2554220882,2821834349,2952996808,3210313671,3336571891,3584528711,113926993,338241895,666307205,773529912,1294757372,1396182291,1695183700,1986661051,2177026350,2456956037,2730485921,2820302411,3259730800,3345764771,3516065817,3600352804,4094571909,275423344,430227734,506948616,659060556,883997877,958139571,1322822218,1537002063,1747873779,1955562222,2024104815,2227730452,2361852424,2428436474,2756734187,3204031479,3329325298]
def zva(w:List Nat):List Nat→Nat→Nat→Nat→Nat→Nat→Nat→Nat→Nat→Nat→List Nat
 | kk::ks,t,a,b,c,d,e,f,g,h=>frc (t1N e f g h kk (w.getD t 0)) fun x=>frc (Yk (Yj x (t2N a b c)) 4294967296) fun y=>frc (Yk (Yj d x) 4294967296) fun z=>zva w ks (t+1) y a b c z e f g
 | [],_,a,b,c,d,e,f,g,h=>[a,b,c,d,e,f,g,h]
def zGb:List Nat→List Nat→List Nat
 | x::xs,y::ys=>frc (Yk (Yj x y) 4294967296) fun z=>z::zGb xs ys
 | _,_=>[]
def zDR(hs l:List Nat):List Nat:=zGb hs (zva (zfj l) kcN 0 (hs.getD 0 0) (hs.getD 1 0) (hs.getD 2 0) (hs.getD 3 0) (hs.getD 4 0) (hs.getD 5 0) (hs.getD 6 0) (hs.getD 7 0))
def goN:List Nat→Nat→Nat→Nat→Nat→Nat→Nat→Nat→Nat→Nat→Nat→Nat→Nat→Nat→Nat→Nat→Nat→Nat→Nat→Nat→Nat→Nat→Nat→Nat→Nat→List Nat
 | [],_,_,_,_,_,_,_,_,_,_,_,_,_,_,_,_,a,b,c,d,e,f,g,h=>[a,b,c,d,e,f,g,h]
 | kk::ks,w0,w1,w2,w3,w4,w5,w6,w7,w8,w9,w10,w11,w12,w13,w14,w15,a,b,c,d,e,f,g,h=>frc (t1N e f g h kk w0) fun x=>frc (Yk (Yj x (t2N a b c)) 4294967296) fun y=>frc (Yk (Yj d x) 4294967296) fun z=>frc (s2N w0 w1 w9 w14) fun v=>goN ks w1 w2 w3 w4 w5 w6 w7 w8 w9 w10 w11 w12 w13 w14 w15 v y a b c z e f g
def zCK:List Nat→List Nat
 | a::b::c::d::r=>frc (Yj (Yt (Yj (Yt (Yj (Yt a 256) b) 256) c) 256) d) fun w=>w::zCK r
 | _=>[]
def zDY(hs l:List Nat):List Nat:=match hs with
 | a::b::c::d::e::f::g::h::_=>(match zCK l with
  | w0::w1::w2::w3::w4::w5::w6::w7::w8::w9::w10::w11::w12::w13::w14::w15::_=>zGb hs (goN kcN w0 w1 w2 w3 w4 w5 w6 w7 w8 w9 w10 w11 w12 w13 w14 w15 a b c d e f g h)
  | _=>[])
 | _=>[]
def zDN:Nat→Nat→List Nat→List Nat→List Nat
 | 0,_,_,h=>h
 | m+1,i,p,h=>zDN m (i+1) p (zDY h ((p.drop (64*i)).take 64))
def init0N:List Nat:=[1779033703,3144134277,1013904242,2773480762,1359893119,2600822924,528734635,1541459225]
def zg2(x i:Nat):Nat:=Yk (Yl x i) 256
def zDU:List Nat→List Nat
 | []=>[]
 | x::xs=>zg2 x 24::zg2 x 16::zg2 x 8::zg2 x 0::zDU xs
def zTX(n:Nat):List Nat:=[zg2 (8*n) 56,zg2 (8*n) 48,zg2 (8*n) 40,zg2 (8*n) 32,zg2 (8*n) 24,zg2 (8*n) 16,zg2 (8*n) 8,zg2 (8*n) 0]
def zvd(n:Nat):List Nat:=(128::We (zs n) 0)++zTX n
def zsX(l:List Nat):List Nat:=zDU (zDN ((l++zvd l.length).length / 64) 0 (l++zvd l.length) init0N)
def xD(l:List Nat):List Int:=l.map fun (n:Nat)=>(n:Int)
def zgU(l:List Nat):Prop:=∀ x∈l,x<4294967296
theorem zMw(n:Nat):QG .u32 (n:Int)=((Yk n 4294967296:Nat):Int):=by
 show (n:Int) % ((4294967296:Nat):Int)=_
 rw [← Yu]; rfl
theorem zEa(n:Nat)(h:n<4294967296):QG .u32 (n:Int)=(n:Int):=by
 rw [zMw]; congr 1; exact Nat.mod_eq_of_lt h
theorem zGM{a:Nat}(h:a<4294967296):(BitVec.ofInt (XH .u32) (a:Int)).toNat=a:=by
 rw [BitVec.toNat_ofInt]
 show ((a:Int) % ((2 ^ 32:Nat):Int)).toNat=_
 rw [← Yu,XV,Nat.mod_eq_of_lt (by omega)]
theorem zoU{a b:Nat}(ha:a<4294967296)(hb:b<4294967296):Ym a b<4294967296:=Nat.xor_lt_two_pow (n:=32) ha hb
theorem zVf{a b:Nat}(ha:a<4294967296)(hb:b<4294967296):Nat.lor a b<4294967296:=Nat.or_lt_two_pow (n:=32) ha hb
theorem zsc{a b:Nat}(ha:a<4294967296):Yr a b<4294967296:=Nat.lt_of_le_of_lt Nat.and_le_left ha
theorem zll{a b:Nat}(ha:a<4294967296)(hb:b<4294967296):zb3 .u32 (a:Int) (b:Int)=((Ym a b:Nat):Int):=by
 unfold zb3
 rw [BitVec.toNat_xor,zGM ha,zGM hb]
 exact zEa _ (zoU ha hb)
theorem zZR{a b:Nat}(ha:a<4294967296)(hb:b<4294967296):ior .u32 (a:Int) (b:Int)=((Nat.lor a b:Nat):Int):=by
 unfold ior
 rw [BitVec.toNat_or,zGM ha,zGM hb]
 exact zEa _ (zVf ha hb)
theorem zBX{a b:Nat}(ha:a<4294967296)(hb:b<4294967296):zee .u32 (a:Int) (b:Int)=((Yr a b:Nat):Int):=by
 unfold zee
 rw [BitVec.toNat_and,zGM ha,zGM hb]
 exact zEa _ (zsc ha)
theorem zXK{a:Nat}(ha:a<4294967296):zMO .u32 (a:Int)=((Ym 4294967295 a:Nat):Int):=by
 unfold zMO
 rw [BitVec.toNat_xor,zGM ha]
 exact zEa _ (zoU (by decide) ha)
theorem zYS(a n:Nat)(hn:n≤32):zde .u32 (a:Int) (n:Int)=((Yk (Ys a n) 4294967296:Nat):Int):=by
 unfold zde
 have:min (XL (n:Int)) (XH .u32)=n:=by
  rw [XV]; exact Nat.min_eq_left hn
 rw [this,show ((a:Int)*2 ^ n)=((Ys a n:Nat):Int) by
  rw [show Ys a n=a <<< n from rfl,Nat.shiftLeft_eq,Int.natCast_mul,Int.natCast_pow]; rfl]
 exact zMw _
theorem zHB(k:IntKind)(a n:Nat)(hn:n≤k.bits):zb1 k (a:Int) (n:Int)=((Yl a n:Nat):Int):=by
 unfold zb1
 have:min (XL (n:Int)) k.bits=n:=by
  rw [XV]; exact Nat.min_eq_left hn
 rw [this,show Yl a n=a >>> n from rfl,Nat.shiftRight_eq_div_pow]
 rw [show ((2:Int) ^ n)=((2 ^ n:Nat):Int) by rw [Int.natCast_pow]; rfl]
 rw [Int.fdiv_eq_ediv_of_nonneg _ (Int.natCast_nonneg _)]
 exact Int.natCast_ediv a (2 ^ n) |>.symm
theorem m32(n:Nat):Yk n 4294967296<4294967296:=Nat.mod_lt _ (by decide)
theorem zG1{a:Nat}(h:a<4294967296)(n:Nat):Yl a n<4294967296:=Nat.lt_of_le_of_lt (Nat.shiftRight_le a n) h
theorem zcw{a:Nat}(h:a<4294967296)(n:Nat):zmh a n<4294967296:=zVf (m32 _) (zG1 h n)
def rk(n:Nat):Prop:=zee .u64 (QG .u64 (QG .i64 (0-(n:Int)))) 31=((Nat.sub 32 n:Nat):Int)∧QG .u64 (32-((Nat.sub 32 n:Nat):Int))=(n:Int)∧n≤32
theorem zRk{a n:Nat}(ha:a<4294967296)(hk:rk n):zem (a:Int) (n:Int)=((zmh a n:Nat):Int):=by
 obtain ⟨h1,h2,h3⟩:=hk
 unfold zem zmh
 rw [h1,h2,zYS _ _ (by show 32-n≤32; omega),zHB .u32 _ _ h3,zZR (m32 _) (zG1 ha n)]
theorem rk7:rk 7:=by unfold rk; decide +kernel
theorem zZ2:rk 18:=by unfold rk; decide +kernel
theorem z0h:rk 17:=by unfold rk; decide +kernel
theorem zZ9:rk 19:=by unfold rk; decide +kernel
theorem rk6:rk 6:=by unfold rk; decide +kernel
theorem z0l:rk 11:=by unfold rk; decide +kernel
theorem zZX:rk 25:=by unfold rk; decide +kernel
theorem rk2:rk 2:=by unfold rk; decide +kernel
theorem zZ7:rk 13:=by unfold rk; decide +kernel
theorem zZY:rk 22:=by unfold rk; decide +kernel
theorem zpy(a b:Nat):QG .u32 ((a:Int)+(b:Int))=((Yk (Yj a b) 4294967296:Nat):Int):=by
 rw [← Int.natCast_add]; exact zMw _
theorem zsm(l:List Nat)(i:Nat):(xD l).getD i 0=((l.getD i 0:Nat):Int):=by
 simp only [xD,Ws,WJ]
 cases l[i]? <;> rfl
theorem zIs{l:List Nat}(h:zgU l)(i:Nat):l.getD i 0<4294967296:=by
 rw [Ws]
 by_cases hi:i<l.length
 ·rw [Wc hi]; exact h _ (List.getElem_mem hi)
 ·rw [Q3 (by omega)]; simp
theorem z0n{w:List Nat}(h:zgU w)(t:Nat):s2 (xD w) t=((s2N (w.getD (t-16) 0) (w.getD (t-15) 0) (w.getD (t-7) 0) (w.getD (t-2) 0):Nat):Int):=by
 have r:∀ {a n:Nat},a<4294967296→rk n→zem (a:Int) (n:Int)=((zmh a n:Nat):Int):=zRk
 have h1:=zIs h (t-15)
 have h2:=zIs h (t-2)
 unfold s2 s2N
 simp only [zsm]
 generalize w.getD (t-16) 0=a at *
 generalize w.getD (t-15) 0=b at *
 generalize w.getD (t-7) 0=c at *
 generalize w.getD (t-2) 0=d at *
 rw [show zem (b:Int) 7=_ from r h1 rk7,show zem (b:Int) 18=_ from r h1 zZ2,show zem (d:Int) 17=_ from r h2 z0h,show zem (d:Int) 19=_ from r h2 zZ9,
  show zb1 .u32 (b:Int) 3=_ from zHB .u32 b 3 (by decide),show zb1 .u32 (d:Int) 10=_ from zHB .u32 d 10 (by decide),
  zll (zcw h1 _) (zcw h1 _),zll (zoU (zcw h1 _) (zcw h1 _)) (zG1 h1 _),zll (zcw h2 _) (zcw h2 _),zll (zoU (zcw h2 _) (zcw h2 _)) (zG1 h2 _),
  zpy,zpy,zpy]
theorem z0r{e f g h kk ww:Nat}(he:e<4294967296)(hf:f<4294967296)(hg:g<4294967296):t1 (e:Int) (f:Int) (g:Int) (h:Int) (kk:Int) (ww:Int)=((t1N e f g h kk ww:Nat):Int):=by
 have r:∀ {a n:Nat},a<4294967296→rk n→zem (a:Int) (n:Int)=((zmh a n:Nat):Int):=zRk
 unfold t1 t1N
 rw [show zem (e:Int) 6=_ from r he rk6,show zem (e:Int) 11=_ from r he z0l,show zem (e:Int) 25=_ from r he zZX,
  zll (zcw he _) (zcw he _),zll (zoU (zcw he _) (zcw he _)) (zcw he _),zBX he hf,zXK he,zBX (zoU (by decide) he) hg,zll (zsc he) (zsc (zoU (by decide) he)),
  zpy,zpy,zpy,zpy]
theorem zZ0{a b c:Nat}(ha:a<4294967296)(hb:b<4294967296)(hc:c<4294967296):t2 (a:Int) (b:Int) (c:Int)=((t2N a b c:Nat):Int):=by
 have r:∀ {a n:Nat},a<4294967296→rk n→zem (a:Int) (n:Int)=((zmh a n:Nat):Int):=zRk
 unfold t2 t2N
 rw [show zem (a:Int) 2=_ from r ha rk2,show zem (a:Int) 13=_ from r ha zZ7,show zem (a:Int) 22=_ from r ha zZY,
  zll (zcw ha _) (zcw ha _),zll (zoU (zcw ha _) (zcw ha _)) (zcw ha _),zBX ha hb,zBX ha hc,zBX hb hc,zll (zsc ha) (zsc ha),zll (zoU (zsc ha) (zsc ha)) (zsc hb),
  zpy]
theorem zMF(l:List Nat)(i x:Nat):(xD l).set i (x:Int)=xD (l.set i x):=by simp only [xD,List.map_set]
theorem zLd{l:List Nat}(h:zgU l)(i:Nat){x:Nat}(hx:x<4294967296):zgU (l.set i x):=fun y hy=>by
 rcases List.mem_or_eq_of_mem_set hy with h' | rfl
 ·exact h y h'
 ·exact hx
theorem zRV:∀ (m t:Nat) (w:List Nat),zgU w→zDr m t (xD w)=xD (zlX m t w)∧zgU (zlX m t w)
 | 0,_,_,h=>⟨rfl,h⟩
 | m+1,t,w,h=>by
  simp only [zDr,zlX,zkS]
  rw [z0n h,zMF]
  exact zRV m (t+1) _ (zLd h _ (m32 _))
theorem zYu(l:List Nat)(t:Nat):zAq (xD l) t=((zrr l t:Nat):Int):=by
 unfold zAq zrr
 simp only [zsm]
 simp only [show ∀ a b:Nat,Yj a b=a+b from fun _ _=>rfl,show ∀ a b:Nat,Yt a b=a*b from fun _ _=>rfl]
 omega
def zdj(l:List Nat):Prop:=∀ x∈l,x≤255
theorem ztX{l:List Nat}(h:zdj l)(i:Nat):l.getD i 0≤255:=by
 rw [Ws]
 by_cases hi:i<l.length
 ·rw [Wc hi]; exact h _ (List.getElem_mem hi)
 ·rw [Q3 (by omega)]; simp
theorem zUI{l:List Nat}(h:zdj l)(t:Nat):zrr l t<4294967296:=by
 have h0:=ztX h (4*t)
 have h1:=ztX h (4*t+1)
 have h2:=ztX h (4*t+2)
 have h3:=ztX h (4*t+3)
 unfold zrr
 simp only [show ∀ a b:Nat,Yj a b=a+b from fun _ _=>rfl,show ∀ a b:Nat,Yt a b=a*b from fun _ _=>rfl]
 omega
theorem zSI{l:List Nat}(hl:zdj l):∀ (m t:Nat) (w:List Nat),zgU w→zCV m t (xD l) (xD w)=xD (znv m t l w)∧zgU (znv m t l w)
 | 0,_,_,h=>⟨rfl,h⟩
 | m+1,t,w,h=>by
  simp only [zCV,znv,zkS]
  rw [zYu,zMF]
  exact zSI hl m (t+1) _ (zLd h _ (zUI hl t))
theorem zR5(n:Nat):zgU (We n 0):=fun x hx=>by rw [(Yx.1 hx).2]; decide
theorem zWe{l:List Nat}(hl:zdj l):znF (xD l)=xD (zfj l)∧zgU (zfj l):=by
 unfold znF zfj
 have e:We 64 (0:Int)=xD (We 64 0):=by simp [xD]
 obtain ⟨h1,h2⟩:=zSI hl 16 0 _ (zR5 64)
 rw [e,h1]
 exact zRV 48 16 _ h2
theorem z0m:kc=xD kcN:=by kernel_rfl
def Sm8(a b c d e f g h:Nat):Prop:=a<4294967296∧b<4294967296∧c<4294967296∧d<4294967296∧e<4294967296∧f<4294967296∧g<4294967296∧h<4294967296
theorem zPw{w:List Nat}(hs:List Int):∀ (ks:List Nat) (t a b c d e f g h:Nat),kcN.drop t=ks→t+ks.length=64→Sm8 a b c d e f g h →
  ∃ a' b' c' d' e' f' g' h',zva w ks t a b c d e f g h=[a',b',c',d',e',f',g',h']∧ztC (xD w) (ztI hs) ks.length t (a:Int) b c d e f g h=ztI hs a' b' c' d' e' f' g' h'
 | [],t,a,b,c,d,e,f,g,h,_,_,_=>⟨a,b,c,d,e,f,g,h,rfl,rfl⟩
 | kk::ks,t,a,b,c,d,e,f,g,h,hk,hl,hs8=>by
  obtain ⟨ha,hb,hc,hd,he,hf,hg,hh⟩:=hs8
  have hlt:t<kcN.length:=by show t<64; simp at hl; omega
  have hd':=List.drop_eq_getElem_cons hlt
  rw [hk] at hd'
  have hkk:kcN.getD t 0=kk:=by
   rw [Ws,Wc hlt]
   exact (List.cons.inj hd').1.symm
  simp only [zva,zkS,XS,ztC]
  rw [show kc.getD t 0=(kk:Int) by rw [z0m,zsm,hkk],zsm,z0r he hf hg,zZ0 ha hb hc,zpy,zpy]
  exact zPw hs ks (t+1) _ a b c _ e f g (List.cons.inj hd').2.symm (by simp at hl; omega) ⟨m32 _,ha,hb,hc,m32 _,he,hf,hg⟩
theorem zQG{l:List Nat}(h:l.length=8):∃ a b c d e f g i,l=[a,b,c,d,e,f,g,i]:=by
 match l,h with
 | [a,b,c,d,e,f,g,i],_=>exact ⟨a,b,c,d,e,f,g,i,rfl⟩
theorem zWx{hs l:List Nat}(h8:hs.length=8)(hsm:zgU hs)(hl:zdj l):zzU (xD hs) (xD l)=xD (zDR hs l)∧(zDR hs l).length=8∧zgU (zDR hs l):=by
 obtain ⟨a,b,c,d,e,f,g,h,rfl⟩:=zQG h8
 unfold zzU zDR
 rw [(zWe hl).1]
 have sm:Sm8 a b c d e f g h:=⟨hsm _ (by simp),hsm _ (by simp),hsm _ (by simp),hsm _ (by simp),hsm _ (by simp),hsm _ (by simp),hsm _ (by simp),hsm _ (by simp)⟩
 obtain ⟨a',b',c',d',e',f',g',h',e1,e2⟩:=zPw (w:=zfj l) (xD [a,b,c,d,e,f,g,h]) kcN 0 a b c d e f g h rfl rfl sm
 simp only [Yw,Yn,xD,QW,Yp] at e2 ⊢
 refine ⟨?_,?_,?_⟩
 ·refine Eq.trans e2 ?_
  rw [e1]
  simp only [ztI,zGb,zkS,Yw,Yn,zpy,QW,Yp]
 ·rw [e1]; simp only [zGb,zkS]; rfl
 ·rw [e1]; simp only [zGb,zkS]
  intro x hx
  simp only [Q9,List.not_mem_nil,or_false] at hx
  rcases hx with rfl | rfl | rfl | rfl | rfl | rfl | rfl | rfl <;> exact m32 _
theorem zFe{w:List Nat}{t:Nat}(h:t<w.length)(x:Nat):(w.set t x).getD t 0=x:=by
 simp [Ws,h]
theorem zFF{w:List Nat}{t i:Nat}(h:t≠i)(x:Nat):(w.set t x).getD i 0=w.getD i 0:=by
 simp [Ws,List.getElem?_set_ne h]
theorem zCc:∀ (m t:Nat) (w:List Nat),w.length=64→16≤t→t+m≤64→(∀ i,i<t→(zlX m t w).getD i 0=w.getD i 0) ∧
  ∀ i,t≤i→i<t+m→(zlX m t w).getD i 0=s2N ((zlX m t w).getD (i-16) 0) ((zlX m t w).getD (i-15) 0) ((zlX m t w).getD (i-7) 0) ((zlX m t w).getD (i-2) 0)
 | 0,t,w,_,_,_=>⟨fun _ _=>rfl,fun i h1 h2=>by omega⟩
 | m+1,t,w,hw,h16,hm=>by
  simp only [zlX,zkS]
  obtain ⟨g1,g2⟩:=zCc m (t+1) (w.set t (s2N (w.getD (t-16) 0) (w.getD (t-15) 0) (w.getD (t-7) 0) (w.getD (t-2) 0))) (by simpa using hw) (by omega) (by omega)
  have low:∀ i,i<t→(zlX m (t+1) (w.set t (s2N (w.getD (t-16) 0) (w.getD (t-15) 0) (w.getD (t-7) 0) (w.getD (t-2) 0)))).getD i 0=w.getD i 0:=fun i hi=>by
   rw [g1 i (by omega),zFF (by omega)]
  refine ⟨low,fun i h1 h2=>?_⟩
  by_cases e:i=t
  ·subst e
   rw [low (i-16) (by omega),low (i-15) (by omega),low (i-7) (by omega),low (i-2) (by omega),g1 i (by omega),zFe (by omega)]
  ·exact g2 i (by omega) (by omega)
theorem zK9(l:List Nat):∀ (m t:Nat) (w:List Nat),w.length=64→t+m≤64→(∀ i,i<t→(znv m t l w).getD i 0=w.getD i 0)∧∀ i,t≤i→i<t+m→(znv m t l w).getD i 0=zrr l i
 | 0,t,w,_,_=>⟨fun _ _=>rfl,fun i h1 h2=>by omega⟩
 | m+1,t,w,hw,hm=>by
  simp only [znv,zkS]
  obtain ⟨g1,g2⟩:=zK9 l m (t+1) (w.set t (zrr l t)) (by simpa using hw) (by omega)
  refine ⟨fun i hi=>by rw [g1 i (by omega),zFF (by omega)],fun i h1 h2=>?_⟩
  by_cases e:i=t
  ·subst e; rw [g1 i (by omega),zFe (by omega)]
  ·exact g2 i (by omega) (by omega)
theorem zCB(l:List Nat):∀ (m t:Nat) (w:List Nat),(znv m t l w).length=w.length
 | 0,_,_=>rfl
 | m+1,t,w=>by simp only [znv,zkS]; rw [zCB]; simp
theorem zRJ(l:List Nat){i:Nat}(h:i<16):(zfj l).getD i 0=zrr l i:=by
 unfold zfj
 have hl:(znv 16 0 l (We 64 0)).length=64:=by rw [zCB]; simp
 rw [(zCc 48 16 _ hl (by omega) (by omega)).1 i h]
 exact (zK9 l 16 0 _ (by simp) (by omega)).2 i (by omega) (by omega)
theorem zOY(l:List Nat){i:Nat}(h1:16≤i)(h2:i<64):(zfj l).getD i 0=s2N ((zfj l).getD (i-16) 0) ((zfj l).getD (i-15) 0) ((zfj l).getD (i-7) 0) ((zfj l).getD (i-2) 0):=by
 have hl:(znv 16 0 l (We 64 0)).length=64:=by rw [zCB]; simp
 exact (zCc 48 16 _ hl (by omega) (by omega)).2 i h1 (by omega)
theorem zHz:∀ (n:Nat) (l:List Nat),l.length=4*n→(zCK l).length=n∧∀ i,i<n→(zCK l).getD i 0=zrr l i
 | 0,l,h=>by
  have:l=[]:=List.length_eq_zero_iff.1 (by omega)
  subst this
  exact ⟨rfl,fun i hi=>by omega⟩
 | n+1,l,h=>by
  match l,h with
  | a::b::c::d::r,h=>
   obtain ⟨g1,g2⟩:=zHz n r (by simp at h; omega)
   simp only [zCK,zkS]
   refine ⟨by simp [g1],fun i hi=>?_⟩
   match i with
   | 0=>rfl
   | i+1=>
    rw [Yn,g2 i (by omega)]
    unfold zrr
    rw [show 4*(i+1)+1=(4*i+1)+1+1+1+1 by omega,show 4*(i+1)+2=(4*i+2)+1+1+1+1 by omega,show 4*(i+1)+3=(4*i+3)+1+1+1+1 by omega,show 4*(i+1)=4*i+1+1+1+1 by omega]
    simp only [Yn]
theorem zSL(l:List Nat):∀ (ks:List Nat) (t w0 w1 w2 w3 w4 w5 w6 w7 w8 w9 w10 w11 w12 w13 w14 w15 a b c d e f g h:Nat),t+ks.length=64→(∀ i,i<16→t+i<64→([w0,w1,w2,w3,w4,w5,w6,w7,w8,w9,w10,w11,w12,w13,w14,w15]:List Nat).getD i 0=(zfj l).getD (t+i) 0)→goN ks w0 w1 w2 w3 w4 w5 w6 w7 w8 w9 w10 w11 w12 w13 w14 w15 a b c d e f g h=zva (zfj l) ks t a b c d e f g h
 | [],t,w0,w1,w2,w3,w4,w5,w6,w7,w8,w9,w10,w11,w12,w13,w14,w15,a,b,c,d,e,f,g,h,_,_=>rfl
 | kk::ks,t,w0,w1,w2,w3,w4,w5,w6,w7,w8,w9,w10,w11,w12,w13,w14,w15,a,b,c,d,e,f,g,h,ht,hw=>by
  simp only [XS] at ht
  simp only [goN,zva,zkS]
  rw [show (zfj l).getD t 0=w0 from (hw 0 (by omega) (by omega)).symm]
  refine zSL l ks (t+1) _ _ _ _ _ _ _ _ _ _ _ _ _ _ _ _ _ _ _ _ _ _ _ _ (by omega) fun i hi hlt=>?_
  have e:∀ v:Nat,([w1,w2,w3,w4,w5,w6,w7,w8,w9,w10,w11,w12,w13,w14,w15,v]:List Nat).getD i 0=(([w0,w1,w2,w3,w4,w5,w6,w7,w8,w9,w10,w11,w12,w13,w14,w15]:List Nat)++[v]).getD (i+1) 0:=fun v=>rfl
  rw [e]
  by_cases h15:i<15
  ·rw [Ws,List.getElem?_append_left (by show i+1<16; omega),← Ws,hw (i+1) (by omega) (by omega),show t+(i+1)=t+1+i by omega]
  ·have:i=15:=by omega
   subst this
   show s2N w0 w1 w9 w14=_
   rw [show t+1+15=t+16 by omega,zOY l (by omega) (by omega)]
   rw [show t+16-16=t+0 by omega,show t+16-15=t+1 by omega,show t+16-7=t+9 by omega,show t+16-2=t+14 by omega]
   rw [← hw 0 (by omega) (by omega),← hw 1 (by omega) (by omega),← hw 9 (by omega) (by omega),← hw 14 (by omega) (by omega)]
   rfl
theorem zYJ{l:List Nat}(h:l.length=16):∃ w0 w1 w2 w3 w4 w5 w6 w7 w8 w9 w10 w11 w12 w13 w14 w15,l=[w0,w1,w2,w3,w4,w5,w6,w7,w8,w9,w10,w11,w12,w13,w14,w15]:=by
 match l,h with
 | [w0,w1,w2,w3,w4,w5,w6,w7,w8,w9,w10,w11,w12,w13,w14,w15],_=>exact ⟨w0,w1,w2,w3,w4,w5,w6,w7,w8,w9,w10,w11,w12,w13,w14,w15,rfl⟩
theorem zTZ{hs l:List Nat}(h8:hs.length=8)(hl:l.length=64):zDY hs l=zDR hs l:=by
 obtain ⟨a,b,c,d,e,f,g,h,rfl⟩:=zQG h8
 obtain ⟨g1,g2⟩:=zHz 16 l (by omega)
 obtain ⟨w0,w1,w2,w3,w4,w5,w6,w7,w8,w9,w10,w11,w12,w13,w14,w15,hw⟩:=zYJ g1
 unfold zDY zDR
 simp only [hw]
 refine congrArg (zGb [a,b,c,d,e,f,g,h]) (?_:goN kcN w0 w1 w2 w3 w4 w5 w6 w7 w8 w9 w10 w11 w12 w13 w14 w15 a b c d e f g h=zva (zfj l) kcN 0 a b c d e f g h)
 refine zSL l kcN 0 _ _ _ _ _ _ _ _ _ _ _ _ _ _ _ _ _ _ _ _ _ _ _ _ rfl fun i hi _=>?_
 rw [WB,zRJ l hi,← g2 i hi,hw]
theorem zYz{hs l:List Nat}(h8:hs.length=8)(hsm:zgU hs)(hl:zdj l)(h64:l.length=64):zzU (xD hs) (xD l)=xD (zDY hs l)∧(zDY hs l).length=8∧zgU (zDY hs l):=by
 rw [zTZ h8 h64]; exact zWx h8 hsm hl
theorem zQS(l:List Nat)(n m:Nat):((xD l).drop n).take m=xD ((l.drop n).take m):=by simp only [xD,List.map_drop,List.map_take]
theorem zTk{l:List Nat}(h:zdj l)(n m:Nat):zdj ((l.drop n).take m):=fun x hx=>h x (WU (WV hx))
theorem zSc{p:List Nat}(hp:zdj p):∀ (m i:Nat) (h:List Nat),64*(i+m)≤p.length→h.length=8→zgU h→zDk m i (xD p) (xD h)=xD (zDN m i p h)∧(zDN m i p h).length=8∧zgU (zDN m i p h)
 | 0,_,_,_,h1,h2=>⟨rfl,h1,h2⟩
 | m+1,i,h,hl,h1,h2=>by
  simp only [zDk,zDN]
  obtain ⟨e1,e2,e3⟩:=zYz h1 h2 (zTk hp (64*i) 64) (by rw [List.length_take,XU]; omega)
  rw [zQS,e1]
  exact zSc hp m (i+1) _ (by omega) e2 e3
theorem zSb:init0=xD init0N∧init0N.length=8:=⟨by kernel_rfl,rfl⟩
theorem zQJ:zgU init0N:=by
 have:init0N.all (fun x=>decide (x<4294967296))=true:=by kernel_rfl
 intro x hx
 simpa using List.all_eq_true.1 this x hx
theorem zSC(k:IntKind)(x i:Nat)(hi:i≤k.bits):QG .u8 (zb1 k (x:Int) ((i:Nat):Int))=((zg2 x i:Nat):Int):=by
 rw [zHB k _ _ hi]
 show ((Yl x i:Nat):Int) % ((256:Nat):Int)=_
 rw [← Yu]; rfl
theorem zYc{h:List Nat}(h8:h.length=8):zss (xD h)=xD (zDU h):=by
 obtain ⟨a,b,c,d,e,f,g,i,rfl⟩:=zQG h8
 have q:∀ (x j:Nat),j≤32→QG .u8 (zb1 .u32 (x:Int) ((j:Nat):Int))=((zg2 x j:Nat):Int):=fun x j hj=>zSC .u32 x j hj
 have r:List.range 32=[0,1,2,3,4,5,6,7,8,9,10,11,12,13,14,15,16,17,18,19,20,21,22,23,24,25,26,27,28,29,30,31]:=by kernel_rfl
 simp only [zss,r,QW,Yp,ob,zsm]
 simp only [zDU,xD,QW,Yp]
 rw [← q a 24 (by decide),← q a 16 (by decide),← q a 8 (by decide),← q a 0 (by decide),← q b 24 (by decide),← q b 16 (by decide),← q b 8 (by decide),← q b 0 (by decide),← q c 24 (by decide),← q c 16 (by decide),← q c 8 (by decide),← q c 0 (by decide),← q d 24 (by decide),← q d 16 (by decide),← q d 8 (by decide),← q d 0 (by decide),← q e 24 (by decide),← q e 16 (by decide),← q e 8 (by decide),← q e 0 (by decide),← q f 24 (by decide),← q f 16 (by decide),← q f 8 (by decide),← q f 0 (by decide),← q g 24 (by decide),← q g 16 (by decide),← q g 8 (by decide),← q g 0 (by decide),← q i 24 (by decide),← q i 16 (by decide),← q i 8 (by decide),← q i 0 (by decide)]
 rfl
theorem zux(x i:Nat):zg2 x i≤255:=by
 have:zg2 x i<256:=Nat.mod_lt _ (by decide)
 omega
theorem zFx:∀ l:List Nat,zdj (zDU l)
 | []=>fun x hx=>by cases hx
 | y::ys=>fun x hx=>by
  simp only [zDU,Q9] at hx
  rcases hx with rfl | rfl | rfl | rfl | h
  ·exact zux _ _
  ·exact zux _ _
  ·exact zux _ _
  ·exact zux _ _
  ·exact zFx ys x h
theorem zDe{n:Nat}(hn:n≤100000000)(i:Nat)(hi:i≤7):pb n i=((zg2 (8*n) (56-8*i):Nat):Int):=by
 unfold pb
 have:QG .u64 ((8:Int)*(n:Int))=((8*n:Nat):Int):=by
  show ((8:Int)*(n:Int)) % ((18446744073709551616:Nat):Int)=_
  omega
 rw [this]
 exact zSC .u64 _ _ (by show 56-8*i≤64; omega)
theorem zZq{n:Nat}(hn:n≤100000000):zeO n=xD (zvd n):=by
 unfold zeO zvd
 simp only [xD,List.map_append,QW,List.map_replicate]
 congr 1
 simp only [pbs,zTX,QW,Yp]
 rw [zDe hn 0 (by decide),zDe hn 1 (by decide),zDe hn 2 (by decide),zDe hn 3 (by decide),zDe hn 4 (by decide),zDe hn 5 (by decide),zDe hn 6 (by decide),zDe hn 7 (by decide)]
theorem zRD(n:Nat):zdj (zvd n):=by
 intro x hx
 simp only [zvd,zTX,QD,Q9,List.not_mem_nil,or_false] at hx
 rcases hx with (rfl | h) | h
 ·decide
 ·rw [(Yx.1 h).2]; decide
 ·rcases h with rfl | rfl | rfl | rfl | rfl | rfl | rfl | rfl <;> exact zux _ _
theorem zMj{l:List Nat}(hn:l.length≤100000000)(hl:zdj l):zsM (xD l)=xD (zsX l)∧zdj (zsX l):=by
 have e:xD l++zeO (xD l).length=xD (l++zvd l.length):=by
  rw [show (xD l).length=l.length by simp [xD],zZq hn]; simp [xD]
 have hb:zdj (l++zvd l.length):=fun x hx=>(QD.1 hx).elim (hl x) (zRD _ x)
 unfold zsM zsX
 rw [e,show (xD (l++zvd l.length)).length=(l++zvd l.length).length by simp [xD],zSb.1]
 obtain ⟨e1,e2,e3⟩:=zSc hb ((l++zvd l.length).length / 64) 0 init0N (by rw [WB]; exact Nat.mul_div_le _ _) zSb.2 zQJ
 rw [e1,zYc e2]
 exact ⟨rfl,zFx _⟩
theorem zIc:∀ {l:List Int},(∀ x∈l,0≤x∧x≤255)→l=xD (l.map XL)
 | [],_=>rfl
 | x::l,h=>by
  have hx:=h x (by simp)
  simp only [xD,QW]
  rw [show ((x.toNat:Nat):Int)=x by omega]
  congr 1
  exact zIc fun y hy=>h y (by simp [hy])
theorem zOF{l:List Int}(h:∀ x∈l,0≤x∧x≤255):zdj (l.map XL):=fun x hx=>by
 obtain ⟨y,hy,rfl⟩:=Xy.1 hx
 have:=h y hy
 omega
def zzC(l:List Nat):List Nat:=zsX (zsX l)
theorem zZD{l:List Int}(hn:l.length≤100000000)(h:∀ x∈l,0≤x∧x≤255):zNS l=xD (zzC (l.map XL)):=by
 have e:=zIc h
 have hb:=zOF h
 generalize hm:l.map XL=m at *
 have hlen:m.length≤100000000:=by rw [← hm]; simpa using hn
 subst e
 unfold zNS zzC
 obtain ⟨e1,e2⟩:=zMj hlen hb
 rw [e1]
 have h32:(zsX m).length=32:=by
  have:=zaD (xD m)
  rw [e1] at this; simpa [xD] using this
 exact (zMj (by rw [h32]; decide) e2).1
end
section
theorem zvi{T:Nat→Option CF}{L g D:Nat}{d d':Dk}(h:FOk T L g d D)(hd:DK d' d):FOk T L g d' D:=fun n hn β args bor k r hr=>h n hn β args bor k r (hd _ _ _ _ _ hr)
def zHY:Ls→Option (List Nat)
 | []=>some []
 | [.sc (.int .u8 (.ofNat n))]::r=>match Nat.ble n 255 with
  | true=>(zHY r).map (n::·)
  | false=>none
 | _=>none
theorem zHl:∀ {es:Ls} {l:List Nat},zHY es=some l→es=yf .u8 (xD l)∧zdj l
 | [],l,h=>by cases h; exact ⟨rfl,fun x hx=>by cases hx⟩
 | e::r,l,h=>by
  unfold zHY at h
  split at h
  ·rename_i he; cases he
  ·rename_i n r' he
   cases he
   split at h
   ·rename_i hn
    rw [Option.map_eq_some_iff] at h
    obtain ⟨m,hm,rfl⟩:=h
    obtain ⟨e1,e2⟩:=zHl hm
    refine ⟨by rw [e1]; rfl,fun x hx=>?_⟩
    rcases Q9.1 hx with rfl | h'
    ·exact Yo hn
    ·exact e2 x h'
   ·cases h
  ·cases h
def zUl(l:List Nat):List V:=l.map fun n=>V.sc (.int .u8 (.ofNat n))
theorem zWz(l:List Nat):zUl l=row .u8 (xD l):=by
 simp only [zUl,row,xD,List.map_map]; rfl
def zkd(f:List Nat→List Nat)(L:Nat):Dk:=fun β a b k=>match a with
 | [.sl 1 es]=>(match b with
  | []=>(match zHY es with
   | some l=>(match Nat.ble (l.length+300) L&&Nat.ble l.length 100000000 with
    | true=>k (.agg (zUl (f l))) []
    | false=>none)
   | none=>none)
  | _=>none)
 | _=>none
theorem zwg{f:List Nat→List Nat}{L:Nat}{β:Type}{a:List V}{b:Bor}{k:V→Bor→Option β}{r:β}(h:zkd f L β a b k=some r):∃ l,a=[.sl 1 (yf .u8 (xD l))]∧b=[]∧zdj l∧l.length+300≤L∧l.length≤100000000∧k (.agg (row .u8 (xD (f l)))) []=some r:=by
 unfold zkd at h
 split at h
 ·split at h
  ·split at h
   ·rename_i l hl
    split at h
    ·rename_i hc
     rw [Wh] at hc
     obtain ⟨rfl,hb⟩:=zHl hl
     exact ⟨l,rfl,rfl,hb,Yo hc.1,Yo hc.2,by rw [← zWz]; exact h⟩
    ·cases h
   ·cases h
  ·cases h
 ·cases h
theorem zhg(l:List Nat):(xD l).length=l.length:=by simp [xD]
theorem zur{l:List Nat}(h:zdj l):∀ x∈xD l,0≤x∧x≤255:=fun x hx=>by
 obtain ⟨y,hy,rfl⟩:=Xy.1 hx
 have:=h y hy
 omega
theorem zSJ(l:List Nat):(xD l).map XL=l:=by
 simp only [xD,List.map_map]
 exact (List.map_congr_left fun x _=>(by simp:(XL ∘ fun (n:Nat)=>(n:Int)) x=id x)).trans (List.map_id l)
theorem zVm{l:List Nat}(hn:l.length≤100000000)(h:zdj l):zNS (xD l)=xD (zzC l):=by
 have:=zZD (l:=xD l) (by rw [zhg]; exact hn) (zur h)
 rwa [zSJ] at this
theorem zEs(L:Nat):DK (zkd zzC L) (zqZ zc5 L):=by
 intro β a b k r h
 obtain ⟨l,rfl,rfl,hb,h1,h2,hk⟩:=zwg h
 show zc5 β L (yf .u8 (xD l)) (fun p0=>k (V.agg p0) [])=some r
 rw [zRe (by rw [zhg]; omega) (by rw [zhg]; omega) (zur hb),zVm h2 hb]; exact hk
theorem zJc(L:Nat):DK (zkd zsX L) (zrt zW L):=by
 intro β a b k r h
 obtain ⟨l,rfl,rfl,hb,h1,h2,hk⟩:=zwg h
 show zW β L (yf .u8 (xD l)) (fun p0=>k (V.agg p0) [])=some r
 rw [zKa (by rw [zhg]; omega) (by rw [zhg]; omega) (zur hb),(zMj h2 hb).1]; exact hk
theorem zHv(L:Nat):DK (zkd zzC L) (zu9 zeR L):=by
 intro β a b k r h
 obtain ⟨l,rfl,rfl,hb,h1,h2,hk⟩:=zwg h
 show zeR β L (yf .u8 (xD l)) (fun p0=>k (V.agg p0) [])=some r
 rw [zTq (by rw [zhg]; omega) (by rw [zhg]; omega) (zur hb),zVm h2 hb]; exact hk
theorem zM9(L:Nat):DK (zkd zsX L) (zvW zaw L):=by
 intro β a b k r h
 obtain ⟨l,rfl,rfl,hb,h1,h2,hk⟩:=zwg h
 show zaw β L (yf .u8 (xD l)) (fun p0=>k (V.agg p0) [])=some r
 rw [zMZ (by rw [zhg]; omega) (by rw [zhg]; omega) (zur hb),(zMj h2 hb).1]; exact hk
end
section
theorem zVK(β:Type)(n:Nat)(k:List V→Int→Option β):zej β (n+300) 545259519 k=k [.sc (.int .u64 0),.sc (.int .u64 0),.sc (.int .u64 0),.sc (.int .u64 9223370937343148032)] 0:=by kernel_rfl
def zRt(L:Nat):Dk:=dA (AI .u32) fun x=>d0 fun β k=>chk (x=545259519∧300≤L) (k (.tup [.agg [.sc (.int .u64 0),.sc (.int .u64 0),.sc (.int .u64 0),.sc (.int .u64 9223370937343148032)],.sc (.int .i64 0)]) [])
theorem zEq(L:Nat):DK (zRt L) (zqP zej L):=by
 refine xo z8 fun x=>?_
 intro β a b k r h
 obtain ⟨rfl,rfl,h2⟩:=zOq h
 obtain ⟨hc,h3⟩:=xq h2
 obtain ⟨rfl,hL⟩:=hc
 obtain ⟨n,rfl⟩:∃ n,L=n+300:=⟨L-300,by omega⟩
 show zej β (n+300) 545259519 (fun p0 p1=>k (V.tup [V.agg p0,V.sc (.int .i64 p1)]) [])=some r
 rw [zVK]; exact h3
end
section
noncomputable section
theorem za1{P:Program}{ren:Rn}{fg:List (Nat × Nat)}{l m:List (Nat × Nat × Hint)}(z:zdc P ren fg l=true)(A:zdc P ren fg m=true):zdc P ren fg (l++m)=true:=by
 unfold zdc at *
 rw [List.all_append,z,A]; rfl
def rh0:List (Nat × Nat × Hint):=[(150,531,zx3),(151,532,zsp),(192,572,ziw),(178,571,zwn),(176,569,zqq),(177,570,zpO),(152,533,zqj),(94,494,zyX),(54,454,ztn),(155,497,zCh),(154,496,zBL),(180,535,zAR)]
theorem zXn:zdc Tryz.prog (zbc fg gls) fg rh0=true:=by kernel_rfl
def rh1:List (Nat × Nat × Hint):=[(179,534,ztj),(156,498,ztr),(104,458,zCF),(63,501,zvJ),(100,198,zvE),(99,197,zm1),(58,170,zyL),(59,172,zv7),(26,503,zl7),(157,207,zot),(107,195,zAK),(158,208,zm8)]
theorem zYZ:zdc Tryz.prog (zbc fg gls) fg rh1=true:=by kernel_rfl
def rh2:List (Nat × Nat × Hint):=[(108,196,zyd),(159,199,znj),(109,173,zyT),(66,164,zwc),(117,169,zqw),(112,163,zve),(111,162,zqr),(110,161,zyU),(118,171,zow),(74,191,zto),(116,168,zuW),(115,167,zuo)]
theorem zXw:zdc Tryz.prog (zbc fg gls) fg rh2=true:=by kernel_rfl
def rh3:List (Nat × Nat × Hint):=[(114,166,zsh),(113,165,zyH),(67,139,zCH),(68,179,zxT),(32,509,ztu),(119,209,ztl),(101,200,zyj),(102,202,zwa),(60,676,ztc),(69,201,zwe),(120,174,znk),(121,175,zmT)]
theorem zXm:zdc Tryz.prog (zbc fg gls) fg rh3=true:=by kernel_rfl
def rh4:List (Nat × Nat × Hint):=[(122,176,zni),(181,210,zxO),(160,203,zm4),(105,193,ztt),(161,204,zu4),(124,178,zl5),(123,177,zli),(70,140,zvG),(71,180,zyu),(33,675,ztg),(15,130,zwk),(125,181,zrV)]
theorem zYg:zdc Tryz.prog (zbc fg gls) fg rh4=true:=by kernel_rfl
def rh5:List (Nat × Nat × Hint):=[(72,143,ztd),(34,431,zpF),(73,145,zvU),(35,127,zC1),(12,670,zv2),(103,192,ztp),(61,157,zpB),(62,158,zop),(28,502,zl2),(75,205,zpr),(76,183,zp6),(36,182,zox)]
theorem zZa:zdc Tryz.prog (zbc fg gls) fg rh5=true:=by kernel_rfl
def rh6:List (Nat × Nat × Hint):=[(126,137,zAx),(127,184,znn),(78,147,zxD),(77,146,zDm),(37,128,zyD),(13,577,zti),(187,562,zqn),(174,552,zyb),(147,513,zy5),(175,553,zv0),(190,565,zxW),(198,593,zyq)]
theorem zYT:zdc Tryz.prog (zbc fg gls) fg rh6=true:=by kernel_rfl
def rh7:List (Nat × Nat × Hint):=[(191,566,zyW),(171,527,ztq),(148,514,zJg),(91,467,zFX),(172,528,zKu),(149,515,zFZ),(106,194,zEP),(64,159,zzY),(65,160,zyB),(31,455,zvz),(30,429,zHt),(92,468,zGX)]
theorem zX2:zdc Tryz.prog (zbc fg gls) fg rh7=true:=by kernel_rfl
def rh8:List (Nat × Nat × Hint):=[(93,469,zFO),(52,442,zH0),(182,554,zLQ),(132,448,zFJ),(162,516,zHK),(79,185,zyK),(95,138,zGe),(153,206,zz7),(97,187,zxb),(96,186,zJt),(55,149,zEx),(53,148,zHs)]
theorem zXg:zdc Tryz.prog (zbc fg gls) fg rh8=true:=by kernel_rfl
def rh9:List (Nat × Nat × Hint):=[(25,517,zL3),(129,470,zw0),(131,472,zDG),(163,518,zJh),(130,471,zCM),(22,519,zIK),(98,453,zIX),(57,588,zIR),(56,555,zEm),(42,520,zHu),(17,474,zHN),(134,475,zE5)]
theorem zYK:zdc Tryz.prog (zbc fg gls) fg rh9=true:=by kernel_rfl
def zYl:List (Nat × Nat × Hint):=[(196,117,zzF),(186,561,zJ3),(199,594,zKh),(188,563,zKs),(189,564,zCZ),(170,526,zEO),(143,484,zIw),(145,486,zEE),(173,529,zAp),(144,485,zF0),(133,473,zJL),(87,443,zIE)]
theorem zWB:zdc Tryz.prog (zbc fg gls) fg zYl=true:=by kernel_rfl
def zYp:List (Nat × Nat × Hint):=[(183,136,zDb),(164,521,zGU),(80,129,zEC),(39,488,zEb),(38,449,zHq),(86,152,zHD),(46,153,zBo),(47,132,zFH),(48,556,zFK),(49,557,zDq),(50,558,zGu),(19,522,zF9)]
theorem zWf:zdc Tryz.prog (zbc fg gls) fg zYp=true:=by kernel_rfl
def zYj:List (Nat × Nat × Hint):=[(165,134,zGh),(135,476,zGS),(139,480,zIV),(166,441,zBy),(136,477,zF6),(167,523,zKE),(193,589,zEk),(184,559,zCi),(216,618,zGn),(209,610,zKq),(200,599,zGl),(201,600,zEM)]
theorem zVP:zdc Tryz.prog (zbc fg gls) fg zYj=true:=by kernel_rfl
def zZb:List (Nat × Nat × Hint):=[(202,601,zIt),(203,602,zEt),(204,603,zEo),(205,604,zFM),(206,605,zGI),(195,591,zIq),(210,611,zER),(212,613,zHc),(211,612,zGk),(228,630,zDy),(223,625,zGF),(234,636,zEH)]
theorem zVT:zdc Tryz.prog (zbc fg gls) fg zZb=true:=by kernel_rfl
def zY3:List (Nat × Nat × Hint):=[(230,632,zEz),(231,633,zEy),(226,628,zJX),(229,631,zJr),(221,623,zEN),(217,619,zGK),(222,624,zGQ),(218,620,zEw),(225,627,zF4),(224,626,zKv),(236,638,zGv),(233,635,zEV)]
theorem zWE:zdc Tryz.prog (zbc fg gls) fg zY3=true:=by kernel_rfl
def zXW:List (Nat × Nat × Hint):=[(237,639,zEJ),(235,637,zzs),(232,634,zET),(227,629,zzE),(219,621,zEj),(213,614,zEL),(214,615,zGd),(220,622,zEZ),(215,616,zE1),(207,606,zIn),(194,590,zI8),(185,560,zza)]
theorem zWt:zdc Tryz.prog (zbc fg gls) fg zXW=true:=by kernel_rfl
def zXR:List (Nat × Nat × Hint):=[(168,524,zGE),(137,478,zFN),(138,479,zCv),(142,483,zDB),(169,525,zHf),(140,481,zJR),(141,482,zFY),(88,444,zCC),(146,487,zG3),(90,446,zCx),(89,445,zGi),(51,424,zJe)]
theorem zWy:zdc Tryz.prog (zbc fg gls) fg zXR=true:=by kernel_rfl
def zXj:List (Nat × Nat × Hint):=[(20,422,zHE),(83,188,zOh),(43,151,zGO),(84,150,zLM),(44,131,zLW),(81,583,zI2),(85,548,zQZ),(45,578,zGN),(40,596,zNs),(128,617,zF2),(82,608,zDf),(41,597,zGT)]
theorem zV0:zdc Tryz.prog (zbc fg gls) fg zXj=true:=by kernel_rfl
def zYw:List (Nat × Nat × Hint):=[(16,579,zIb),(18,542,zF7),(11,669,zIY),(8,666,zlZ),(10,668,zp4)]
theorem zWL:zdc Tryz.prog (zbc fg gls) fg zYw=true:=by kernel_rfl
noncomputable def rows:List Row:=zVD Tryz.prog (zbc fg gls) (rh0++(rh1++(rh2++(rh3++(rh4++(rh5++(rh6++(rh7++(rh8++(rh9++(zYl++(zYp++(zYj++(zZb++(zY3++(zXW++(zXR++(zXj++(zYw)))))))))))))))))))
theorem zWV:∀ r∈rows,(r.f,r.g)∈fg∧zel Tryz.prog r.f=true∧zwJ Tryz.prog (zbc fg gls) r.h r.f=some r.c:=zTH (za1 zXn (za1 zYZ (za1 zXw (za1 zXm (za1 zYg (za1 zZa (za1 zYT (za1 zX2 (za1 zXg (za1 zYK (za1 zWB (za1 zWf (za1 zVP (za1 zVT (za1 zWE (za1 zWt (za1 zWy (za1 zV0 (zWL)))))))))))))))))))
theorem zZm:Tryz.prog.follows .mixedOrders=true:=by kernel_rfl
theorem zZQ:zUY fg=true:=by kernel_rfl
theorem zZF:zhy Tryz.prog (zbc fg gls) zAi:=zVX (zVJ (by kernel_rfl)) (zXA (by kernel_rfl))
theorem zZI(L d:Nat):zhy Tryz.prog (zbc fg gls) (zsC (evF (yn rows) zAi L d)):=zVI zZm zZQ zZF zWV L d
theorem zLH(L:Nat):FOk (yn rows) L 531 (zxs zC L) 1:=yx (D:=0) (by kernel_rfl) fun m hm=>⟨zax,zay L,xw,zJv L⟩
theorem zEe(L:Nat):FOk (yn rows) L 532 (zoQ zq L) 1:=yx (D:=0) (by kernel_rfl) fun m hm=>⟨znL,zn9 L,xw,zBV L⟩
theorem zjk(L:Nat):FOk (yn rows) L 572 (zdx yj L) 1:=yx (D:=0) (by kernel_rfl) fun m hm=>⟨zfP,zfO L,xw,zrU L⟩
theorem zxA(L:Nat):FOk (yn rows) L 571 (zp3 zh L) 2:=yx (D:=1) (by kernel_rfl) fun m hm=>⟨zsQ,zsT yj L,(xi xw (zjk L m (by omega))),zHV L⟩
theorem zC7(L:Nat):FOk (yn rows) L 569 (znX zw L) 3:=yx (D:=2) (by kernel_rfl) fun m hm=>⟨zQ,xQ zh L,(xi xw (zxA L m (by omega))),zBt L⟩
theorem zA4(L:Nat):FOk (yn rows) L 570 (zme zt L) 1:=yx (D:=0) (by kernel_rfl) fun m hm=>⟨zkZ,zkv L,xw,zzz L⟩
theorem zCL(L:Nat):FOk (yn rows) L 533 (znU ym L) 4:=yx (D:=3) (by kernel_rfl) fun m hm=>⟨za2,za6 zw zt zh L,(xi (xi (xi xw (zC7 L m (by omega))) (zA4 L m (by omega))) (zxA L m (by omega))),zBk L⟩
theorem zAX(L:Nat):FOk (yn rows) L 494 (zrt zW L) 5:=yx (D:=4) (by kernel_rfl) fun m hm=>⟨zaA,zaB zC zq ym L,(xi (xi (xi xw (zLH L m (by omega))) (zEe L m (by omega))) (zCL L m (by omega))),zJF L⟩
theorem zCu(L:Nat):FOk (yn rows) L 494 (zkd zsX L) 5:=zvi (zAX L) (zJc L)
theorem zF3(L:Nat):FOk (yn rows) L 454 (zqZ zc5 L) 6:=yx (D:=5) (by kernel_rfl) fun m hm=>⟨zpC,zoO zW L,(xi xw (zAX L m (by omega))),zE0 L⟩
theorem zyV(L:Nat):FOk (yn rows) L 454 (zkd zzC L) 6:=zvi (zF3 L) (zEs L)
theorem zO1(L:Nat):FOk (yn rows) L 497 (zCn yL L) 1:=yx (D:=0) (by kernel_rfl) fun m hm=>⟨zcP,zcQ L,xw,zMV L⟩
theorem zO5(L:Nat):FOk (yn rows) L 496 (zBE xJ L) 1:=yx (D:=0) (by kernel_rfl) fun m hm=>⟨zfL,zfv L,xw,zOb L⟩
theorem zDA(L:Nat):FOk (yn rows) L 535 (ztG xh L) 2:=yx (D:=1) (by kernel_rfl) fun m hm=>⟨zw5,zxm yj L,(xi xw (zjk L m (by omega))),zLJ L⟩
theorem zFU(L:Nat):FOk (yn rows) L 534 (zqz yz L) 3:=yx (D:=2) (by kernel_rfl) fun m hm=>⟨zH,yH xh L,(xi xw (zDA L m (by omega))),zEG L⟩
theorem zGr(L:Nat):FOk (yn rows) L 498 (zqJ yp L) 4:=yx (D:=3) (by kernel_rfl) fun m hm=>⟨zbM,zbL yz xh L,(xi (xi xw (zFU L m (by omega))) (zDA L m (by omega))),zEn L⟩
theorem zFy(L:Nat):FOk (yn rows) L 458 (zvW zaw L) 5:=yx (D:=4) (by kernel_rfl) fun m hm=>⟨zbp,zbr yL xJ yp L,(xi (xi (xi xw (zO1 L m (by omega))) (zO5 L m (by omega))) (zGr L m (by omega))),zNJ L⟩
theorem zGY(L:Nat):FOk (yn rows) L 458 (zkd zsX L) 5:=zvi (zFy L) (zM9 L)
theorem zJZ(L:Nat):FOk (yn rows) L 501 (zu9 zeR L) 6:=yx (D:=5) (by kernel_rfl) fun m hm=>⟨zs4,zsF zaw L,(xi xw (zFy L m (by omega))),zIr L⟩
theorem zBl(L:Nat):FOk (yn rows) L 501 (zkd zzC L) 6:=zvi (zJZ L) (zHv L)
theorem zio(L:Nat):FOk (yn rows) L 198 (zgb zc L) 1:=yx (D:=0) (by kernel_rfl) fun m hm=>⟨zsD,zs3 L,xw,zHR L⟩
theorem zyr(L:Nat):FOk (yn rows) L 197 (zjD xI L) 2:=yx (D:=1) (by kernel_rfl) fun m hm=>⟨zaq,zam zc L,(xi xw (zio L m (by omega))),zxc L⟩
theorem zsU(L:Nat):FOk (yn rows) L 170 (znb xt L) 3:=yx (D:=2) (by kernel_rfl) fun m hm=>⟨zvh,zuM xI L,(xi xw (zyr L m (by omega))),zJ5 L⟩
theorem zxF(L:Nat):FOk (yn rows) L 172 (zoH yD L) 2:=yx (D:=1) (by kernel_rfl) fun m hm=>⟨zsP,zsR zc L,(xi xw (zio L m (by omega))),zIJ L⟩
theorem zwu(L:Nat):FOk (yn rows) L 503 (zjd zn L) 4:=yx (D:=3) (by kernel_rfl) fun m hm=>⟨zij,zih xt yD L,(xi (xi xw (zsU L m (by omega))) (zxF L m (by omega))),zvx L⟩
theorem zAo(L:Nat):FOk (yn rows) L 207 (zlr xL L) 2:=yx (D:=1) (by kernel_rfl) fun m hm=>⟨zaE,zaF zc L,(xi xw (zio L m (by omega))),zyA L⟩
theorem zNV(L:Nat):FOk (yn rows) L 195 (zzd zaN L) 3:=yx (D:=2) (by kernel_rfl) fun m hm=>⟨zwG,zw1 xL L,(xi xw (zAo L m (by omega))),zLR L⟩
theorem zyp(L:Nat):FOk (yn rows) L 208 (zj8 yI L) 2:=yx (D:=1) (by kernel_rfl) fun m hm=>⟨zan,zao zc L,(xi xw (zio L m (by omega))),zxq L⟩
theorem zLB(L:Nat):FOk (yn rows) L 196 (zwF zau L) 3:=yx (D:=2) (by kernel_rfl) fun m hm=>⟨zub,zuY yI L,(xi xw (zyp L m (by omega))),zJm L⟩
theorem zxY(L:Nat):FOk (yn rows) L 199 (zjz zJ L) 2:=yx (D:=1) (by kernel_rfl) fun m hm=>⟨zap,zal zc L,(xi xw (zio L m (by omega))),zwN L⟩
theorem zAI(L:Nat):FOk (yn rows) L 173 (zrG yK L) 3:=yx (D:=2) (by kernel_rfl) fun m hm=>⟨zu3,zuN zJ L,(xi xw (zxY L m (by omega))),zJp L⟩
theorem zqO(L:Nat):FOk (yn rows) L 164 (zkO zm L) 4:=yx (D:=3) (by kernel_rfl) fun m hm=>⟨zsZ,zsE zaN zau xt yK L,(xi (xi (xi (xi xw (zNV L m (by omega))) (zLB L m (by omega))) (zsU L m (by omega))) (zAI L m (by omega))),zG9 L⟩
theorem zDj(L:Nat):FOk (yn rows) L 169 (ziY xb L) 4:=yx (D:=3) (by kernel_rfl) fun m hm=>⟨zmJ,zmO xt L,(xi xw (zsU L m (by omega))),zBi L⟩
theorem zH7(L:Nat):FOk (yn rows) L 163 (znB y4 L) 5:=yx (D:=4) (by kernel_rfl) fun m hm=>⟨zrf,zqD zm L,(xi xw (zqO L m (by omega))),zFR L⟩
theorem zDL(L:Nat):FOk (yn rows) L 162 (zi9 xO L) 6:=yx (D:=5) (by kernel_rfl) fun m hm=>⟨zmo,zmN y4 L,(xi xw (zH7 L m (by omega))),zA5 L⟩
theorem zLG(L:Nat):FOk (yn rows) L 161 (zru xg L) 7:=yx (D:=6) (by kernel_rfl) fun m hm=>⟨zvg,zuP xO L,(xi xw (zDL L m (by omega))),zI4 L⟩
theorem zzo(L:Nat):FOk (yn rows) L 171 (zhi xe L) 3:=yx (D:=2) (by kernel_rfl) fun m hm=>⟨zjP,zj7 yD L,(xi xw (zxF L m (by omega))),zyO L⟩
theorem zy1(L:Nat):FOk (yn rows) L 162 (zgv xc L) 4:=yx (D:=3) (by kernel_rfl) fun m hm=>⟨ziW,zja yK L,(xi xw (zAI L m (by omega))),zwK L⟩
theorem zcR(L:Nat):FOk (yn rows) L 191 (zco yb L) 1:=yx (D:=0) (by kernel_rfl) fun m hm=>⟨zo0,zp0 L,xw,zEc L⟩
theorem zIv(L:Nat):FOk (yn rows) L 168 (zsY yX L) 5:=yx (D:=4) (by kernel_rfl) fun m hm=>⟨zq0,zq6 zm yb L,(xi (xi xw (zqO L m (by omega))) (zcR L m (by omega))),zGy L⟩
theorem zIT(L:Nat):FOk (yn rows) L 167 (znu y5 L) 6:=yx (D:=5) (by kernel_rfl) fun m hm=>⟨zqR,zrm yX L,(xi xw (zIv L m (by omega))),zGV L⟩
theorem zEX(L:Nat):FOk (yn rows) L 166 (zkn yR L) 7:=yx (D:=6) (by kernel_rfl) fun m hm=>⟨zn1,znO y5 L,(xi xw (zIT L m (by omega))),zDh L⟩
theorem zLO(L:Nat):FOk (yn rows) L 165 (zrF ze L) 8:=yx (D:=7) (by kernel_rfl) fun m hm=>⟨zu7,zvb yR L,(xi xw (zEX L m (by omega))),zJC L⟩
theorem zO3(L:Nat):FOk (yn rows) L 139 (zBA yO L) 9:=yx (D:=8) (by kernel_rfl) fun m hm=>⟨zP,yP xb xg xe xc ze L,(xi (xi (xi (xi (xi xw (zDj L m (by omega))) (zLG L m (by omega))) (zzo L m (by omega))) (zy1 L m (by omega))) (zLO L m (by omega))),zM6 L⟩
theorem zLL(L:Nat):FOk (yn rows) L 179 (zwB xG L) 1:=yx (D:=0) (by kernel_rfl) fun m hm=>⟨zuZ,zvf L,xw,zI6 L⟩
theorem zGP(L:Nat):FOk (yn rows) L 509 (zlP zD L) 10:=yx (D:=9) (by kernel_rfl) fun m hm=>⟨zbj,zbh zn zm yO xG L,(xi (xi (xi (xi xw (zwu L m (by omega))) (zqO L m (by omega))) (zO3 L m (by omega))) (zLL L m (by omega))),zEI L⟩
theorem zro(L:Nat):FOk (yn rows) L 130 (zlc yg L) 1:=yx (D:=0) (by kernel_rfl) fun m hm=>⟨zsG,zs0 L,xw,zHa L⟩
theorem zEQ(L:Nat):FOk (yn rows) L 181 (zqf yi L) 2:=yx (D:=1) (by kernel_rfl) fun m hm=>⟨zod,zoe yg L,(xi xw (zro L m (by omega))),zB1 L⟩
theorem zGo(L:Nat):FOk (yn rows) L 143 (zrn xv L) 3:=yx (D:=2) (by kernel_rfl) fun m hm=>⟨xB,yB yg yi L,(xi (xi xw (zro L m (by omega))) (zEQ L m (by omega))),zEW L⟩
theorem zBa(L:Nat):FOk (yn rows) L 431 (zhP xz L) 4:=yx (D:=3) (by kernel_rfl) fun m hm=>⟨zav,zat xv L,(xi xw (zGo L m (by omega))),zzc L⟩
theorem zJa(L:Nat):FOk (yn rows) L 145 (zu8 zu L) 1:=yx (D:=0) (by kernel_rfl) fun m hm=>⟨zb9,zca L,xw,zID L⟩
theorem zO8(L:Nat):FOk (yn rows) L 127 (zCz zO L) 2:=yx (D:=1) (by kernel_rfl) fun m hm=>⟨zaK,zaM zu L,(xi xw (zJa L m (by omega))),zOm L⟩
theorem zJD(L:Nat):FOk (yn rows) L 670 (zu1 zaa L) 3:=yx (D:=2) (by kernel_rfl) fun m hm=>⟨zb7,zb8 zO L,(xi xw (zO8 L m (by omega))),zII L⟩
theorem znN(L:Nat):FOk (yn rows) L 192 (zh3 yl L) 1:=yx (D:=0) (by kernel_rfl) fun m hm=>⟨zbN,zbP L,xw,zEA L⟩
theorem zgu(L:Nat):FOk (yn rows) L 157 (zdM ya L) 2:=yx (D:=1) (by kernel_rfl) fun m hm=>⟨zkU,zk7 yl yb L,(xi (xi xw (znN L m (by omega))) (zcR L m (by omega))),zzS L⟩
theorem zpV(L:Nat):FOk (yn rows) L 158 (zhf yo L) 2:=yx (D:=1) (by kernel_rfl) fun m hm=>⟨zjX,zj0 yb L,(xi xw (zcR L m (by omega))),zyx L⟩
theorem zwy(L:Nat):FOk (yn rows) L 502 (ziB xm L) 3:=yx (D:=2) (by kernel_rfl) fun m hm=>⟨zhX,zh6 ya yo L,(xi (xi xw (zgu L m (by omega))) (zpV L m (by omega))),zvw L⟩
theorem zA7(L:Nat):FOk (yn rows) L 205 (zmA zL L) 2:=yx (D:=1) (by kernel_rfl) fun m hm=>⟨zls,zky yl yb L,(xi (xi xw (znN L m (by omega))) (zcR L m (by omega))),zzR L⟩
theorem zqp(L:Nat):FOk (yn rows) L 183 (zhO ye L) 2:=yx (D:=1) (by kernel_rfl) fun m hm=>⟨zlj,zkR yl yb L,(xi (xi xw (znN L m (by omega))) (zcR L m (by omega))),zAs L⟩
theorem ziN(L:Nat):FOk (yn rows) L 182 (zeV za L) 3:=yx (D:=2) (by kernel_rfl) fun m hm=>⟨zjO,zjA yb zL ya ye L,(xi (xi (xi (xi xw (zcR L m (by omega))) (zA7 L m (by omega))) (zgu L m (by omega))) (zqp L m (by omega))),zyM L⟩
theorem zNu(L:Nat):FOk (yn rows) L 137 (zzb zr L) 3:=yx (D:=2) (by kernel_rfl) fun m hm=>⟨zwT,zwr yo ya L,(xi (xi xw (zpV L m (by omega))) (zgu L m (by omega))),zLS L⟩
theorem zyI(L:Nat):FOk (yn rows) L 184 (zjB yc L) 4:=yx (D:=3) (by kernel_rfl) fun m hm=>⟨zi6,ziM za yb L,(xi (xi xw (ziN L m (by omega))) (zcR L m (by omega))),zwE L⟩
theorem zAy(L:Nat):FOk (yn rows) L 147 (zrB xl L) 5:=yx (D:=4) (by kernel_rfl) fun m hm=>⟨yG,zG ya za zr ye yc L,(xi (xi (xi (xi (xi xw (zgu L m (by omega))) (ziN L m (by omega))) (zNu L m (by omega))) (zqp L m (by omega))) (zyI L m (by omega))),zJ0 L⟩
theorem zOX(L:Nat):FOk (yn rows) L 146 (zBB zbm L) 6:=yx (D:=5) (by kernel_rfl) fun m hm=>⟨xU,zV xl L,(xi xw (zAy L m (by omega))),zOc L⟩
theorem zLN(L:Nat):FOk (yn rows) L 128 (zxl zE L) 7:=yx (D:=6) (by kernel_rfl) fun m hm=>⟨zul,zvj zbm xl L,(xi (xi xw (zOX L m (by omega))) (zAy L m (by omega))),zJJ L⟩
theorem zGc(L:Nat):FOk (yn rows) L 577 (zqH yN L) 8:=yx (D:=7) (by kernel_rfl) fun m hm=>⟨zbk,zbi xm za zE L,(xi (xi (xi xw (zwy L m (by omega))) (ziN L m (by omega))) (zLN L m (by omega))),zEB L⟩
theorem zCg(L:Nat):FOk (yn rows) L 562 (znV xS L) 1:=yx (D:=0) (by kernel_rfl) fun m hm=>⟨zmq,zmj L,xw,zBe L⟩
theorem zAu(L:Nat):FOk (yn rows) L 552 (zrD xn L) 1:=yx (D:=0) (by kernel_rfl) fun m hm=>⟨zuG,zuK L,xw,zJ6 L⟩
theorem zLA(L:Nat):FOk (yn rows) L 513 (zxn zaP L) 2:=yx (D:=1) (by kernel_rfl) fun m hm=>⟨zdy,zdB xn L,(xi xw (zAu L m (by omega))),zKx L⟩
theorem zKp(L:Nat):FOk (yn rows) L 553 (zuH xY L) 1:=yx (D:=0) (by kernel_rfl) fun m hm=>⟨zsB,zsI L,xw,zIi L⟩
theorem zLE(L:Nat):FOk (yn rows) L 565 (zwD zaO L) 2:=yx (D:=1) (by kernel_rfl) fun m hm=>⟨zcK,zcG xn L,(xi xw (zAu L m (by omega))),zKA L⟩
theorem zLD(L:Nat):FOk (yn rows) L 593 (zxj xK L) 1:=yx (D:=0) (by kernel_rfl) fun m hm=>⟨zdn,zdF L,xw,zJ1 L⟩
theorem zLK(L:Nat):FOk (yn rows) L 566 (zxd zaH L) 2:=yx (D:=1) (by kernel_rfl) fun m hm=>⟨zdo,zdA xK L,(xi xw (zLD L m (by omega))),zKj L⟩
theorem zGL(L:Nat):FOk (yn rows) L 527 (zqP zej L) 3:=yx (D:=2) (by kernel_rfl) fun m hm=>⟨zoL,zpl xS zaP xY zaO zaH L,(xi (xi (xi (xi (xi xw (zCg L m (by omega))) (zLA L m (by omega))) (zKp L m (by omega))) (zLE L m (by omega))) (zLK L m (by omega))),zED L⟩
theorem zxG(L:Nat):FOk (yn rows) L 527 (zRt L) 3:=zvi (zGL L) (zEq L)
end
end
section
def zGp{α:Type}(e:α→α→Bool):List α→List α→Bool
 | [],[]=>true
 | x::xs,y::ys=>e x y&&zGp e xs ys
 | _,_=>false
theorem zx4{α:Type}{e:α→α→Bool}(h:∀ x y,e x y=true→x=y):∀ (a b:List α),zGp e a b=true→a=b
 | [],[],_=>rfl
 | x::xs,y::ys,q=>by
  simp only [zGp,Wh] at q
  rw [h _ _ q.1,zx4 h xs ys q.2]
 | [],_::_,q=>by cases q
 | _::_,[],q=>by cases q
def eqW:Nat→V→V→Bool
 | 0,_,_=>false
 | n+1,a,b=>match a,b with
  | .sc (.int k x),.sc (.int k' y)=>decide (k=k')&&decide (x=y)
  | .sc (.bool x),.sc (.bool y)=>x==y
  | .agg x,.agg y=>zGp (eqW n) x y
  | .sl s x,.sl s' y=>decide (s=s')&&zGp (zGp (eqW n)) x y
  | _,_=>false
theorem zME:∀ (n:Nat) (a b:V),eqW n a b=true→a=b
 | 0,a,b,h=>by cases h
 | n+1,a,b,h=>by
  unfold eqW at h
  split at h
  ·simp only [Wh,decide_eq_true_eq] at h; rw [h.1,h.2]
  ·simp only [beq_iff_eq] at h; rw [h]
  ·rw [zx4 (zME n) _ _ h]
  ·simp only [Wh,decide_eq_true_eq] at h; rw [h.1,zx4 (zx4 (zME n)) _ _ h.2]
  ·cases h
def zeT:List (List V × V)→Nat→Nat→Dk
 | [],_,_=>fun β a b k=>none
 | p::l,N,L=>fun β a b k=>match zGp (eqW 12) p.1 a&&b.isEmpty with
  | true=>chk (N≤L) (k p.2 [])
  | false=>zeT l N L β a b k
def zQm{α:Type}(P:α→Prop):List α→Prop
 | []=>True
 | x::l=>P x∧zQm P l
def zAt:List V:=[.agg (row .u32 [1]++row .u8 (We 64 0)++row .u32 [1000,545259519,0]++row .u64 [18446744073709551615,18446744073709551615,18446744073709551615,9223372036854775807]++row .i64 [3]++row .u32 [5,600,1]++[.sl 33 []]++row .i64 [1000,4,0])]
def zAH:V:=.sc (.bool true)
def zBz:List V:=[.agg (row .u32 [1]++row .u8 (We 64 0)++row .u32 [1000,545259519,0])]
def zCR:V:=.agg (row .u8 [61,203,117,189,137,197,20,104,21,221,192,209,215,49,76,183,70,25,253,247,43,253,106,115,55,132,161,91,255,182,29,187])
def zBW:List V:=[.agg (row .u32 [1]++row .u8 [61,203,117,189,137,197,20,104,21,221,192,209,215,49,76,183,70,25,253,247,43,253,106,115,55,132,161,91,255,182,29,187,97,228,166,135,80,63,52,148,101,13,25,29,89,117,227,159,228,238,226,170,227,84,108,105,186,52,19,141,87,189,48,35]++row .u32 [1036,545259519,0])]
def zBH:V:=.agg (row .u8 [204,99,164,11,133,249,164,118,106,58,27,21,13,141,80,81,249,36,133,152,12,66,104,247,116,191,119,57,25,244,188,172])
def zDo:List V:=[.agg (row .u32 [1]++row .u8 [61,203,117,189,137,197,20,104,21,221,192,209,215,49,76,183,70,25,253,247,43,253,106,115,55,132,161,91,255,182,29,187,97,228,166,135,80,63,52,148,101,13,25,29,89,117,227,159,228,238,226,170,227,84,108,105,186,52,19,141,87,189,48,35]++row .u32 [1036,545259519,1])]
def zCA:V:=.agg (row .u8 [180,145,100,116,38,117,98,22,21,167,210,119,61,195,48,7,53,69,228,10,94,211,156,99,252,16,125,78,47,155,40,152])
def zCj:List V:=[.agg (row .u32 [1]++row .u8 [61,203,117,189,137,197,20,104,21,221,192,209,215,49,76,183,70,25,253,247,43,253,106,115,55,132,161,91,255,182,29,187,97,228,166,135,80,63,52,148,101,13,25,29,89,117,227,159,228,238,226,170,227,84,108,105,186,52,19,141,87,189,48,35]++row .u32 [1036,545259519,2])]
def zCO:V:=.agg (row .u8 [47,199,49,240,163,253,175,23,134,220,234,86,165,150,31,128,139,37,174,9,253,178,164,124,168,93,102,235,22,236,186,248])
def zCI:List V:=[.sc (.int .u8 0)]
def zB9:V:=.agg (row .u32 [1]++row .u8 (We 64 0)++row .u32 [1000,545259519,0]++row .u64 [18446744073709551615,18446744073709551615,18446744073709551615,9223372036854775807]++row .i64 [3]++row .u32 [5,600,1]++[.sl 33 []]++row .i64 [1000,4,0]++[.sl 69 []]++[.sl 34 [(row .i64 [0]++row .u8 [61,203,117,189,137,197,20,104,21,221,192,209,215,49,76,183,70,25,253,247,43,253,106,115,55,132,161,91,255,182,29,187]++[.sl 37 []])]]++[.sl 36 [(row .i64 [0]++row .u8 [61,203,117,189,137,197,20,104,21,221,192,209,215,49,76,183,70,25,253,247,43,253,106,115,55,132,161,91,255,182,29,187]++row .u32 [545259519,1000]++[.sl 1 [(row .u32 [1000])]])]]++[.sl 1 []])
def zDw:List V:=[.sl 4 [(row .u32 [1]++[.sl 35 [(row .u8 (We 32 0)++row .u32 [4294967295,1]++[.sl 1 []])]]++[.sl 2 [(row .i64 [1000]++[.sl 1 [(row .u8 [1]),(row .u8 [1]),(row .u8 [1]),(row .u8 [5])]])]]++row .u32 [0])]]
def zCd:V:=.agg (row .u8 [97,228,166,135,80,63,52,148,101,13,25,29,89,117,227,159,228,238,226,170,227,84,108,105,186,52,19,141,87,189,48,35])
def zDp:List V:=[.agg (row .u32 [1]++row .u8 (We 64 0)++row .u32 [1000,545259519,0]++row .u64 [18446744073709551615,18446744073709551615,18446744073709551615,9223372036854775807]++row .i64 [3]++row .u32 [5,600,1]++[.sl 33 []]++row .i64 [1000,4,0]),.agg (row .i64 [0]++row .u8 [61,203,117,189,137,197,20,104,21,221,192,209,215,49,76,183,70,25,253,247,43,253,106,115,55,132,161,91,255,182,29,187]++row .u32 [545259519,1000]++[.sl 1 [(row .u32 [1000])]])]
def zC4:V:=.tup [.sc (.int .u32 545259519),.sc (.int .i64 0)]
def zCP:List V:=[.agg (row .u32 [1]++row .u8 (We 64 0)++row .u32 [1000,545259519,0]++row .u64 [18446744073709551615,18446744073709551615,18446744073709551615,9223372036854775807]++row .i64 [3]++row .u32 [5,600,1]++[.sl 33 []]++row .i64 [1000,4,0]),.agg (row .i64 [0]++row .u8 [61,203,117,189,137,197,20,104,21,221,192,209,215,49,76,183,70,25,253,247,43,253,106,115,55,132,161,91,255,182,29,187]++[.sl 37 []]),.agg (row .i64 [0]++row .u8 [61,203,117,189,137,197,20,104,21,221,192,209,215,49,76,183,70,25,253,247,43,253,106,115,55,132,161,91,255,182,29,187]++row .u32 [545259519,1000]++[.sl 1 [(row .u32 [1000])]]),.sc (.int .u8 1)]
def zCm:V:=.agg (row .u32 [1]++row .u8 [61,203,117,189,137,197,20,104,21,221,192,209,215,49,76,183,70,25,253,247,43,253,106,115,55,132,161,91,255,182,29,187,97,228,166,135,80,63,52,148,101,13,25,29,89,117,227,159,228,238,226,170,227,84,108,105,186,52,19,141,87,189,48,35]++row .u32 [1036,545259519,2]++[.sl 4 [(row .u32 [1]++[.sl 35 [(row .u8 (We 32 0)++row .u32 [4294967295,1]++[.sl 1 []])]]++[.sl 2 [(row .i64 [1000]++[.sl 1 [(row .u8 [1]),(row .u8 [1]),(row .u8 [1]),(row .u8 [5])]])]]++row .u32 [0])]])
def zH3:List V:=[.agg (row .u32 [1]++[.sl 35 [(row .u8 (We 32 0)++row .u32 [4294967295,1]++[.sl 1 []])]]++[.sl 2 [(row .i64 [1000]++[.sl 1 [(row .u8 [1]),(row .u8 [1]),(row .u8 [1]),(row .u8 [5])]])]]++row .u32 [0])]
def zHS:V:=.agg (row .u8 [37,205,216,223,81,203,80,27,2,210,68,135,186,37,122,45,54,153,215,87,97,164,65,30,18,4,133,45,141,199,157,21])
def zAW:List V:=[.agg (row .u32 [1]++row .u8 [61,203,117,189,137,197,20,104,21,221,192,209,215,49,76,183,70,25,253,247,43,253,106,115,55,132,161,91,255,182,29,187,97,228,166,135,80,63,52,148,101,13,25,29,89,117,227,159,228,238,226,170,227,84,108,105,186,52,19,141,87,189,48,35]++row .u32 [1036,545259519,2]++[.sl 4 [(row .u32 [1]++[.sl 35 [(row .u8 (We 32 0)++row .u32 [4294967295,1]++[.sl 1 []])]]++[.sl 2 [(row .i64 [1000]++[.sl 1 [(row .u8 [1]),(row .u8 [1]),(row .u8 [1]),(row .u8 [5])]])]]++row .u32 [0])]])]
def zA0:V:=.sc (.int .i64 0)
def zvY:List V:=[.agg (row .u32 [1]++row .u8 (We 64 0)++row .u32 [1000,545259519,0]++row .u64 [18446744073709551615,18446744073709551615,18446744073709551615,9223372036854775807]++row .i64 [3]++row .u32 [5,600,1]++[.sl 33 []]++row .i64 [1000,4,0]),.agg (row .i64 [0]++row .u8 [61,203,117,189,137,197,20,104,21,221,192,209,215,49,76,183,70,25,253,247,43,253,106,115,55,132,161,91,255,182,29,187]++[.sl 37 []]),.agg (row .u32 [1]++row .u8 [61,203,117,189,137,197,20,104,21,221,192,209,215,49,76,183,70,25,253,247,43,253,106,115,55,132,161,91,255,182,29,187,97,228,166,135,80,63,52,148,101,13,25,29,89,117,227,159,228,238,226,170,227,84,108,105,186,52,19,141,87,189,48,35]++row .u32 [1036,545259519,2]++[.sl 4 [(row .u32 [1]++[.sl 35 [(row .u8 (We 32 0)++row .u32 [4294967295,1]++[.sl 1 []])]]++[.sl 2 [(row .i64 [1000]++[.sl 1 [(row .u8 [1]),(row .u8 [1]),(row .u8 [1]),(row .u8 [5])]])]]++row .u32 [0])]])]
def zvP:V:=.tup [.agg (row .i64 [1]++row .u8 [47,199,49,240,163,253,175,23,134,220,234,86,165,150,31,128,139,37,174,9,253,178,164,124,168,93,102,235,22,236,186,248]++[.sl 37 [(row .u8 [37,205,216,223,81,203,80,27,2,210,68,135,186,37,122,45,54,153,215,87,97,164,65,30,18,4,133,45,141,199,157,21]++row .u32 [0]++row .i64 [1000]++[.sl 1 [(row .u8 [1]),(row .u8 [1]),(row .u8 [1]),(row .u8 [5])]]++row .i64 [1]++[.sc (.bool true)])]]),.agg ([.sl 37 []]),.sc (.int .i64 0)]
def zAZ:List V:=[.agg (row .u32 [1]++row .u8 (We 64 0)++row .u32 [1000,545259519,0]++row .u64 [18446744073709551615,18446744073709551615,18446744073709551615,9223372036854775807]++row .i64 [3]++row .u32 [5,600,1]++[.sl 33 []]++row .i64 [1000,4,0]),.agg (row .i64 [0]++row .u8 [61,203,117,189,137,197,20,104,21,221,192,209,215,49,76,183,70,25,253,247,43,253,106,115,55,132,161,91,255,182,29,187]++row .u32 [545259519,1000]++[.sl 1 [(row .u32 [1000])]]),.agg (row .u32 [1]++row .u8 [61,203,117,189,137,197,20,104,21,221,192,209,215,49,76,183,70,25,253,247,43,253,106,115,55,132,161,91,255,182,29,187,97,228,166,135,80,63,52,148,101,13,25,29,89,117,227,159,228,238,226,170,227,84,108,105,186,52,19,141,87,189,48,35]++row .u32 [1036,545259519,2]),.sc (.int .u32 1073741824)]
def zAQ:V:=.sc (.int .i64 0)
def zBC:List V:=[.sc (.int .u8 0),.sl 1 [(row .u8 [1])]]
def zCS:V:=.agg (row .u32 [1]++row .u8 (We 64 0)++row .u32 [1000,545259519,0]++row .u64 [18446744073709551615,18446744073709551615,18446744073709551615,9223372036854775807]++row .i64 [3]++row .u32 [5,600,1]++[.sl 33 []]++row .i64 [1000,4,0]++[.sl 69 [(row .u32 [1]++row .u8 [61,203,117,189,137,197,20,104,21,221,192,209,215,49,76,183,70,25,253,247,43,253,106,115,55,132,161,91,255,182,29,187,97,228,166,135,80,63,52,148,101,13,25,29,89,117,227,159,228,238,226,170,227,84,108,105,186,52,19,141,87,189,48,35]++row .u32 [1036,545259519,2]++[.sl 4 [(row .u32 [1]++[.sl 35 [(row .u8 (We 32 0)++row .u32 [4294967295,1]++[.sl 1 []])]]++[.sl 2 [(row .i64 [1000]++[.sl 1 [(row .u8 [1]),(row .u8 [1]),(row .u8 [1]),(row .u8 [5])]])]]++row .u32 [0])]])]]++[.sl 34 [(row .i64 [0]++row .u8 [61,203,117,189,137,197,20,104,21,221,192,209,215,49,76,183,70,25,253,247,43,253,106,115,55,132,161,91,255,182,29,187]++[.sl 37 []]),(row .i64 [1]++row .u8 [47,199,49,240,163,253,175,23,134,220,234,86,165,150,31,128,139,37,174,9,253,178,164,124,168,93,102,235,22,236,186,248]++[.sl 37 [(row .u8 [37,205,216,223,81,203,80,27,2,210,68,135,186,37,122,45,54,153,215,87,97,164,65,30,18,4,133,45,141,199,157,21]++row .u32 [0]++row .i64 [1000]++[.sl 1 [(row .u8 [1]),(row .u8 [1]),(row .u8 [1]),(row .u8 [5])]]++row .i64 [1]++[.sc (.bool true)])]])]]++[.sl 36 [(row .i64 [0]++row .u8 [61,203,117,189,137,197,20,104,21,221,192,209,215,49,76,183,70,25,253,247,43,253,106,115,55,132,161,91,255,182,29,187]++row .u32 [545259519,1000]++[.sl 1 [(row .u32 [1000])]]),(row .i64 [1]++row .u8 [47,199,49,240,163,253,175,23,134,220,234,86,165,150,31,128,139,37,174,9,253,178,164,124,168,93,102,235,22,236,186,248]++row .u32 [545259519,1000]++[.sl 1 [(row .u32 [1000]),(row .u32 [1036])]])]]++[.sl 1 [([.sl 37 []])]])
def zQd:List V:=[.agg (row .u32 [1]++[.sl 35 [(row .u8 (We 32 0)++row .u32 [4294967295,1]++[.sl 1 []])]]++[.sl 2 [(row .i64 [1000]++[.sl 1 [(row .u8 [1]),(row .u8 [1]),(row .u8 [1]),(row .u8 [5])]])]]++row .u32 [0])]
def zPS:V:=.agg (row .u8 [37,205,216,223,81,203,80,27,2,210,68,135,186,37,122,45,54,153,215,87,97,164,65,30,18,4,133,45,141,199,157,21])
def zAw:List V:=[.agg (row .u32 [1]++row .u8 [61,203,117,189,137,197,20,104,21,221,192,209,215,49,76,183,70,25,253,247,43,253,106,115,55,132,161,91,255,182,29,187,97,228,166,135,80,63,52,148,101,13,25,29,89,117,227,159,228,238,226,170,227,84,108,105,186,52,19,141,87,189,48,35]++row .u32 [1036,545259519,2]++[.sl 4 [(row .u32 [1]++[.sl 35 [(row .u8 (We 32 0)++row .u32 [4294967295,1]++[.sl 1 []])]]++[.sl 2 [(row .i64 [1000]++[.sl 1 [(row .u8 [1]),(row .u8 [1]),(row .u8 [1]),(row .u8 [5])]])]]++row .u32 [0])]])]
def zAC:V:=.sc (.int .i64 0)
def zAN:List V:=[.agg (row .u32 [1]++row .u8 [61,203,117,189,137,197,20,104,21,221,192,209,215,49,76,183,70,25,253,247,43,253,106,115,55,132,161,91,255,182,29,187,98,228,166,135,80,63,52,148,101,13,25,29,89,117,227,159,228,238,226,170,227,84,108,105,186,52,19,141,87,189,48,35]++row .u32 [1036,545259519,2]++[.sl 4 [(row .u32 [1]++[.sl 35 [(row .u8 (We 32 0)++row .u32 [4294967295,1]++[.sl 1 []])]]++[.sl 2 [(row .i64 [1000]++[.sl 1 [(row .u8 [1]),(row .u8 [1]),(row .u8 [1]),(row .u8 [5])]])]]++row .u32 [0])]])]
def zAL:V:=.sc (.int .i64 110)
def zAO:List V:=[.agg (row .u32 [0]++row .u8 (We 64 0)++row .u32 [0,0,0]++[.sl 4 []])]
def zAJ:V:=.sc (.int .i64 93)
end
section
def ovF:List (Nat × (Nat→Dk))→Nat→Nat→Option Dk
 | [],_,_=>none
 | p::l,L,g=>match Nat.beq p.1 g with
  | true=>some (p.2 L)
  | false=>ovF l L g
def zeY(T:Nat→Option CF)(ov:Nat→Option Dk)(L:Nat):Nat→CBC
 | 0=>noC
 | n+1=>fun β g a b k=>match ov g with
  | some d=>d β a b k
  | none=>match T g,frN g with
   | some c,false=>zj (xC []) (zeY T ov L n) L c a b k
   | _,_=>none
def zhw(T:Nat→Option CF)(D:Nat)(l:List (Nat × (Nat→Dk))):Prop:=∀ L g d,ovF l L g=some d→FOk T L g d D
theorem zYD{T:Nat→Option CF}:zhw T 0 []:=fun L g d h=>by cases h
theorem zyv{T:Nat→Option CF}{L g D D':Nat}{d:Dk}(h:FOk T L g d D)(hD:D≤D'):FOk T L g d D':=fun n hn=>h n (by omega)
theorem zt2{T:Nat→Option CF}{D D' g:Nat}{d:Nat→Dk}{l:List (Nat × (Nat→Dk))}(h:zhw T D l)(hd:∀ L,FOk T L g (d L) D')(hD:D≤D'):zhw T D' ((g,d)::l):=fun L g' d' e=>by
 unfold ovF at e
 split at e
 ·rename_i q
  cases e
  rw [← Nat.eq_of_beq_eq_true q]; exact hd L
 ·exact zyv (h L g' d' e) hD
theorem zP3{T:Nat→Option CF}{D:Nat}{l:List (Nat × (Nat→Dk))}(h:zhw T D l){L:Nat}:∀ (n m:Nat),D+n≤m→znA (zeY T (ovF l L) L n) (zsC (evF T zAi L m))
 | 0,m,hm=>xw
 | n+1,m,hm=>fun β g a b k r e=>by
  unfold zeY at e
  split at e
  ·rename_i d hd
   exact h L g d hd m (by omega) β a b k r e
  ·split at e
   ·rename_i c hT hf
    obtain ⟨m,rfl⟩:∃ q,m=q+1:=⟨m-1,by omega⟩
    rw [zVo hf]
    exact zPb (zP3 h n m (by omega)) hT e
   ·cases e
theorem zPQ{T:Nat→Option CF}{D:Nat}{l:List (Nat × (Nat→Dk))}(h:zhw T D l)(L n g:Nat){d:Dk}(hd:DK d (fun β a b k=>zeY T (ovF l L) L n β g a b k)):FOk T L g d (D+n):=fun m hm β a b k r e=>zP3 h n m hm β g a b k r (hd _ _ _ _ _ e)
end
section
theorem zLg{N:Nat}{X:Nat→Dk}:∀ (l:List (List V × V)),zQm (fun p=>∀ (β:Type) (n:Nat) (k:V→Bor→Option β),X (n+N) β p.1 [] k=k p.2 []) l→∀ L,DK (zeT l N L) (X L)
 | [],_,L=>fun β a b k r h=>by cases h
 | p::l,H,L=>fun β a b k r h=>by
  unfold zeT at h
  split at h
  ·rename_i q
   rw [Wh] at q
   obtain rfl:=zx4 (zME 12) _ _ q.1
   obtain rfl:b=[]:=by cases b with | nil=>rfl | cons x y=>cases q.2
   obtain ⟨hN,h2⟩:=xq h
   obtain ⟨n,rfl⟩:∃ n,L=n+N:=⟨L-N,by omega⟩
   rw [H.1]; exact h2
  ·exact zLg l H.2 L β a b k r h
theorem zlW{T:Nat→Option CF}{D:Nat}{l:List (Nat × (Nat→Dk))}(h:zhw T D l)(g:Nat)(vs:List (List V × V))(H:zQm (fun p=>∀ (β:Type) (n:Nat) (k:V→Bor→Option β),zeY T (ovF l (n+30000)) (n+30000) 40 β g p.1 [] k=k p.2 []) vs):zhw T (D+40) ((g,zeT vs 30000)::l):=
 zt2 h (fun L=>zPQ h L 40 g (zLg (X:=fun L β a b k=>zeY T (ovF l L) L 40 β g a b k) vs H L)) (by omega)
noncomputable section
def ov0:List (Nat × (Nat→Dk)):=[(454,zkd zzC),(494,zkd zsX),(501,zkd zzC),(458,zkd zsX),(527,zRt)]
theorem zYm:zhw (yn rows) 40 ov0:=zt2 (D':=40) (zt2 (D':=40) (zt2 (D':=40) (zt2 (D':=40) (zt2 (D':=40) (zYD) (fun L=>zyv (zxG L) (by omega)) (by omega)) (fun L=>zyv (zGY L) (by omega)) (by omega)) (fun L=>zyv (zBl L) (by omega)) (by omega)) (fun L=>zyv (zCu L) (by omega)) (by omega)) (fun L=>zyv (zyV L) (by omega)) (by omega)
theorem zL6(β:Type)(n:Nat)(k:V→Bor→Option β):zeY (yn rows) (ovF ov0 (n+30000)) (n+30000) 40 β 515 zAt [] k=k zAH []:=by kernel_rfl
def ov1:List (Nat × (Nat→Dk)):=(515,zeT [(zAt,zAH)] 30000)::ov0
theorem zXM:zhw (yn rows) 80 ov1:=zlW zYm 515 _ ⟨zL6,trivial⟩
theorem zNY(β:Type)(n:Nat)(k:V→Bor→Option β):zeY (yn rows) (ovF ov1 (n+30000)) (n+30000) 40 β 429 zBz [] k=k zCR []:=by kernel_rfl
theorem zOg(β:Type)(n:Nat)(k:V→Bor→Option β):zeY (yn rows) (ovF ov1 (n+30000)) (n+30000) 40 β 429 zBW [] k=k zBH []:=by kernel_rfl
theorem zOo(β:Type)(n:Nat)(k:V→Bor→Option β):zeY (yn rows) (ovF ov1 (n+30000)) (n+30000) 40 β 429 zDo [] k=k zCA []:=by kernel_rfl
theorem zNO(β:Type)(n:Nat)(k:V→Bor→Option β):zeY (yn rows) (ovF ov1 (n+30000)) (n+30000) 40 β 429 zCj [] k=k zCO []:=by kernel_rfl
def ov2:List (Nat × (Nat→Dk)):=(429,zeT [(zBz,zCR),(zBW,zBH),(zDo,zCA),(zCj,zCO)] 30000)::ov1
theorem zYf:zhw (yn rows) 120 ov2:=zlW zXM 429 _ ⟨zNY,zOg,zOo,zNO,trivial⟩
theorem zNW(β:Type)(n:Nat)(k:V→Bor→Option β):zeY (yn rows) (ovF ov2 (n+30000)) (n+30000) 40 β 442 zCI [] k=k zB9 []:=by kernel_rfl
def ov3:List (Nat × (Nat→Dk)):=(442,zeT [(zCI,zB9)] 30000)::ov2
theorem zXB:zhw (yn rows) 160 ov3:=zlW zYf 442 _ ⟨zNW,trivial⟩
theorem zNk(β:Type)(n:Nat)(k:V→Bor→Option β):zeY (yn rows) (ovF ov3 (n+30000)) (n+30000) 40 β 474 zDw [] k=k zCd []:=by kernel_rfl
def ov4:List (Nat × (Nat→Dk)):=(474,zeT [(zDw,zCd)] 30000)::ov3
theorem zY6:zhw (yn rows) 200 ov4:=zlW zXB 474 _ ⟨zNk,trivial⟩
theorem zNM(β:Type)(n:Nat)(k:V→Bor→Option β):zeY (yn rows) (ovF ov4 (n+30000)) (n+30000) 40 β 484 zDp [] k=k zC4 []:=by kernel_rfl
def ov5:List (Nat × (Nat→Dk)):=(484,zeT [(zDp,zC4)] 30000)::ov4
theorem zXT:zhw (yn rows) 240 ov5:=zlW zY6 484 _ ⟨zNM,trivial⟩
theorem zNj(β:Type)(n:Nat)(k:V→Bor→Option β):zeY (yn rows) (ovF ov5 (n+30000)) (n+30000) 40 β 443 zCP [] k=k zCm []:=by kernel_rfl
def ov6:List (Nat × (Nat→Dk)):=(443,zeT [(zCP,zCm)] 30000)::ov5
theorem zX0:zhw (yn rows) 280 ov6:=zlW zXT 443 _ ⟨zNj,trivial⟩
theorem zQp(β:Type)(n:Nat)(k:V→Bor→Option β):zeY (yn rows) (ovF ov6 (n+30000)) (n+30000) 40 β 517 zH3 [] k=k zHS []:=by kernel_rfl
def ov7:List (Nat × (Nat→Dk)):=(517,zeT [(zH3,zHS)] 30000)::ov6
theorem zXL:zhw (yn rows) 320 ov7:=zlW zX0 517 _ ⟨zQp,trivial⟩
theorem zLT(β:Type)(n:Nat)(k:V→Bor→Option β):zeY (yn rows) (ovF ov7 (n+30000)) (n+30000) 40 β 522 zAW [] k=k zA0 []:=by kernel_rfl
def ov8:List (Nat × (Nat→Dk)):=(522,zeT [(zAW,zA0)] 30000)::ov7
theorem zYF:zhw (yn rows) 360 ov8:=zlW zXL 522 _ ⟨zLT,trivial⟩
theorem zHA(β:Type)(n:Nat)(k:V→Bor→Option β):zeY (yn rows) (ovF ov8 (n+30000)) (n+30000) 40 β 444 zvY [] k=k zvP []:=by kernel_rfl
def ov9:List (Nat × (Nat→Dk)):=(444,zeT [(zvY,zvP)] 30000)::ov8
theorem zXX:zhw (yn rows) 400 ov9:=zlW zYF 444 _ ⟨zHA,trivial⟩
theorem zL1(β:Type)(n:Nat)(k:V→Bor→Option β):zeY (yn rows) (ovF ov9 (n+30000)) (n+30000) 40 β 445 zAZ [] k=k zAQ []:=by kernel_rfl
def zTJ:List (Nat × (Nat→Dk)):=(445,zeT [(zAZ,zAQ)] 30000)::ov9
theorem zWG:zhw (yn rows) 440 zTJ:=zlW zXX 445 _ ⟨zL1,trivial⟩
theorem zM2(β:Type)(n:Nat)(k:V→Bor→Option β):zeY (yn rows) (ovF zTJ (n+30000)) (n+30000) 40 β 422 zBC [] k=k zCS []:=by kernel_rfl
def zUi:List (Nat × (Nat→Dk)):=(422,zeT [(zBC,zCS)] 30000)::zTJ
theorem zWA:zhw (yn rows) 480 zUi:=zlW zWG 422 _ ⟨zM2,trivial⟩
theorem zWX(β:Type)(n:Nat)(k:V→Bor→Option β):zeY (yn rows) (ovF zUi (n+30000)) (n+30000) 40 β 548 zQd [] k=k zPS []:=by kernel_rfl
def zOt:List (Nat × (Nat→Dk)):=(548,zeT [(zQd,zPS)] 30000)::zUi
theorem zWM:zhw (yn rows) 520 zOt:=zlW zWA 548 _ ⟨zWX,trivial⟩
theorem zLZ(β:Type)(n:Nat)(k:V→Bor→Option β):zeY (yn rows) (ovF zOt (n+30000)) (n+30000) 40 β 542 zAw [] k=k zAC []:=by kernel_rfl
theorem zLI(β:Type)(n:Nat)(k:V→Bor→Option β):zeY (yn rows) (ovF zOt (n+30000)) (n+30000) 40 β 542 zAN [] k=k zAL []:=by kernel_rfl
theorem zLX(β:Type)(n:Nat)(k:V→Bor→Option β):zeY (yn rows) (ovF zOt (n+30000)) (n+30000) 40 β 542 zAO [] k=k zAJ []:=by kernel_rfl
def zT3:List (Nat × (Nat→Dk)):=(542,zeT [(zAw,zAC),(zAN,zAL),(zAO,zAJ)] 30000)::zOt
theorem zWF:zhw (yn rows) 560 zT3:=zlW zWM 542 _ ⟨zLZ,zLI,zLX,trivial⟩
end
end
section
noncomputable section
theorem zNm(β:Type)(n:Nat)(k:KK β):zeY (yn rows) (ovF zT3 (n+30000)) (n+30000) 40 β 669 [] [] k=k (.sc (.bool true)) []:=by kernel_rfl
theorem zKw(L:Nat):FOk (yn rows) L 669 (zuF yU L) 600:=zPQ zWF L 40 669 (zWr (X:=fun L β a b k=>zeY (yn rows) (ovF zT3 L) L 40 β 669 a b k) zNm L)
theorem zA8(L:Nat):FOk (yn rows) L 668 (zmc zbC L) 601:=yx (D:=600) (by kernel_rfl) fun m hm=>⟨zlo,zkJ yU zaa yN zD xz yg L,(xi (xi (xi (xi (xi (xi xw (zKw L m (by omega))) (zJD L m (by omega))) (zGc L m (by omega))) (zGP L m (by omega))) (zBa L m (by omega))) (zro L m (by omega))),zzQ L⟩
end
end
section
open Go.ChangeShapes Go.WideShapes Go.ChangeAt Go.RowKit
theorem zK6{H:Type}{enc:TypeId × Value→H}{P:Program}{w:World}{base:Nat}{spare:Nat→Bool}{held:Bool}{fuel n:Nat}{t e:TypeId}{k:IntKind}{cs:List Value}{d:DataW H}{p:List MemPlace}(ht:P.underlying t=some (.array n e))(he:P.underlying e=some (.int k))(hc:P.cellsOf e=1)
  (ns:List Int) (hd:d=.agg (ns.map fun x=>.lit (.int k x))) (h:DataW.trod enc P w base spare held fuel t cs=some (d,p)) {i:Nat} (hi:i<n):cs[i]?=some (.int k (ns.getD i 0)):=by
 obtain ⟨xs,m,_,hx,_,hlen,hel⟩:=DataW.trod_array ht h
 have h1:=hel i hi
 rw [hc,Yb] at h1
 have hxi:xs[i]?=some (xs[i]'(by omega)):=Wc _
 rw [hxi] at h1
 obtain ⟨v,e1,e2,_⟩:=DataW.trod_int he h1
 simp only [Prod.mk.injEq] at hx
 have h2:d=.agg (xs.map (·.1)):=hx.1
 rw [hd] at h2
 have h3:ns.map (fun x=>DataW.lit (H:=H) (.int k x))=xs.map (·.1):=by injection h2
 have h4:=congrArg (fun l=>l[i]?) h3
 simp only [WJ,hxi,Option.map_some,e2] at h4
 have h5:ns[i]?=some v:=by
  cases hq:ns[i]? with
  | none=>rw [hq] at h4; cases h4
  | some q=>
   rw [hq] at h4
   simp only [Option.map_some,Option.some.injEq] at h4
   injection h4 with h6
   injection h6 with _ h7
   rw [h7]
 rw [Ws,h5]
 have h8:=congrArg (fun l=>l[0]?) e1
 simp only [List.getElem?_take,List.getElem?_drop] at h8
 simpa using h8
theorem zMM{k:IntKind}{ns:List Int}{i:Nat}{v:V}(h:(row k ns)[i]?=some v):i<ns.length∧v=.sc (.int k (ns.getD i 0)):=by
 unfold row at h
 rw [WJ] at h
 cases hq:ns[i]? with
 | none=>rw [hq] at h; cases h
 | some q=>
  rw [hq] at h
  obtain ⟨hi,_⟩:=List.getElem?_eq_some_iff.1 hq
  refine ⟨hi,?_⟩
  rw [Ws,hq]
  simpa using h.symm
def zIx{H:Type}:List (String × DataW H):=[("lightclient/sha.k",Rows.laid_lightclient_sha_k),("lightclient/sha.initial",Rows.laid_lightclient_sha_initial)]
theorem gK:Tryz.prog.globalNamed "lightclient/sha.k"=some 1:=by kernel_rfl
theorem gI:Tryz.prog.globalNamed "lightclient/sha.initial"=some 0:=by kernel_rfl
theorem tK:(Tryz.prog.globals[1]?).map (·.type)=some 230:=by kernel_rfl
theorem tI:(Tryz.prog.globals[0]?).map (·.type)=some 206:=by kernel_rfl
theorem zWb{W:World}(h:laidMetH Tryz.prog zIx W):GV (zbc fg gls) W zjZ:=by
 rw [MakeChecks.laidMetH_plain _ _ _ (by kernel_rfl)] at h
 obtain ⟨ps,⟨g0,t0,cs0,f0,p0,q0,hg0,ht0,hv0,hd0,⟨g1,t1,cs1,f1,p1,q1,hg1,ht1,hv1,hd1,_,_⟩,_⟩,_,_⟩:=h
 obtain rfl:=QV (gK.symm.trans hg0)
 obtain rfl:=QV (gI.symm.trans hg1)
 obtain rfl:=QV (tK.symm.trans ht0)
 obtain rfl:=QV (tI.symm.trans ht1)
 have eu:Tryz.prog.underlying 22=some (.int .u32):=by kernel_rfl
 have ec:Tryz.prog.cellsOf 22=1:=by kernel_rfl
 have ek:Tryz.prog.underlying 230=some (.array 64 22):=by kernel_rfl
 have ei:Tryz.prog.underlying 206=some (.array 8 22):=by kernel_rfl
 have dk:(Rows.laid_lightclient_sha_k:DataW Unit)=.agg (kc.map fun x=>.lit (.int .u32 x)):=rfl
 have di:(Rows.laid_lightclient_sha_initial:DataW Unit)=.agg (init0.map fun x=>.lit (.int .u32 x)):=rfl
 intro g cs hg i v hv
 have hg':(gls.find? (fun e=>e.1==g)).map (·.2)=some cs:=hg
 by_cases hk:g=1
 ·subst hk
  obtain rfl:gk_sha_k=cs:=QV ((show (gls.find? (fun e=>e.1==1)).map (·.2)=some gk_sha_k from rfl).symm.trans hg')
  obtain ⟨hi,rfl⟩:=zMM (k:=.u32) (ns:=kc) hv
  refine ⟨_,rfl,rfl,fun hw=>hw,?_⟩
  rw [World.var?_cell gK hv0 i,W5.symm]
  exact zK6 ek eu ec kc dk hd0 hi
 ·by_cases hk2:g=0
  ·subst hk2
   obtain rfl:gk_sha_initial=cs:=QV ((show (gls.find? (fun e=>e.1==0)).map (·.2)=some gk_sha_initial from rfl).symm.trans hg')
   obtain ⟨hi,rfl⟩:=zMM (k:=.u32) (ns:=init0) hv
   refine ⟨_,rfl,rfl,fun hw=>hw,?_⟩
   rw [World.var?_cell gI hv1 i,W5.symm]
   exact zK6 ei eu ec init0 di hd1 hi
  ·exfalso
   have e:gls=[(0,gk_sha_initial),(1,gk_sha_k)]:=rfl
   rw [e] at hg'
   simp only [List.find?_cons,List.find?_nil,beq_eq_false_iff_ne.2 (Ne.symm hk),beq_eq_false_iff_ne.2 (Ne.symm hk2)] at hg'
   cases hg'
theorem zUS(os:Os)(args:Array Value):laidMetH Tryz.prog zIx ((World.doorLaid Tryz.prog 400 os).forCall (fun _ _=>0) ⟨#[],args,[]⟩).memory:=
 laidMetH_of_parts3 (fuel:=8) (laidMet_of_run' 8 (by kernel_rfl) (by kernel_rfl)) (by kernel_rfl) (by kernel_rfl)
end
section
theorem zaC{a b:Bool}(ha:a=true)(hb:b=true):(a&&b)=true:=by rw [ha,hb]; rfl
theorem zVS:laidOutB Tryz.prog=true:=by kernel_rfl
theorem zV2:mapsRowed Tryz.prog=true:=by kernel_rfl
theorem zTP:(Tryz.prog.stops==[])=true:=by kernel_rfl
theorem zUB:(Tryz.prog.stopKnobs==[])=true:=by kernel_rfl
theorem zUf:Tryz.prog.stopsHeard=true:=by kernel_rfl
theorem zTY:Tryz.prog.mayEnter=true:=by kernel_rfl
theorem zT5:(false==Tryz.prog.liftsFinal)=true:=by kernel_rfl
theorem zWJ:(false==Tryz.prog.plainKeys)=true:=by kernel_rfl
end
section
namespace blockBackL
open Go.ChangeShapes Go.WideShapes Go.ChangeAt Go.RowKit
theorem own:ownKnob Tryz.prog.godebug=none:=by kernel_rfl
theorem zPH:laidOutB Tryz.prog=true:=by kernel_rfl
set_option maxRecDepth 100000 in
theorem zYR(os:Os)(started:os.Started)(H:Type)(enc:TypeId × Value→H) :
  ReturnsInHanded {} Tryz.checked os 10 .any (fun w args=>(Rows.blockBackSpec.pre enc Tryz.prog Tryz.f10 [] false w args∧laidMetH Tryz.prog zIx w)∧sizedMet enc Tryz.prog Tryz.f10 (OpenSpec.ofChange Rows.blockBackSpec) false w args)
   (Rows.blockBackSpec.post enc Tryz.prog Tryz.f10 false true false false):=by
 refine returnsInHanded_of_change_and (C:=Tryz.checked) (X:=fun w _=>laidMetH Tryz.prog zIx w) (fun _ _ _ hh h=>h.of_heap hh) own started (by kernel_rfl) Tryz.func10
  (ChangeSpec.witness_shaped (enc:=enc) (C:=Tryz.checked) (os:=os) (X:=fun w _=>laidMetH Tryz.prog zIx w) false (World.doorLaid Tryz.prog 400 os) #[.agg (#[(Value.int .u32 0)]++Array.replicate 64 (Value.int .u8 0)++Array.replicate 3 (Value.int .u32 0)++#[(Value.slice none 0 0)]),.slice none 0 0] 8 rfl (World.shaped_of_RefB (by kernel_rfl) (by kernel_rfl)) (by kernel_rfl) (by kernel_rfl) (by kernel_rfl) (zUS os _)) ?_
 intro W base args ds gs before hval0 hW hcnd _ hlaid _
 have hval:∀ (j:Nat) t v,Tryz.f10.params[j]?=some t→args[j]?=some v→Value.okWide Tryz.prog W .any base t v:=hval0
 have hW':=hW
 obtain ⟨p,q,hA0,hV,rfl,hfz,hnd⟩:=hW
 have hA:DataW.TrodAll enc Tryz.prog W 0 (fun _=>true) true Tryz.f10.params.toList args.toList ds p:=hA0
 rw [Tryz.params10] at hA hval
 obtain ⟨v0,vs0,d0,ds0,p0,q0,hargs,rfl,rfl,h0,r0⟩:=trodAll_cons hA
 obtain ⟨v1,vs1,d1,ds1,p1,q1,rfl,rfl,rfl,h1,r1⟩:=trodAll_cons r0
 obtain ⟨rfl,rfl,rfl⟩:=trodAll_nil r1
 obtain rfl:args=#[v0,v1]:=by cases args; simp_all
 obtain ⟨rfl,rfl⟩:=trodVars_none hV
 have k0:=h0
 have lt0:∀ x∈p0,x.block<W.heap.size:=by obtain ⟨m,hm⟩:=k0; exact DataW.trod_lt m _ _ _ hm
 have k1:=h1
 have lt1:∀ x∈p1,x.block<W.heap.size:=by obtain ⟨m,hm⟩:=k1; exact DataW.trod_lt m _ _ _ hm
 obtain ⟨a0,wf0,rp0⟩:=zWj (ren:=zbc fg gls) (d:=20) (cts:=[.int .u32]++We 64 (.int .u8)++We 3 (.int .u32)++[.sl ([.int .u32]++[.sl (We 32 (.int .u8)++We 2 (.int .u32)++[.sl ([.sl ([.int .u8])])])]++[.sl ([.int .i64]++[.sl ([.int .u8])])]++[.int .u32])]) (by kernel_rfl) (hval 0 29 v0 rfl rfl) h0 (by kernel_rfl)
 obtain ⟨A1,len1,cap1,rfl⟩:=okWide_slice Tryz.underlying32 (hval 1 32 v1 rfl rfl)
 obtain ⟨x1,hx1,rp1⟩:=zVH (r:=.any) (b0:=base) (ren:=zbc fg gls) (d:=20) (ct:=.sl ([.int .u8])) rfl h1 (by kernel_rfl)
 obtain ⟨a1,rfl,hl1,wf1⟩:=hx1.sl_inv
 clear hA0 hval0
 obtain ⟨L,hL⟩:=zHk a0 a1 wf0 hl1 wf1
 have hd:zmc zbC L Bool [(V.agg a0),(V.sl 1 a1)] [] zDT=some true:=by
  show (aG (V.agg a0) fun x0=>aL 1 (V.sl 1 a1) fun x1=>zbC Bool L x0 x1 (fun p=>zDT (V.sc (.bool p)) []))=some true
  rw [zZy,zZu]
  exact (hL (fun p=>zDT (V.sc (.bool p)) [])).trans rfl
 obtain ⟨v,b,hev,hk⟩:=zA8 L 1000 (by decide) Bool [(V.agg a0),(V.sl 1 a1)] [] zDT true hd
 have hv:=zS5 hk
 subst hv
 refine (zQA (us:=[v0,.slice A1 len1 cap1]) (w:=W) (zWb hlaid) (zZI L 1000) (f:=10) (by kernel_rfl) rfl (fun i x u hx hu=>?_) hev).mono fun e W' ⟨he,bel0⟩=>?_
 ·match i,hx,hu with
  | 0,hx,hu=>cases hx; cases hu; exact rp0
  | 1,hx,hu=>cases hx; cases hu; exact rp1
  | n+2,hx,hu=>simp at hx
 ·have bel:=Kept.below bel0
  subst he
  exact ⟨_,rfl,_,_,_,[],_,[],hW',trodAll_mk1 (shut_bool Tryz.underlying4 _),(trodAll_cons_mk (Below.trod zPH (by kernel_rfl) (of_decide_eq_true (by kernel_rfl)) k0 bel lt0) (trodAll_cons_mk (Below.trod zPH (by kernel_rfl) (of_decide_eq_true (by kernel_rfl)) k1 bel lt1) trodAll_mk0)),rfl,bel.frame _,fun h=>by cases h⟩
theorem zZN:(Rows.blockBackRow.wf (OpenSpec.ofChange Rows.blockBackSpec))=true:=by kernel_rfl
theorem zZh:(Tryz.f10.params.all (Tryz.prog.readableRec ·))=true:=by kernel_rfl
theorem zZC:(namedTie Tryz.prog Rows.blockBackRow.named Rows.blockBackSpec.vars)=true:=by kernel_rfl
theorem zZk:((Rows.blockBackRow.stops==[]))=true:=by kernel_rfl
theorem zZv:((Rows.blockBackRow.knobs==[]))=true:=by kernel_rfl
theorem zZP:((Rows.blockBackRow.inPlace==Tryz.prog.inPlace 10))=true:=by kernel_rfl
theorem zZe:((Rows.blockBackRow.unfollowed==Tryz.prog.unfollowed 10))=true:=by kernel_rfl
theorem zXG:((Rows.blockBackRow.recurses==Tryz.prog.recurses 10))=true:=by kernel_rfl
theorem zXs:((Rows.blockBackRow.named==Tryz.prog.varsNamed 10))=true:=by kernel_rfl
theorem zXd:((Rows.blockBackRow.maps==(Tryz.f10.params.toList++Rows.blockBackSpec.plain.varTypes Tryz.prog).any (Tryz.prog.mapsRec ·)))=true:=by kernel_rfl
theorem zXk:((Rows.blockBackRow.ifaces==(Tryz.f10.params.toList++Rows.blockBackSpec.plain.varTypes Tryz.prog).any (Tryz.prog.ifacesRec ·)))=true:=by kernel_rfl
theorem zYW:((Rows.blockBackRow.mapsOut==Tryz.prog.mapsAmong Tryz.f10.resultTypes.toList))=true:=by kernel_rfl
theorem zXZ:((Rows.blockBackRow.loops==(Tryz.f10.params.toList++Rows.blockBackSpec.plain.varTypes Tryz.prog).any (Tryz.prog.loopsFrom ·)))=true:=by kernel_rfl
theorem zXH:((Rows.blockBackRow.wideKeys==(Tryz.f10.params.toList++Rows.blockBackSpec.plain.varTypes Tryz.prog++Tryz.f10.resultTypes.toList).any (Tryz.prog.wideKeysFrom ·)))=true:=by kernel_rfl
theorem zYs:(Rows.blockBackSpec.vars.all (Tryz.prog.varReadable ·))=true:=by kernel_rfl
theorem zXx:(Tryz.f10.resultTypes.all (fun t=>Tryz.prog.readableRec t&&decide (t<Tryz.prog.types.size)))=true:=by kernel_rfl
theorem zYV:((Rows.blockBackRow.ifacesOut==Tryz.f10.resultTypes.toList.any (Tryz.prog.ifacesRec ·)))=true:=by kernel_rfl
theorem zYX:((Rows.blockBackRow.loopsOut==Tryz.f10.resultTypes.toList.any (Tryz.prog.loopsFrom ·)))=true:=by kernel_rfl
theorem zXS:(Rows.blockBackRow.shortTexts.isNone)=true:=by kernel_rfl
theorem zXV:((Tryz.prog.make==some Rows.blockBackRow.make))=true:=by kernel_rfl
theorem zXh:((Rows.blockBackRow.kinds==(if Rows.blockBackRow.domain.isEmpty then [] else Tryz.f10.params.toList.map fun t=>match Tryz.prog.underlying t with | some (.int k)=>some k | _=>none)))=true:=by kernel_rfl
theorem zXt:((Rows.blockBackRow.pinned==Rows.blockBackRow.pinnedBy))=true:=by kernel_rfl
theorem zXp:((Rows.blockBackRow.veiled==(Tryz.f10.params.toList++Rows.blockBackSpec.plain.varTypes Tryz.prog++Tryz.f10.resultTypes.toList).any (Tryz.prog.veiledRec ·)))=true:=by kernel_rfl
theorem zYx:(Rows.blockBackRow.veiledFits Tryz.prog Tryz.f10.params.toList (Tryz.f10.params.toList++Rows.blockBackSpec.plain.varTypes Tryz.prog++Tryz.f10.resultTypes.toList))=true:=by kernel_rfl
theorem zY0:joinedFacts Tryz.prog 10 Tryz.f10 Rows.blockBackSpec Rows.blockBackRow=true:=by
 unfold joinedFacts
 exact (zaC (zaC (zaC (zaC (zaC (zaC (zaC (zaC (zaC (zaC (zaC (zaC (zaC (zaC (zaC (zaC (zaC (zaC (zaC (zaC (zaC (zaC (zaC (zaC (zaC (zaC (zaC (zaC (zaC (zaC (zaC zZN zVS) zV2) zZh) zZC) zZk) zTP) zZv) zUB) zZP) zZe) zXG) zXs) zXd) zXk) zYW) zXZ) zXH) zYs) zXx) zYV) zYX) zWJ) zXS) zUf) zTY) zT5) zXV) zXh) zXt) zXp) zYx)
theorem inst:Tryz.f10.isInstance Tryz.prog Rows.blockBackRow.origin Rows.blockBackRow.targs:=of_decide_eq_true (by kernel_rfl)
theorem xa:Tryz.f10.isWrapper Tryz.prog Rows.blockBackRow.wrapper Rows.blockBackRow.mainSum:=by
 unfold Func.isWrapper
 first | (rw [if_pos (by decide +kernel)]; kernel_rfl) | (rw [if_neg (by decide +kernel)]; exact ⟨rfl,rfl⟩)
theorem zeq:Tryz.prog.funcNamed Rows.blockBackRow.func=some 10:=by kernel_rfl
theorem over:Rows.blockBackRow.holds Tryz.pinned (OpenSpec.ofChange Rows.blockBackSpec):=
 OpenClaim.holds_of_wide 10 Tryz.f10 rfl rfl rfl rfl rfl rfl rfl ⟨rfl,rfl,rfl,rfl,rfl⟩ rfl rfl rfl rfl rfl zeq Tryz.func10 zY0 inst xa
  (fun os started H enc _=>zYR os started H enc)
theorem card:Claim7.holds Tryz.pinned (.plain (OpenSpec.ofChange Rows.blockBackSpec)) Rows.blockBackCard:=
 Claim7.holds_tied_plain_at .later [] [.data,.data] true (true,"605e51a862096062536ad9be249d0ad3e318cc34ccb4262f49b7334d7bd3505f") false
  over (fun _ h=>by cases h) (by kernel_rfl) (fun _ h=>by cases h) blockBack_row_tie rfl ⟨rfl,rfl⟩ (by kernel_rfl) rfl
  (fun f fn hf hfn=>by
   obtain rfl:f=10:=QV ((show Tryz.prog.funcNamed "lightclient/lightclientlaw11.BlockBack"=some 10 by kernel_rfl).symm.trans hf) |>.symm
   obtain rfl:fn=Tryz.f10:=(QV (Tryz.func10.symm.trans hfn)).symm
   exact ⟨by kernel_rfl,fun j t ht=>by
    rw [Tryz.params10] at ht
    have hm:t∈[29,32]:=by simpa using Array.mem_of_getElem? ht
    have hall:([29,32].all fun u=>!Tryz.prog.wantsStandIn u)=true:=by kernel_rfl
    exact (show Tryz.prog.wantsStandIn t=false by simpa using List.all_eq_true.1 hall t hm)⟩)
  (by kernel_rfl)
end blockBackL
theorem blockBack_holds:Rows.BlockBackCardSaid:=blockBackL.card
end
end Go.Proofs.YtgmhijonllockaaGreatDoor
