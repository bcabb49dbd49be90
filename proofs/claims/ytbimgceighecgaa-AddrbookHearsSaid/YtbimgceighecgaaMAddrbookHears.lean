/- AddrbookHears: for every input the call returns true, and each argument reads afterwards as it read before. No condition. -/
import Derived.Test.YtbimgceighecgaaMAddrbookHears13
namespace Go.Proofs.Ytbimgceighecgaa
section
set_option linter.unusedVariables false
set_option linter.unusedSimpArgs false
variable {β:Type}
theorem zCM(n:Int):0≤IntKind.wrap .u64 n∧IntKind.wrap .u64 n≤18446744073709551615:=by
 unfold IntKind.wrap
 simp only [IntKind.signed,Bool.false_and,Bool.false_eq_true,if_false,IntKind.bits]
 have h1:=Int.emod_nonneg n (show (2 ^ 64:Int)≠0 by decide)
 have h2:=Int.emod_lt_of_pos n (show (0:Int)<2 ^ 64 by decide)
 omega
theorem zzh(s m1:List Int)(m2:Int→List Int):0≤bkt s m1 m2∧bkt s m1 m2<64:=by
 unfold bkt
 generalize hx:zpf (zCj s) (zC6 s) (m2 (IntKind.wrap .u32 (Int.tmod (zpf (zCj s) (zC6 s) m1) 4)))=x
 have h0:0≤x:=by
  rw [← hx]; unfold zpf zC2 zz4 zaX; exact (zCM _).1
 have h1:=Int.tmod_nonneg 64 h0
 have h2:=Int.tmod_lt_of_pos x (show (0:Int)<64 by decide)
 rw [zW (by omega) (by omega)]
 exact ⟨h1,h2⟩
theorem zzi(s:List Int)(e:Plc):0≤hbf s e∧hbf s e<64:=by unfold hbf hbk; exact zzh _ _ _
theorem zzb(s:List Int)(e:Plc):0≤tbf s e∧tbf s e<64:=by unfold tbf tbk; exact zzh _ _ _
def nmv(a:Adr):V:=.agg [.sc (.int .u32 a.h),.sc (.int .u16 a.p)]
def zcC(N:List Adr):List (V × V):=N.map fun a=>(nmv a,.sc (.bool true))
theorem zA1(a b:Adr):ziz (nmv a) (nmv b)=some (xA a b):=by
 simp [ziz,nmv,zeY,xA]
theorem zhK(a b:Adr):xA a b=xA b a:=by
 unfold xA; rw [Bool.beq_comm (a:=a.h),Bool.beq_comm (a:=a.p)]
theorem zv9(a:Adr):∀ N:List Adr,zo8 (nmv a) (zcC N)=some (if N.any (fun x=>xA x a) then some (.sc (.bool true)) else none)
 | []=>rfl
 | x::N=>by
  have ih:=zv9 a N
  simp only [zcC,List.map_cons,zo8,zA1,List.any_cons,zhK x a] at ih ⊢
  cases xA a x with
  | true=>rfl
  | false=>simpa using ih
theorem zxw(a:Adr):∀ N:List Adr,N.any (fun x=>xA x a)=false→zwM (nmv a) (.sc (.bool true)) (zcC N)=some (zcC (N++[a]))
 | [],_=>rfl
 | x::N,h=>by
  rw [List.any_cons,Bool.or_eq_false_iff,zhK] at h
  have ih:=zxw a N h.2
  simp only [zcC,List.map_cons,zwM,zA1,h.1,List.cons_append] at ih ⊢
  rw [ih]; rfl
theorem zzc(a:Adr)(N:List Adr)(K:Bool→Option β):(mAt 4 (V.agg (List.take 2 [(Qc a.h),(Qb a.p)])) (zcC N) fun q=>aB (Option.getD q (V.sc (.bool false))) K)=K (N.any (fun x=>xA x a)):=by
 have e:V.agg (List.take 2 [(Qc a.h),(Qb a.p)])=nmv a:=rfl
 rw [e]
 have h:zhR 4 (nmv a)=true:=rfl
 simp only [mAt,h,zv9]
 cases N.any (fun x=>xA x a) <;> rfl
theorem zx8{a:Adr}{N:List Adr}(h:N.any (fun x=>xA x a)=false)(K:List (V × V)→Option β):zrd 4 (V.agg (List.take 2 [(Qc a.h),(Qb a.p)])) (V.sc (.bool true)) (zcC N) K=K (zcC (N++[a])):=by
 have e:V.agg (List.take 2 [(Qc a.h),(Qb a.p)])=nmv a:=rfl
 rw [e]
 have h':zhR 4 (nmv a)=true:=rfl
 simp only [zrd,h',zxw a N h]
theorem zHw(L:Nat)(b:Bk)(e:Plc)(k:Int→List V→Option β):yi β (L+100) e.v b.v k=k (hbf b.salt e) b.v:=by
 unfold yi ziR
 have e1:List.take 3 (List.drop 1 e.v)=e.a.v:=rfl
 rw [ya (by rw [b.len]; omega),ya (by show 1+3≤5; omega),zz (n:=e.s) rfl,b.t32,e1,zFq L b.salt b.hs]
 rfl
theorem zHc(L:Nat)(b:Bk)(e:Plc)(k:Int→List V→Option β):zi β (L+100) e.v b.v k=k (tbf b.salt e) b.v:=by
 unfold zi zjx
 have e1:List.take 3 (List.drop 1 e.v)=e.a.v:=rfl
 rw [ya (by rw [b.len]; omega),ya (by show 1+3≤5; omega),b.t32,e1,zG0 L b.salt b.hs]
 rfl
theorem zy0{v:Int}{pre:List Plc}(h:∀ x∈pre,x.b<v):zaG v pre=0:=by
 unfold zaG
 rw [List.filter_eq_nil_iff.2 (fun x hx=>by have:=h x hx; simp; omega)]; rfl
structure Inv (pre:List Plc) (la ru:Int):Prop where
 le:∀ x∈pre,x.b≤la
 ru:ru=(zaG la pre:Nat)
 ex:(la=-1∧pre=[])∨∃ x∈pre,x.b=la
 mn:-1≤la
theorem Inv.next{pre:List Plc}{la ru:Int}(h:Inv pre la ru){e:Plc}(he:la≤e.b):Inv (pre++[e]) e.b ((zaG e.b (pre++[e]):Nat):Int):=
 ⟨fun x hx=>by
  rcases List.mem_append.1 hx with hx | hx
  ·have:=h.le x hx; omega
  ·simp at hx; subst hx; exact Int.le_refl _,rfl,.inr ⟨e,by simp,rfl⟩,by have:=h.mn; omega⟩
theorem zDP{bk:Plc→Int}{N:List Adr}{pre:List Plc}{la ru:Int}(h:Inv pre la ru){e:Plc}(hb:0≤bk e)(he:e.b<la):okS bk N pre e=false:=by
 rw [Bool.eq_false_iff]
 intro H
 have h1:=zEa H
 rcases h.ex with ⟨h2,h3⟩ | ⟨x,hx,h2⟩
 ·simp only [okS,Bool.and_eq_true,beq_iff_eq] at H
  omega
 ·have:=h1 x hx; omega
theorem zDE{bk:Plc→Int}{N:List Adr}{pre:List Plc}{la ru:Int}(h:Inv pre la ru){e:Plc}(he:la≤e.b):okS bk N pre e=(e.b==bk e&&(decide (zaG e.b (pre++[e])≤8)&&!((N++pre.map Plc.a).any (fun a=>xA a e.a)))):=by
 unfold okS
 have h1:pre.all (fun x=>decide (x.b≤e.b))=true:=List.all_eq_true.2 fun x hx=>decide_eq_true (by have:=h.le x hx; omega)
 rw [h1,Bool.true_and,zha,if_pos rfl,List.any_append,List.any_map,Bool.not_or]
 have e1:decide (zaG e.b pre+1≤8)=decide (zaG e.b pre≤7):=decide_eq_decide.2 (by omega)
 rw [e1]
 congr 2
 rw [Bool.and_comm]; rfl
theorem zCw(L:Nat)(b:Bk)(l:List Plc)(hl:l.length≤1000)(N:List Adr)(kr:Bool→List (V × V)→List V→Option β)(kx:List (V × V)→List V→Option β)(R:Option β)(hr:∀ mp,kr false mp b.v=R):∀ (m i:Nat) (la ru:Int),i≤l.length→l.length-i<m→Inv (l.take i) la ru →
  zbR yi (L+100) kr kx m la ru (xD l) ((l.length:Nat):Int) (i:Int) (zcC (N++(l.take i).map Plc.a)) b.v=ifb (okA (hbf b.salt) N (l.take i) (l.drop i)) (kx (zcC (N++l.map Plc.a)) b.v) R:=by
 intro m
 induction m with
 | zero=>intro i la ru h1 h2; omega
 | succ m IH=>
  intro i la ru h1 h2 hi
  unfold zbR zgi
  by_cases h:i<l.length
  ·have e1:List.take 5 l[i].v=l[i].v:=rfl
   have e2:zg [(Qe (0:Int)),(Qc (0:Int)),(Qb (0:Int)),(Qc (0:Int)),(Qc (0:Int))] 0 l[i].v=l[i].v:=zlu rfl
   have hcl:zaG la (l.take i)≤l.length:=by
    unfold zaG
    exact Nat.le_trans (List.length_filter_le _ _) (by rw [List.length_take]; omega)
   rw [zaK (by omega),zbc (zbs h),e1,ya ⟨rfl,by omega⟩,xq,e2,zz (n:=l[i].b) rfl,xN,List.drop_eq_getElem_cons h,okA]
   by_cases hlt:l[i].b<la
   ·rw [if_pos hlt,zDP hi (zzi _ _).1 hlt,Bool.false_and,hr]; rfl
   ·rw [if_neg hlt,zz (n:=l[i].b) rfl,ya (by show 0+5≤5; omega),e1,zHw,ya rfl,zlr,zDE hi (by omega)]
    by_cases hb:l[i].b=hbf b.salt l[i]
    ·have hi':=hi.next (e:=l[i]) (by omega)
     have key:∀ ru':Int,ru'=((zaG l[i].b (l.take i++[l[i]]):Nat):Int) →
       (cI .u32 l[i].v 1 fun v9=>
        cI .u16 l[i].v 2 fun v10=>
        lt [(Qc v9),(Qb v10)] fun r11=>
        ifb (decide (ru'>(8:Int))) (
        kr false (zcC (N++(l.take i).map Plc.a)) b.v) (
        chk (0+2≤(List.length r11)) (
        mAt 4 (V.agg (List.take 2 r11)) (zcC (N++(l.take i).map Plc.a)) fun q12=>
        aB (Option.getD q12 (V.sc (.bool false))) fun v13=>
        ifb v13 (
        kr false (zcC (N++(l.take i).map Plc.a)) b.v) (
        chk (0+2≤(List.length r11)) (
        zrd 4 (V.agg (List.take 2 r11)) (V.sc (.bool true)) (zcC (N++(l.take i).map Plc.a)) fun m14=>
        lt (IntKind.wrap .i64 ((i:Int)+(1:Int))) fun x15=>
        zbR yi (L+100) kr kx m l[i].b ru' (xD l) ((l.length:Nat):Int) x15 m14 b.v)))))
       = ifb (decide (zaG l[i].b (l.take i++[l[i]])≤8)&&!((N++(l.take i).map Plc.a).any (fun a=>xA a l[i].a))&&okA (hbf b.salt) N (l.take i++[l[i]]) (l.drop (i+1))) (kx (zcC (N++l.map Plc.a)) b.v) R:=by
      intro ru' hru
      rw [zz (n:=l[i].a.h) rfl,zz (n:=l[i].a.p) rfl,xq,xN]
      by_cases hc:zaG l[i].b (l.take i++[l[i]])≤8
      ·rw [if_neg (by omega),decide_eq_true hc,Bool.true_and,ya (by show 0+2≤2; omega),zzc]
       cases ha:(N++(l.take i).map Plc.a).any (fun a=>xA a l[i].a) with
       | true=>exact hr _
       | false=>
        rw [zcD,ya (by show 0+2≤2; omega),zx8 ha,xq,zaH (by omega)]
        have ih:=IH (i+1) l[i].b ru' (by omega) (by omega) (by rw [List.take_succ_eq_append_getElem h,hru]; exact hi')
        rw [List.take_succ_eq_append_getElem h,List.map_append,List.map_cons,List.map_nil,← List.append_assoc] at ih
        exact ih
      ·rw [if_pos (by omega),decide_eq_false hc,hr]; rfl
     rw [if_pos hb,zz (n:=l[i].b) rfl,zlr,beq_iff_eq.2 hb,Bool.true_and]
     by_cases hll:l[i].b=la
     ·rw [if_pos hll,xq,← hll]
      have e3:IntKind.wrap .i64 (ru+1)=((zaG l[i].b (l.take i++[l[i]]):Nat):Int):=by
       rw [hi.ru,zW (by omega) (by omega),zha,if_pos rfl,hll]; omega
      exact key _ e3
     ·rw [if_neg hll,zz (n:=l[i].b) rfl,xq]
      have e3:IntKind.wrap .i64 (((0:Int):Int)+1)=((zaG l[i].b (l.take i++[l[i]]):Nat):Int):=by
       rw [zW (by omega) (by omega),zha,if_pos rfl,zy0 (fun x hx=>by have:=hi.le x hx; omega)]; rfl
      exact key _ e3
    ·rw [if_neg hb,beq_eq_false_iff_ne.2 hb,hr]; rfl
  ·rw [zaW (by omega),List.drop_of_length_le (by omega),List.take_of_length_le (by omega)]; rfl
theorem zGY(L:Nat)(b:Bk)(l:List Plc)(hl:l.length≤1000)(hL:1000<L)(N:List Adr)(k:Bool→List (V × V)→List V→Option β)(R:Option β)(hr:∀ mp,k false mp b.v=R) :
  zS β (L+100) (xD l) (zcC N) b.v k=ifb (decide (l.length≤512)&&okA (hbf b.salt) N [] l) (k true (zcC (N++l.map Plc.a)) b.v) R:=by
 unfold zS zhd zk4
 rw [yL,xN]
 by_cases h:l.length≤512
 ·rw [if_neg (by omega),decide_eq_true h,Bool.true_and,show ((0:Int))=((0:Nat):Int) from rfl]
  have:=zCw L b l hl N (fun p6 b0 b1=>zeQ yi (L+100) p6 b0 b1 k) (fun b0 b1=>ze3 yi (L+100) b0 b1 k) R (fun mp=>hr mp) (L+100) 0 (-1) 0 (by omega) (by omega) ⟨by simp,rfl,.inl ⟨rfl,rfl⟩,by omega⟩
  rw [List.take_zero,List.drop_zero,List.map_nil,List.append_nil] at this
  exact this
 ·rw [if_pos (by omega),decide_eq_false h,hr]; rfl
theorem zCY(L:Nat)(b:Bk)(l:List Plc)(hl:l.length≤1000)(N:List Adr)(kr:Bool→List (V × V)→List V→Option β)(kx:List (V × V)→List V→Option β)(R:Option β)(hr:∀ mp,kr false mp b.v=R):∀ (m i:Nat) (la ru:Int),i≤l.length→l.length-i<m→Inv (l.take i) la ru →
  zbf zi (L+100) kr kx m la ru (xD l) ((l.length:Nat):Int) (i:Int) (zcC (N++(l.take i).map Plc.a)) b.v=ifb (okA (tbf b.salt) N (l.take i) (l.drop i)) (kx (zcC (N++l.map Plc.a)) b.v) R:=by
 intro m
 induction m with
 | zero=>intro i la ru h1 h2; omega
 | succ m IH=>
  intro i la ru h1 h2 hi
  unfold zbf zeP
  by_cases h:i<l.length
  ·have e1:List.take 5 l[i].v=l[i].v:=rfl
   have e2:zg [(Qe (0:Int)),(Qc (0:Int)),(Qb (0:Int)),(Qc (0:Int)),(Qc (0:Int))] 0 l[i].v=l[i].v:=zlu rfl
   have hcl:zaG la (l.take i)≤l.length:=by
    unfold zaG
    exact Nat.le_trans (List.length_filter_le _ _) (by rw [List.length_take]; omega)
   rw [zaK (by omega),zbc (zbs h),e1,ya ⟨rfl,by omega⟩,xq,e2,zz (n:=l[i].b) rfl,xN,List.drop_eq_getElem_cons h,okA]
   by_cases hlt:l[i].b<la
   ·rw [if_pos hlt,zDP hi (zzb _ _).1 hlt,Bool.false_and,hr]; rfl
   ·rw [if_neg hlt,zz (n:=l[i].b) rfl,ya (by show 0+5≤5; omega),e1,zHc,ya rfl,zlr,zDE hi (by omega)]
    by_cases hb:l[i].b=tbf b.salt l[i]
    ·have hi':=hi.next (e:=l[i]) (by omega)
     have key:∀ ru':Int,ru'=((zaG l[i].b (l.take i++[l[i]]):Nat):Int) →
       (cI .u32 l[i].v 1 fun v9=>
        cI .u16 l[i].v 2 fun v10=>
        lt [(Qc v9),(Qb v10)] fun r11=>
        ifb (decide (ru'>(8:Int))) (
        kr false (zcC (N++(l.take i).map Plc.a)) b.v) (
        chk (0+2≤(List.length r11)) (
        mAt 4 (V.agg (List.take 2 r11)) (zcC (N++(l.take i).map Plc.a)) fun q12=>
        aB (Option.getD q12 (V.sc (.bool false))) fun v13=>
        ifb v13 (
        kr false (zcC (N++(l.take i).map Plc.a)) b.v) (
        chk (0+2≤(List.length r11)) (
        zrd 4 (V.agg (List.take 2 r11)) (V.sc (.bool true)) (zcC (N++(l.take i).map Plc.a)) fun m14=>
        lt (IntKind.wrap .i64 ((i:Int)+(1:Int))) fun x15=>
        zbf zi (L+100) kr kx m l[i].b ru' (xD l) ((l.length:Nat):Int) x15 m14 b.v)))))
       = ifb (decide (zaG l[i].b (l.take i++[l[i]])≤8)&&!((N++(l.take i).map Plc.a).any (fun a=>xA a l[i].a))&&okA (tbf b.salt) N (l.take i++[l[i]]) (l.drop (i+1))) (kx (zcC (N++l.map Plc.a)) b.v) R:=by
      intro ru' hru
      rw [zz (n:=l[i].a.h) rfl,zz (n:=l[i].a.p) rfl,xq,xN]
      by_cases hc:zaG l[i].b (l.take i++[l[i]])≤8
      ·rw [if_neg (by omega),decide_eq_true hc,Bool.true_and,ya (by show 0+2≤2; omega),zzc]
       cases ha:(N++(l.take i).map Plc.a).any (fun a=>xA a l[i].a) with
       | true=>exact hr _
       | false=>
        rw [zcD,ya (by show 0+2≤2; omega),zx8 ha,xq,zaH (by omega)]
        have ih:=IH (i+1) l[i].b ru' (by omega) (by omega) (by rw [List.take_succ_eq_append_getElem h,hru]; exact hi')
        rw [List.take_succ_eq_append_getElem h,List.map_append,List.map_cons,List.map_nil,← List.append_assoc] at ih
        exact ih
      ·rw [if_pos (by omega),decide_eq_false hc,hr]; rfl
     rw [if_pos hb,zz (n:=l[i].b) rfl,zlr,beq_iff_eq.2 hb,Bool.true_and]
     by_cases hll:l[i].b=la
     ·rw [if_pos hll,xq,← hll]
      have e3:IntKind.wrap .i64 (ru+1)=((zaG l[i].b (l.take i++[l[i]]):Nat):Int):=by
       rw [hi.ru,zW (by omega) (by omega),zha,if_pos rfl,hll]; omega
      exact key _ e3
     ·rw [if_neg hll,zz (n:=l[i].b) rfl,xq]
      have e3:IntKind.wrap .i64 (((0:Int):Int)+1)=((zaG l[i].b (l.take i++[l[i]]):Nat):Int):=by
       rw [zW (by omega) (by omega),zha,if_pos rfl,zy0 (fun x hx=>by have:=hi.le x hx; omega)]; rfl
      exact key _ e3
    ·rw [if_neg hb,beq_eq_false_iff_ne.2 hb,hr]; rfl
  ·rw [zaW (by omega),List.drop_of_length_le (by omega),List.take_of_length_le (by omega)]; rfl
theorem zGM(L:Nat)(b:Bk)(l:List Plc)(hl:l.length≤1000)(hL:1000<L)(N:List Adr)(k:Bool→List (V × V)→List V→Option β)(R:Option β)(hr:∀ mp,k false mp b.v=R) :
  xJ β (L+100) (xD l) (zcC N) b.v k=ifb (decide (l.length≤512)&&okA (tbf b.salt) N [] l) (k true (zcC (N++l.map Plc.a)) b.v) R:=by
 unfold xJ zfh zio
 rw [yL,xN]
 by_cases h:l.length≤512
 ·rw [if_neg (by omega),decide_eq_true h,Bool.true_and,show ((0:Int))=((0:Nat):Int) from rfl]
  have:=zCY L b l hl N (fun p6 b0 b1=>zdP zi (L+100) p6 b0 b1 k) (fun b0 b1=>zd6 zi (L+100) b0 b1 k) R (fun mp=>hr mp) (L+100) 0 (-1) 0 (by omega) (by omega) ⟨by simp,rfl,.inl ⟨rfl,rfl⟩,by omega⟩
  rw [List.take_zero,List.drop_zero,List.map_nil,List.append_nil] at this
  exact this
 ·rw [if_pos (by omega),decide_eq_false h,hr]; rfl
def zvd(b:Bk):Bool:=(decide (b.H.length≤512)&&okA (hbf b.salt) [] [] b.H)&&(decide (b.T.length≤512)&&okA (tbf b.salt) (b.H.map Plc.a) [] b.T)
theorem zGI(L:Nat)(b:Bk)(hH:b.H.length≤1000)(hT:b.T.length≤1000)(hL:1000<L)(k:Bool→Option β):zR β (L+100) b.v k=k (zvd b):=by
 unfold zR zlh zvd
 rw [zag b.g32]
 refine (zGY L b b.H hH hL [] _ (k false) (fun mp=>ya rfl _)).trans ?_
 rw [List.nil_append]
 cases (decide (b.H.length≤512)&&okA (hbf b.salt) [] [] b.H) with
 | false=>rfl
 | true=>
  rw [zdd,ya rfl,zdd,zag b.g33]
  refine (zGM L b b.T hT hL _ _ (k false) (fun mp=>ya rfl _)).trans ?_
  cases (decide (b.T.length≤512)&&okA (tbf b.salt) (b.H.map Plc.a) [] b.T) with
  | false=>rfl
  | true=>exact ya rfl _
theorem zG1(bk:Plc→Int)(N:List Adr)(pre:List Plc)(e:Plc):okS bk N pre e=(okS bk [] pre e&&!(N.any (fun a=>xA a e.a))):=by
 unfold okS
 simp [Bool.and_assoc]
theorem zFt(bk:Plc→Int)(N:List Adr):∀ (l pre:List Plc),okA bk N pre l=(okA bk [] pre l&&l.all (fun e=>!(N.any (fun a=>xA a e.a))))
 | [],pre=>rfl
 | e::l,pre=>by
  rw [okA,okA,zG1,zFt bk N l,List.all_cons]
  cases okS bk [] pre e <;> cases (N.any (fun a=>xA a e.a)) <;> simp
theorem zEP(H T:List Plc):T.all (fun e=>!((H.map Plc.a).any (fun a=>xA a e.a)))=H.all (fun e=>!(T.any (fun x=>xA x.a e.a))):=by
 rw [Bool.eq_iff_iff]
 simp only [List.all_eq_true,Bool.not_eq_true',List.any_eq_false,List.mem_map,Bool.not_eq_true,forall_exists_index,and_imp,forall_apply_eq_imp_iff₂]
 constructor
 ·intro h x hx e he; rw [zhK]; exact h e he x hx
 ·intro h x hx e he; rw [zhK]; exact h e he x hx
theorem zEI(b:Bk):zvd b=zfI b:=by
 unfold zvd zfI
 rw [zpj,zpj,zFt (tbf b.salt) (b.H.map Plc.a),zEP]
 simp [Bool.and_assoc]
end
section
set_option linter.unusedVariables false
set_option linter.unusedSimpArgs false
def xE(l:List Plc)(v:Int):Nat:=(l.takeWhile (fun x=>decide (x.b<v))).length
def toN(l:List Plc)(v:Int):Nat:=xE l v+((l.drop (xE l v)).takeWhile (fun x=>x.b==v)).length
def zfH(l:List Plc)(p:Plc):List Plc:=l.take (toN l p.b)++[p]++l.drop (toN l p.b)
def za3(l:List Plc)(i:Nat):List Plc:=l.take i++l.drop (i+1)
def zEF(t:Int)(e:Plc):Plc:=⟨e.b,⟨e.a.h,e.a.p,zyp e.a.t t⟩,e.s⟩
def zl3(l:List Plc)(i:Nat)(t:Int):List Plc:=l.modify i (zEF t)
def zsc(l:List Plc)(i:Nat):Int:=match l[i]? with | some e=>e.a.t | none=>0
def zcI(l:List Plc):Nat→Nat→Nat→Nat
 | 0,_,m=>m
 | n+1,i,m=>zcI l n (i+1) (if zsc l i<zsc l m then i else m)
def zbX(b:Bk)(a:Adr)(src:Int):Bk × Bool:=
 if zcA (fun x=>xA x.a a) b.T 0≥0 then (⟨b.salt,b.H,zl3 b.T (zcA (fun x=>xA x.a a) b.T 0).toNat a.t,b.hs⟩,false)
 else if zcA (fun x=>xA x.a a) b.H 0≥0 then (⟨b.salt,zl3 b.H (zcA (fun x=>xA x.a a) b.H 0).toNat a.t,b.T,b.hs⟩,false)
 else if toN b.H (hbk b.salt a src)-xE b.H (hbk b.salt a src)≥8 then
  (if zsc b.H (zcI b.H (toN b.H (hbk b.salt a src)-xE b.H (hbk b.salt a src)) (xE b.H (hbk b.salt a src)) (xE b.H (hbk b.salt a src)))≥a.t then (b,false)
   else (⟨b.salt,zfH (za3 b.H (zcI b.H (toN b.H (hbk b.salt a src)-xE b.H (hbk b.salt a src)) (xE b.H (hbk b.salt a src)) (xE b.H (hbk b.salt a src)))) ⟨hbk b.salt a src,a,src⟩,b.T,b.hs⟩,true))
 else (⟨b.salt,zfH b.H ⟨hbk b.salt a src,a,src⟩,b.T,b.hs⟩,true)
def ze8(b:Bk)(e:Plc):Plc:=⟨tbk b.salt e.a,e.a,e.s⟩
def zsB(b:Bk)(i:Nat)(e:Plc):Bk:=
 if toN b.T (tbk b.salt e.a)-xE b.T (tbk b.salt e.a)≥8 then
  (match b.T[xE b.T (tbk b.salt e.a)]? with
   | some o=>(zbX ⟨b.salt,za3 b.H i,zfH (za3 b.T (xE b.T (tbk b.salt e.a))) (ze8 b e),b.hs⟩ o.a (grp o.a)).1
   | none=>b)
 else ⟨b.salt,za3 b.H i,zfH b.T (ze8 b e),b.hs⟩
theorem Srt.split3{l:List Plc}(v:Int)(h:Srt l):∃ A B C:List Plc,l=A++(B++C)∧(∀ x∈A,x.b<v)∧(∀ x∈B,x.b=v)∧(∀ x∈C,v<x.b):=by
 induction l with
 | nil=>exact ⟨[],[],[],rfl,by simp,by simp,by simp⟩
 | cons x l ih=>
  have h':=List.pairwise_cons.1 h
  obtain ⟨A,B,C,rfl,hA,hB,hC⟩:=ih h'.2
  by_cases hx:x.b<v
  ·exact ⟨x::A,B,C,rfl,by simpa using ⟨hx,hA⟩,hB,hC⟩
  ·have eA:A=[]:=by
    cases A with
    | nil=>rfl
    | cons a A=>
     have h1:=hA a (by simp)
     have h2:=h'.1 a (by simp)
     omega
   subst eA
   by_cases hxv:x.b=v
   ·exact ⟨[],x::B,C,rfl,by simp,by simpa using ⟨hxv,hB⟩,hC⟩
   ·have eB:B=[]:=by
     cases B with
     | nil=>rfl
     | cons a B=>
      have h1:=hB a (by simp)
      have h2:=h'.1 a (by simp)
      omega
    subst eB
    exact ⟨[],[],x::C,rfl,by simp,by simp,by simpa using ⟨by omega,hC⟩⟩
theorem zpi{A B C:List Plc}{v:Int}(hA:∀ x∈A,x.b<v)(hB:∀ x∈B,x.b=v)(hC:∀ x∈C,v<x.b):xE (A++(B++C)) v=A.length:=by
 unfold xE
 rw [List.takeWhile_append_of_pos (fun x hx=>decide_eq_true (hA x hx))]
 have:(B++C).takeWhile (fun x=>decide (x.b<v))=[]:=by
  cases B with
  | cons b B=>rw [List.cons_append,List.takeWhile_cons,if_neg (by have:=hB b (by simp); simp; omega)]
  | nil=>cases C with
   | nil=>rfl
   | cons c C=>rw [List.nil_append,List.takeWhile_cons,if_neg (by have:=hC c (by simp); simp; omega)]
 rw [this,List.append_nil]
theorem znO{A B C:List Plc}{v:Int}(hA:∀ x∈A,x.b<v)(hB:∀ x∈B,x.b=v)(hC:∀ x∈C,v<x.b):toN (A++(B++C)) v=A.length+B.length:=by
 unfold toN
 rw [zpi hA hB hC,List.drop_left' rfl,List.takeWhile_append_of_pos (fun x hx=>beq_iff_eq.2 (hB x hx))]
 have:C.takeWhile (fun x=>x.b==v)=[]:=by
  cases C with
  | nil=>rfl
  | cons c C=>rw [List.takeWhile_cons,if_neg (by have:=hC c (by simp); simp; omega)]
 rw [this,List.append_nil]
theorem zur{A B C:List Plc}{p:Plc}(hA:∀ x∈A,x.b<p.b)(hB:∀ x∈B,x.b=p.b)(hC:∀ x∈C,p.b<x.b):zfH (A++(B++C)) p=A++(B++(p::C)):=by
 unfold zfH
 rw [znO hA hB hC,← List.append_assoc,List.take_left' (by simp),List.drop_left' (by simp)]
 simp
theorem zr0{l' l:List Plc}(h:l'.Sublist l)(v:Int):zaG v l'≤zaG v l:=(h.filter _).length_le
theorem TOk.sub{bk:Plc→Int}{N:List Adr}{l l':List Plc}(h:TOk bk N l)(hs:l'.Sublist l):TOk bk N l':=
 ⟨fun e he=>h.b e (hs.subset he),h.s.sublist hs,fun v=>Nat.le_trans (zr0 hs v) (h.c v),h.n.sublist hs,fun e he=>h.f e (hs.subset he)⟩
theorem zdk(l:List Plc)(i:Nat):(za3 l i).Sublist l:=by
 unfold za3
 rw [← List.eraseIdx_eq_take_drop_succ]
 exact List.eraseIdx_sublist l i
theorem zr2{l:List Plc}{p x:Plc}(h:x∈zfH l p):x=p∨x∈l:=by
 unfold zfH at h
 simp only [List.mem_append,List.mem_singleton] at h
 rcases h with (h | h) | h
 ·exact .inr (List.mem_of_mem_take h)
 ·exact .inl h
 ·exact .inr (List.mem_of_mem_drop h)
theorem TOk.ins{bk:Plc→Int}{N:List Adr}{l:List Plc}(h:TOk bk N l){p:Plc}(hb:p.b=bk p)(hc:zaG p.b l≤7)(hn:∀ x∈l,xA x.a p.a=false)(hf:∀ a∈N,xA a p.a=false):TOk bk N (zfH l p):=by
 obtain ⟨A,B,C,rfl,hA,hB,hC⟩:=h.s.split3 p.b
 have hs:=h.s
 have hnn:=h.n
 refine ⟨fun e he=>?_,?_,fun v=>?_,?_,fun e he=>?_⟩
 ·rcases zr2 he with rfl | he
  ·exact hb
  ·exact h.b e he
 ·rw [zur hA hB hC]
  unfold Srt at hs ⊢
  simp only [List.pairwise_append,List.pairwise_cons,List.mem_append,List.mem_cons] at hs ⊢
  obtain ⟨sA,⟨sB,sC,sBC⟩,sABC⟩:=hs
  refine ⟨sA,⟨sB,⟨fun c hc=>Int.le_of_lt (hC c hc),sC⟩,?_⟩,?_⟩
  ·rintro x hx y (rfl | hy)
   ·rw [hB x hx]; exact Int.le_refl _
   ·exact sBC x hx y hy
  ·rintro x hx y (hy | rfl | hy)
   ·exact sABC x hx y (.inl hy)
   ·exact Int.le_of_lt (hA x hx)
   ·exact sABC x hx y (.inr hy)
 ·have hv:=h.c v
  rw [zur hA hB hC]
  have e:zaG v (A++(B++p::C))=zaG v (A++(B++C))+if p.b=v then 1 else 0:=by
   unfold zaG
   simp only [List.filter_append,List.length_append,List.filter_cons,beq_iff_eq]
   split <;> simp <;> omega
  rw [e]
  split
  ·rename_i hp; rw [← hp]; omega
  ·omega
 ·rw [zur hA hB hC]
  simp only [List.mem_append] at hn
  simp only [List.pairwise_append,List.pairwise_cons,List.mem_append,List.mem_cons] at hnn ⊢
  obtain ⟨sA,⟨sB,sC,sBC⟩,sABC⟩:=hnn
  refine ⟨sA,⟨sB,⟨fun c hc=>by rw [zhK]; exact hn c (.inr (.inr hc)),sC⟩,?_⟩,?_⟩
  ·rintro x hx y (rfl | hy)
   ·exact hn x (.inr (.inl hx))
   ·exact sBC x hx y hy
  ·rintro x hx y (hy | rfl | hy)
   ·exact sABC x hx y (.inl hy)
   ·exact hn x (.inl hx)
   ·exact sABC x hx y (.inr hy)
 ·rcases zr2 he with rfl | he
  ·exact hf
  ·exact h.f e he
theorem zAw{bk:Plc→Int}{N:List Adr}{l:List Plc}(h:TOk bk N l)(v:Int):toN l v-xE l v=zaG v l:=by
 obtain ⟨A,B,C,rfl,hA,hB,hC⟩:=h.s.split3 v
 rw [znO hA hB hC,zpi hA hB hC]
 unfold zaG
 rw [List.filter_append,List.filter_append,List.filter_eq_nil_iff.2 (fun x hx=>by have:=hA x hx; simp; omega),List.filter_eq_self.2 (fun x hx=>by simp [hB x hx]),List.filter_eq_nil_iff.2 (fun x hx=>by have:=hC x hx; simp; omega)]
 simp
theorem zn1(l:List Plc)(v:Int):xE l v≤toN l v∧toN l v≤l.length:=by
 unfold toN
 have h1:xE l v≤l.length:=by unfold xE; exact (List.takeWhile_sublist _).length_le
 have h2:=(List.takeWhile_sublist (fun x:Plc=>x.b==v) (l:=l.drop (xE l v))).length_le
 rw [List.length_drop] at h2
 omega
theorem zyZ{bk:Plc→Int}{N:List Adr}{l:List Plc}(h:TOk bk N l){v:Int}{i:Nat}(h1:xE l v≤i)(h2:i<toN l v)(hi:i<l.length):l[i].b=v:=by
 obtain ⟨A,B,C,rfl,hA,hB,hC⟩:=h.s.split3 v
 rw [znO hA hB hC] at h2
 rw [zpi hA hB hC] at h1
 rw [List.getElem_append_right h1,List.getElem_append_left (by omega)]
 exact hB _ (List.getElem_mem _)
theorem zB5{bk:Plc→Int}{N:List Adr}{l:List Plc}(h:TOk bk N l){i:Nat}(hi:i<l.length):zaG l[i].b (za3 l i)≤7:=by
 have key:∀ v,l[i].b=v→zaG v l=zaG v (za3 l i)+1:=by
  intro v hv
  have e:l=l.take i++(l[i]::l.drop (i+1)):=by rw [← List.drop_eq_getElem_cons hi,List.take_append_drop]
  refine (congrArg (zaG v) e).trans ?_
  unfold zaG za3
  rw [List.filter_append,List.filter_append,List.filter_cons,if_pos (by simp [hv])]
  simp
  omega
 have hc:=h.c l[i].b
 have:=key _ rfl
 omega
def zbI(e:Plc):Int × Int × Int × Int:=(e.b,e.a.h,e.a.p,e.s)
theorem zqZ{α β:Type}(f:α→α)(g:α→β)(h:∀ x,g (f x)=g x):∀ (l:List α) (i:Nat),(l.modify i f).map g=l.map g
 | [],i=>by cases i <;> rfl
 | x::l,0=>by simp [List.modify,h]
 | x::l,i+1=>by simpa using zqZ f g h l i
theorem zpC(l:List Plc)(i:Nat)(t:Int):(zl3 l i t).map zbI=l.map zbI:=zqZ (zEF t) zbI (fun _=>rfl) l i
theorem zy8{x y x' y':Plc}(hx:zbI x=zbI x')(hy:zbI y=zbI y'):xA x.a y.a=xA x'.a y'.a:=by
 simp only [zbI,Prod.mk.injEq] at hx hy
 simp only [xA,hx.2.1,hx.2.2.1,hy.2.1,hy.2.2.1]
theorem zvl{l l':List Plc}(hk:l'.map zbI=l.map zbI){x:Plc}(hx:x∈l'):∃ y∈l,zbI y=zbI x:=by
 have:=List.mem_map_of_mem (f:=zbI) hx
 rw [hk] at this
 obtain ⟨y,h1,h2⟩:=List.mem_map.1 this
 exact ⟨y,h1,h2⟩
theorem TOk.key{bk:Plc→Int}(hbk:∀ x y,zbI x=zbI y→bk x=bk y){l l':List Plc}(h:TOk bk [] l)(hk:l'.map zbI=l.map zbI):TOk bk [] l':=by
 refine ⟨fun e he=>?_,?_,fun v=>?_,?_,by simp⟩
 ·obtain ⟨y,h1,h2⟩:=zvl hk he
  have:=h.b y h1
  rw [← hbk y e h2,← this]
  simp only [zbI,Prod.mk.injEq] at h2
  exact h2.1.symm
 ·have h1:(l.map zbI).Pairwise (fun x y=>x.1≤y.1):=List.pairwise_map.2 h.s
  rw [← hk] at h1
  have h2:l'.Pairwise (fun x y=>(zbI x).1≤(zbI y).1):=(List.pairwise_map (f:=zbI) (R:=fun x y=>x.1≤y.1)).1 h1
  exact h2
 ·have e:∀ m:List Plc,zaG v m=((m.map zbI).filter (fun x=>x.1==v)).length:=by
   intro m
   unfold zaG
   rw [List.filter_map,List.length_map]
   rfl
  rw [e,hk,← e]; exact h.c v
 ·have h1:(l.map zbI).Pairwise (fun x y=>(x.2.1==y.2.1&&x.2.2.1==y.2.2.1)=false):=List.pairwise_map.2 h.n
  rw [← hk] at h1
  have h2:l'.Pairwise (fun x y=>((zbI x).2.1==(zbI y).2.1&&(zbI x).2.2.1==(zbI y).2.2.1)=false):=List.pairwise_map.1 h1
  exact h2
theorem zFJ(s:List Int)(x y:Plc)(h:zbI x=zbI y):hbf s x=hbf s y:=by
 simp only [zbI,Prod.mk.injEq] at h
 simp only [hbf,hbk,grp,h.2.1,h.2.2.2]
theorem zFR(s:List Int)(x y:Plc)(h:zbI x=zbI y):tbf s x=tbf s y:=by
 simp only [zbI,Prod.mk.injEq] at h
 simp only [tbf,tbk,grp,h.2.1,h.2.2.1]
structure SndB (b:Bk):Prop where
 h:TOk (hbf b.salt) [] b.H
 t:TOk (tbf b.salt) [] b.T
 d:∀ x∈b.H,∀ y∈b.T,xA y.a x.a=false
theorem zEk(l:List Plc):∀ (n:Nat) (l:List Plc),(∀ e∈l,0≤e.b∧e.b<n)→(∀ v,zaG v l≤8)→l.length≤8*n
 | 0,l,h,_=>by
  cases l with
  | nil=>simp
  | cons x l=>have:=h x (by simp); omega
 | n+1,l,h,hc=>by
  have ih:=zEk l n (l.filter (fun e=>!(e.b==(n:Int)))) (fun e he=>by
   have h1:=List.mem_filter.1 he
   have h2:=h e h1.1
   have h3:¬ e.b=n:=by simpa using h1.2
   omega) (fun v=>Nat.le_trans (zr0 List.filter_sublist v) (hc v))
  have h1:=hc n
  have h2:l.length=(l.filter (fun e=>e.b==(n:Int))).length+(l.filter (fun e=>!(e.b==(n:Int)))).length:=by
   clear ih hc h h1
   induction l with
   | nil=>rfl
   | cons x l ih=>by_cases hx:x.b=n <;> simp [hx] <;> omega
  unfold zaG at h1
  omega
theorem TOk.len{bk:Plc→Int}{N:List Adr}{l:List Plc}(h:TOk bk N l)(hb:∀ e,0≤bk e∧bk e<64):l.length≤512:=
 zEk l 64 l (fun e he=>by have:=hb e; rw [h.b e he]; exact this) h.c
theorem SndB.lenH{b:Bk}(h:SndB b):b.H.length≤512:=h.h.len (zzi _)
theorem SndB.lenT{b:Bk}(h:SndB b):b.T.length≤512:=h.t.len (zzb _)
theorem zge(b:Bk):zfI b=true↔SndB b:=by
 unfold zfI
 rw [zpj,zpj]
 simp only [Bool.and_eq_true,decide_eq_true_eq,zyS _ _ _ _ (TOk.nil _ _),List.nil_append,List.all_eq_true,Bool.not_eq_true',List.any_eq_false,Bool.not_eq_true]
 constructor
 ·rintro ⟨⟨_,h1⟩,⟨_,h2⟩,h3⟩
  exact ⟨h1,h2,h3⟩
 ·intro h
  exact ⟨⟨h.lenH,h.h⟩,⟨h.lenT,h.t⟩,h.d⟩
theorem zzf{l:List Plc}{a:Adr}(h:¬ zcA (fun x=>xA x.a a) l 0≥0):∀ x∈l,xA x.a a=false:=by
 rcases zos (fun x:Plc=>xA x.a a) l 0 with ⟨h1,h2⟩ | ⟨j,hj,h1,h2,h3⟩
 ·exact h2
 ·omega
theorem zju(l:List Plc)(a z:Nat):∀ (n i m:Nat),a≤i→i+n≤z→a≤m→m<z→a≤zcI l n i m∧zcI l n i m<z
 | 0,i,m,_,_,h1,h2=>⟨h1,h2⟩
 | n+1,i,m,h0,h,h1,h2=>by
  rw [zcI]
  split
  ·exact zju l a z n (i+1) i (by omega) (by omega) (by omega) (by omega)
  ·exact zju l a z n (i+1) m (by omega) (by omega) h1 h2
theorem zu6{b:Bk}(h:SndB b)(a:Adr)(src:Int):SndB (zbX b a src).1:=by
 unfold zbX
 split
 ·refine ⟨h.h,h.t.key (zFR _) (zpC _ _ _),fun x hx y hy=>?_⟩
  obtain ⟨z,h1,h2⟩:=zvl (zpC _ _ _) hy
  rw [← zy8 h2 (rfl:zbI x=zbI x)]
  exact h.d x hx z h1
 ·rename_i hT
  split
  ·refine ⟨h.h.key (zFJ _) (zpC _ _ _),h.t,fun x hx y hy=>?_⟩
   obtain ⟨z,h1,h2⟩:=zvl (zpC _ _ _) hx
   rw [← zy8 (rfl:zbI y=zbI y) h2]
   exact h.d z h1 y hy
  ·rename_i hH
   have nT:=zzf hT
   have nH:=zzf hH
   have dd:∀ (l':List Plc),l'.Sublist b.H→∀ x∈zfH l' ⟨hbk b.salt a src,a,src⟩,∀ y∈b.T,xA y.a x.a=false:=by
    intro l' hl' x hx y hy
    rcases zr2 hx with rfl | hx
    ·exact nT y hy
    ·exact h.d x (hl'.subset hx) y hy
   split
   ·rename_i h8
    split
    ·exact h
    ·have hr:=zn1 b.H (hbk b.salt a src)
     have hm:=zju b.H (xE b.H (hbk b.salt a src)) (toN b.H (hbk b.salt a src)) (toN b.H (hbk b.salt a src)-xE b.H (hbk b.salt a src)) (xE b.H (hbk b.salt a src)) (xE b.H (hbk b.salt a src)) (Nat.le_refl _) (by omega) (Nat.le_refl _) (by omega)
     generalize zcI b.H (toN b.H (hbk b.salt a src)-xE b.H (hbk b.salt a src)) (xE b.H (hbk b.salt a src)) (xE b.H (hbk b.salt a src))=m at hm ⊢
     have hml:m<b.H.length:=by omega
     have hc:=zB5 h.h hml
     rw [zyZ h.h hm.1 hm.2 hml] at hc
     exact ⟨(h.h.sub (zdk _ _)).ins rfl hc (fun x hx=>nH x ((zdk _ _).subset hx)) (by simp),h.t,dd _ (zdk _ _)⟩
   ·rename_i h8
    rw [zAw h.h] at h8
    exact ⟨h.h.ins rfl (by show zaG (hbk b.salt a src) b.H≤7; omega) nH (by simp),h.t,dd _ (List.Sublist.refl _)⟩
theorem zEq{l:List Plc}(h:l.Pairwise (fun x y=>xA x.a y.a=false)){i:Nat}(hi:i<l.length):∀ x∈za3 l i,xA x.a l[i].a=false:=by
 intro x hx
 have hp:=List.pairwise_iff_getElem.1 h
 unfold za3 at hx
 rcases List.mem_append.1 hx with hx | hx
 ·obtain ⟨j,hj,rfl⟩:=List.mem_take_iff_getElem.1 hx
  exact hp j i (by omega) hi (by omega)
 ·obtain ⟨j,hj,rfl⟩:=List.mem_drop_iff_getElem.1 hx
  rw [zhK]
  exact hp i (i+1+j) hi (by omega) (by omega)
theorem zGX(v:Int)(a:Adr)(s:Int):(⟨v,a,s⟩:Plc).b=v:=rfl
theorem zG4(v:Int)(a:Adr)(s:Int):(⟨v,a,s⟩:Plc).a=a:=rfl
theorem zwz(b:Bk)(e:Plc):(ze8 b e).b=tbk b.salt e.a:=by unfold ze8; exact zGX _ _ _
theorem zqo(b:Bk)(e:Plc):(ze8 b e).a=e.a:=by unfold ze8; exact zG4 _ _ _
theorem zFZ(s:List Int)(e:Plc):tbf s e=tbk s e.a:=by unfold tbf; rfl
theorem zEe{b:Bk}(h:SndB b){i:Nat}(hi:i<b.H.length):SndB (zsB b i b.H[i]):=by
 have hH:=h.h.sub (zdk b.H i)
 have hn:=zEq h.h.n hi
 have hd:∀ y∈b.T,xA y.a b.H[i].a=false:=fun y hy=>h.d _ (List.getElem_mem hi) y hy
 have dd:∀ (l':List Plc),l'.Sublist b.T→∀ x∈za3 b.H i,∀ y∈zfH l' (ze8 b b.H[i]),xA y.a x.a=false:=by
  intro l' hl' x hx y hy
  rcases zr2 hy with rfl | hy
  ·rw [zhK,zqo]; exact hn x hx
  ·exact h.d x ((zdk _ _).subset hx) y (hl'.subset hy)
 have hp:(ze8 b b.H[i]).b=tbk b.salt b.H[i].a:=zwz _ _
 have hq:(ze8 b b.H[i]).b=tbf b.salt (ze8 b b.H[i]):=by rw [hp,zFZ,zqo]
 unfold zsB
 split
 ·rename_i h8
  have hr:=zn1 b.T (tbk b.salt b.H[i].a)
  have hl:xE b.T (tbk b.salt b.H[i].a)<b.T.length:=by omega
  rw [List.getElem?_eq_getElem hl]
  simp only
  refine zu6 ⟨hH,?_,dd _ (zdk _ _)⟩ _ _
  have hc:=zB5 h.t hl
  rw [zyZ h.t (Nat.le_refl _) (by omega) hl] at hc
  rw [← hp] at hc
  exact (h.t.sub (zdk _ _)).ins hq hc (fun x hx=>by rw [zqo]; exact hd x ((zdk _ _).subset hx)) (by simp)
 ·rename_i h8
  rw [zAw h.t,← hp] at h8
  exact ⟨hH,h.t.ins hq (by omega) (fun x hx=>by rw [zqo]; exact hd x hx) (by simp),dd _ (List.Sublist.refl _)⟩
def NnB(b:Bk):Prop:=(∀ e∈b.H,0≤e.a.h)∧∀ e∈b.T,0≤e.a.h
theorem zBN{l:List Plc}(h:∀ e∈l,0≤e.a.h)(i:Nat)(t:Int):∀ e∈zl3 l i t,0≤e.a.h:=by
 intro e he
 obtain ⟨y,h1,h2⟩:=zvl (zpC _ _ _) he
 simp only [zbI,Prod.mk.injEq] at h2
 rw [← h2.2.1]; exact h y h1
theorem zxa{l:List Plc}(h:∀ e∈l,0≤e.a.h){p:Plc}(hp:0≤p.a.h):∀ e∈zfH l p,0≤e.a.h:=by
 intro e he
 rcases zr2 he with rfl | he
 ·exact hp
 ·exact h e he
theorem zxZ{l:List Plc}(h:∀ e∈l,0≤e.a.h)(i:Nat):∀ e∈za3 l i,0≤e.a.h:=fun e he=>h e ((zdk _ _).subset he)
theorem zBd{b:Bk}(h:NnB b){a:Adr}(ha:0≤a.h)(src:Int):NnB (zbX b a src).1:=by
 unfold zbX
 split
 ·exact ⟨h.1,zBN h.2 _ _⟩
 ·split
  ·exact ⟨zBN h.1 _ _,h.2⟩
  ·split
   ·split
    ·exact h
    ·exact ⟨zxa (zxZ h.1 _) ha,h.2⟩
   ·exact ⟨zxa h.1 ha,h.2⟩
theorem zFa{b:Bk}(h:NnB b){i:Nat}(hi:i<b.H.length):NnB (zsB b i b.H[i]):=by
 have hp:0≤(ze8 b b.H[i]).a.h:=by rw [zqo]; exact h.1 _ (List.getElem_mem hi)
 unfold zsB
 split
 ·split
  ·rename_i o ho
   exact zBd ⟨zxZ h.1 _,zxa (zxZ h.2 _) hp⟩ (h.2 o (List.mem_of_getElem? ho)) _
  ·exact h
 ·exact ⟨zxZ h.1 _,zxa h.2 hp⟩
end
section
set_option linter.unusedVariables false
set_option linter.unusedSimpArgs false
set_option maxRecDepth 100000
variable {β:Type}
def zu(l:List Plc):List V:=(xD l).flatten
theorem zr5(l:List Plc):∀ e∈xD l,e.length=5:=by
 intro e he
 obtain ⟨x,_,rfl⟩:=List.mem_map.1 he
 rfl
theorem zan(l:List Plc):(zu l).length=l.length*5:=by
 unfold zu; rw [yZ (zr5 l),yL]
theorem zlq(l m:List Plc):zu (l++m)=zu l++zu m:=by simp [zu,xD]
theorem zwc{l:List Plc}{i:Nat}(hi:i<l.length):zu l=zu (l.take i)++(l[i].v++zu (l.drop (i+1))):=by
 have e:l=l.take i++(l[i]::l.drop (i+1)):=by rw [← List.drop_eq_getElem_cons hi,List.take_append_drop]
 refine (congrArg zu e).trans ?_
 rw [zlq]
 rfl
theorem zsP{l:List Plc}{i j:Nat}(hi:i<l.length)(hj:j≤5):(zu l).drop (i*5+j)=l[i].v.drop j++zu (l.drop (i+1)):=by
 rw [zwc hi]
 have e:(zu (l.take i)).length=i*5:=by rw [zan,List.length_take]; congr 1; omega
 rw [List.drop_append,e,List.drop_of_length_le (by omega),List.nil_append,show i*5+j-i*5=j by omega,List.drop_append_of_le_length (by show j≤5; exact hj)]
theorem zqF{l:List Plc}{i j:Nat}(hi:i<l.length)(hj:j<5):(zu l)[i*5+j]?=l[i].v[j]?:=by
 have:=zsP hi (Nat.le_of_lt hj)
 rw [← List.head?_drop,this,← List.head?_drop]
 rw [List.head?_append]
 cases h:(l[i].v.drop j).head? with
 | some x=>rfl
 | none=>
  rw [List.head?_drop,List.getElem?_eq_none_iff] at h
  have:l[i].v.length=5:=rfl
  omega
theorem zAi{l:List Plc}{i:Nat}(hi:i<l.length):List.take 3 (List.drop (i*5+1) (zu l))=l[i].a.v:=by
 rw [zsP hi (by omega)]; rfl
theorem zsC{l:List Plc}{i:Nat}(hi:i<l.length):List.take 5 (List.drop (i*5) (zu l))=l[i].v:=by
 rw [show i*5=i*5+0 from rfl,zsP hi (by omega)]; rfl
theorem zDJ(A B x:List V)(j:Nat):zg (A++B) (A.length+j) x=A++zg B j x:=by
 unfold zg
 rw [List.take_length_add_append,Nat.add_assoc,List.drop_length_add_append]
 simp
theorem zqB{l:List Plc}{i:Nat}(hi:i<l.length)(t:Int):zg (zu l) (i*5+3) [V.sc (.int .u32 (zyp l[i].a.t t))]=zu (zl3 l i t):=by
 have e:(zu (l.take i)).length=i*5:=by rw [zan,List.length_take]; congr 1; omega
 have eb:zl3 l i t=l.take i++(zEF t l[i]::l.drop (i+1)):=by
  unfold zl3
  rw [List.modify_eq_take_cons_drop hi]
 rw [eb,zlq,zwc hi,← e,zDJ]
 rfl
theorem zar(l:List Plc):yf 5 l.length (zu l)=xD l:=by
 have:=zAN (zr5 l) (w:=l.length) (by rw [yL]; exact Nat.le_refl _)
 unfold zu
 rw [this,List.take_of_length_le (by rw [yL]; exact Nat.le_refl _)]
theorem zs8(l:List Plc)(i:Nat)(t:Int):(zl3 l i t).length=l.length:=by unfold zl3; simp
theorem zlb{n:Nat}{l:List Plc}(h:n=l.length):yf 5 n (zu l)=xD l:=by subst h; exact zar l
theorem zrn(l:List Plc):(zu l).isEmpty=l.isEmpty:=by
 cases l <;> rfl
theorem zEC(L:Nat)(l:List Plc)(hl:l.length≤1000000)(v:Int)(kx:List (List V)→Int→Int→Option β):∀ (m i:Nat),i≤l.length→l.length-i<m →
  zd5 L kx m (xD l) v (i:Int)=kx (xD l) v ((i+((l.drop i).takeWhile (fun x=>decide (x.b<v))).length:Nat):Int):=by
 intro m
 induction m with
 | zero=>intro i h1 h2; omega
 | succ m IH=>
  intro i h1 h2
  unfold zd5 zjw
  rw [yL]
  by_cases h:i<l.length
  ·rw [zaK (by omega),zbc (zbs h),zz (n:=l[i].b) rfl,xN,List.drop_eq_getElem_cons h,List.takeWhile_cons]
   by_cases hb:l[i].b<v
   ·rw [if_pos hb,if_pos (decide_eq_true hb),xq,zaH (by omega),List.length_cons]
    refine (IH (i+1) (by omega) (by omega)).trans ?_
    congr 2; omega
   ·rw [if_neg hb,if_neg (by simpa using hb)]; rfl
  ·rw [zaW (by omega),List.drop_of_length_le (by omega)]; rfl
theorem zGG(L:Nat)(l:List Plc)(hl:l.length≤1000000)(v f:Int)(kx:Int→Int→Option β):∀ (m i:Nat),i≤l.length→l.length-i<m →
  zda L kx m (xD l) v f (i:Int)=kx f ((i+((l.drop i).takeWhile (fun x=>x.b==v)).length:Nat):Int):=by
 intro m
 induction m with
 | zero=>intro i h1 h2; omega
 | succ m IH=>
  intro i h1 h2
  unfold zda zho
  rw [yL]
  by_cases h:i<l.length
  ·rw [zaK (by omega),zbc (zbs h),zz (n:=l[i].b) rfl,yY,List.drop_eq_getElem_cons h,List.takeWhile_cons]
   by_cases hb:l[i].b=v
   ·rw [if_pos hb,if_pos (beq_iff_eq.2 hb),xq,zaH (by omega),List.length_cons]
    refine (IH (i+1) (by omega) (by omega)).trans ?_
    congr 2; omega
   ·rw [if_neg hb,if_neg (by simpa using hb)]; rfl
  ·rw [zaW (by omega),List.drop_of_length_le (by omega)]; rfl
theorem zn8(L:Nat)(l:List Plc)(hl:l.length≤1000000)(hL:l.length<L)(v:Int)(k:Int→Int→Option β):xd β L (xD l) v k=k ((xE l v:Nat):Int) ((toN l v:Nat):Int):=by
 have hf:=zn1 l v
 unfold xd zjF znH
 rw [show ((0:Int))=((0:Nat):Int) from rfl]
 refine (zEC L l hl v _ L 0 (by omega) (by omega)).trans ?_
 rw [List.drop_zero,Nat.zero_add]
 refine (zGG L l hl v _ _ L (xE l v) (by omega) (by omega)).trans ?_
 rfl
theorem zra{n m:Nat}(h:n≤1000000)(hm:m≤1000000):(n+m)*24≤xp∧n+m≤xp:=by
 simp only [xp]; omega
theorem zog(l:List Plc)(i:Nat):(xD l).take i=xD (l.take i):=by simp [xD,List.map_take]
theorem zu5(l:List Plc)(i:Nat):(xD l).drop i=xD (l.drop i):=by simp [xD,List.map_drop]
theorem zF7(p:Plc):yf 5 1 (zg [(Qe (0:Int)),(Qc (0:Int)),(Qb (0:Int)),(Qc (0:Int)),(Qc (0:Int))] 0 p.v)=xD [p]:=by
 rw [zlu (by rfl)]; rfl
theorem zy7(l:List Plc)(i:Nat):List.take (l.length-i) (List.drop i l)=List.drop i l:=List.take_of_length_le (by simp)
theorem zlJ(L:Nat)(l:List Plc)(hl:l.length≤900000)(hL:l.length<L)(p:Plc)(k:List (List V)→Option β):yd β L (xD l) p.v k=k (xD (zfH l p)):=by
 have hf:=zn1 l p.b
 have e1:List.take 5 p.v=p.v:=rfl
 unfold yd znM
 rw [zz (n:=p.b) rfl,zn8 L l (by omega) hL,yL,ya (by omega),Nat.sub_zero,Int.toNat_natCast,List.drop_zero,zog,yL,ya (zra (by simp) (by simp; omega)),xq,List.nil_append,ya (by show 0+5≤5; omega),e1,ya ⟨rfl,by omega⟩,zF7,yL,yL,ya (zra (by simp; omega) (by simp)),xq,zwA,ya (by omega),zu5,zog,yL,yL,ya (zra (by simp; omega) (by simp; omega)),xq,zwA,zy7]
 rfl
theorem zuL(L:Nat)(l:List Plc)(hl:l.length≤900000)(i:Nat)(hi:i<l.length)(k:List (List V)→Option β):xe β L (xD l) (i:Int) k=k (xD (za3 l i)):=by
 unfold xe znL
 rw [yL,ya (by omega),Nat.sub_zero,Int.toNat_natCast,List.drop_zero,zog,yL,ya (zra (by simp) (by simp; omega)),xq,List.nil_append,xq,zaH (by omega),ya (by omega),Int.toNat_natCast,zu5,zog,yL,yL,ya (zra (by simp; omega) (by simp; omega)),xq,zwA,zy7]
 rfl
theorem zC8(L:Nat)(ps:List Plc)(hp:ps.length≤1000000)(a:Adr)(kr:Int→List V→Option β)(kx:List V→Option β)(k:Int→List V→Option β)(hr:∀ i b,kr i b=k i b)(hx:∀ b,kx b=k (-1) b):∀ (m i:Nat),i≤ps.length→ps.length-i<m →
  zdE yg L kr kx m ps.length (i:Int) (zu ps) a.v=k (zcA (fun e=>xA e.a a) (ps.drop i) i) (zu ps):=by
 intro m
 induction m with
 | zero=>intro i h1 h2; omega
 | succ m IH=>
  intro i h1 h2
  unfold zdE zid
  by_cases h:i<ps.length
  ·have e1:0+Int.toNat (i:Int)*5+1=i*5+1:=by rw [Int.toNat_natCast]; omega
   rw [zaK (by omega),ya (by omega),e1,ya (by rw [zan]; omega),ya (by show 0+3≤3; omega),zAi h,zd7,zBF,List.drop_eq_getElem_cons h,zcA,xq,zaH (by omega)]
   have ih:=IH (i+1) (by omega) (by omega)
   cases xA ps[i].a a with
   | true=>exact hr _ _
   | false=>exact ih
  ·rw [zaW (by omega),List.drop_of_length_le (by omega),hx]; rfl
theorem zBg(L:Nat)(ps:List Plc)(hp:ps.length≤1000000)(hL:ps.length<L)(a:Adr)(k:Int→List V→Option β):zh β L ps.length a.v (zu ps) k=k (zcA (fun e=>xA e.a a) ps 0) (zu ps):=by
 unfold zh ziO zmX
 rw [show ((0:Int))=((0:Nat):Int) from rfl]
 refine (zC8 L ps hp a _ _ k (fun _ _=>rfl) (fun _=>rfl) L 0 (by omega) (by omega)).trans ?_
 rfl
theorem zd(b:Bk)(j:Nat)(h:j<32)(k:Int→Option β):cI .u8 b.v j k=k (b.salt.getD j 0):=by
 refine zz ?_ k
 have hs:=b.hs
 rw [Bk.v,List.getElem?_append_left (by rw [zb1]; omega),row,List.getElem?_map,List.getD_eq_getElem?_getD,List.getElem?_eq_getElem (by omega)]
 rfl
theorem zEz:∀ (s:List Int),s.length=32→row .u8 s=[V.sc (.int .u8 (s.getD 0 0)),V.sc (.int .u8 (s.getD 1 0)),V.sc (.int .u8 (s.getD 2 0)),V.sc (.int .u8 (s.getD 3 0)),V.sc (.int .u8 (s.getD 4 0)),V.sc (.int .u8 (s.getD 5 0)),V.sc (.int .u8 (s.getD 6 0)),V.sc (.int .u8 (s.getD 7 0)),V.sc (.int .u8 (s.getD 8 0)),V.sc (.int .u8 (s.getD 9 0)),V.sc (.int .u8 (s.getD 10 0)),V.sc (.int .u8 (s.getD 11 0)),V.sc (.int .u8 (s.getD 12 0)),V.sc (.int .u8 (s.getD 13 0)),V.sc (.int .u8 (s.getD 14 0)),V.sc (.int .u8 (s.getD 15 0)),V.sc (.int .u8 (s.getD 16 0)),V.sc (.int .u8 (s.getD 17 0)),V.sc (.int .u8 (s.getD 18 0)),V.sc (.int .u8 (s.getD 19 0)),V.sc (.int .u8 (s.getD 20 0)),V.sc (.int .u8 (s.getD 21 0)),V.sc (.int .u8 (s.getD 22 0)),V.sc (.int .u8 (s.getD 23 0)),V.sc (.int .u8 (s.getD 24 0)),V.sc (.int .u8 (s.getD 25 0)),V.sc (.int .u8 (s.getD 26 0)),V.sc (.int .u8 (s.getD 27 0)),V.sc (.int .u8 (s.getD 28 0)),V.sc (.int .u8 (s.getD 29 0)),V.sc (.int .u8 (s.getD 30 0)),V.sc (.int .u8 (s.getD 31 0))]
 | [x0,x1,x2,x3,x4,x5,x6,x7,x8,x9,x10,x11,x12,x13,x14,x15,x16,x17,x18,x19,x20,x21,x22,x23,x24,x25,x26,x27,x28,x29,x30,x31],_=>rfl
theorem Bk.cells(b:Bk):[V.sc (.int .u8 (b.salt.getD 0 0)),V.sc (.int .u8 (b.salt.getD 1 0)),V.sc (.int .u8 (b.salt.getD 2 0)),V.sc (.int .u8 (b.salt.getD 3 0)),V.sc (.int .u8 (b.salt.getD 4 0)),V.sc (.int .u8 (b.salt.getD 5 0)),V.sc (.int .u8 (b.salt.getD 6 0)),V.sc (.int .u8 (b.salt.getD 7 0)),V.sc (.int .u8 (b.salt.getD 8 0)),V.sc (.int .u8 (b.salt.getD 9 0)),V.sc (.int .u8 (b.salt.getD 10 0)),V.sc (.int .u8 (b.salt.getD 11 0)),V.sc (.int .u8 (b.salt.getD 12 0)),V.sc (.int .u8 (b.salt.getD 13 0)),V.sc (.int .u8 (b.salt.getD 14 0)),V.sc (.int .u8 (b.salt.getD 15 0)),V.sc (.int .u8 (b.salt.getD 16 0)),V.sc (.int .u8 (b.salt.getD 17 0)),V.sc (.int .u8 (b.salt.getD 18 0)),V.sc (.int .u8 (b.salt.getD 19 0)),V.sc (.int .u8 (b.salt.getD 20 0)),V.sc (.int .u8 (b.salt.getD 21 0)),V.sc (.int .u8 (b.salt.getD 22 0)),V.sc (.int .u8 (b.salt.getD 23 0)),V.sc (.int .u8 (b.salt.getD 24 0)),V.sc (.int .u8 (b.salt.getD 25 0)),V.sc (.int .u8 (b.salt.getD 26 0)),V.sc (.int .u8 (b.salt.getD 27 0)),V.sc (.int .u8 (b.salt.getD 28 0)),V.sc (.int .u8 (b.salt.getD 29 0)),V.sc (.int .u8 (b.salt.getD 30 0)),V.sc (.int .u8 (b.salt.getD 31 0))]=row .u8 b.salt:=(zEz b.salt b.hs).symm
theorem Bk.mk_v(b:Bk)(x y:List (List V)):[V.sc (.int .u8 (b.salt.getD 0 0)),V.sc (.int .u8 (b.salt.getD 1 0)),V.sc (.int .u8 (b.salt.getD 2 0)),V.sc (.int .u8 (b.salt.getD 3 0)),V.sc (.int .u8 (b.salt.getD 4 0)),V.sc (.int .u8 (b.salt.getD 5 0)),V.sc (.int .u8 (b.salt.getD 6 0)),V.sc (.int .u8 (b.salt.getD 7 0)),V.sc (.int .u8 (b.salt.getD 8 0)),V.sc (.int .u8 (b.salt.getD 9 0)),V.sc (.int .u8 (b.salt.getD 10 0)),V.sc (.int .u8 (b.salt.getD 11 0)),V.sc (.int .u8 (b.salt.getD 12 0)),V.sc (.int .u8 (b.salt.getD 13 0)),V.sc (.int .u8 (b.salt.getD 14 0)),V.sc (.int .u8 (b.salt.getD 15 0)),V.sc (.int .u8 (b.salt.getD 16 0)),V.sc (.int .u8 (b.salt.getD 17 0)),V.sc (.int .u8 (b.salt.getD 18 0)),V.sc (.int .u8 (b.salt.getD 19 0)),V.sc (.int .u8 (b.salt.getD 20 0)),V.sc (.int .u8 (b.salt.getD 21 0)),V.sc (.int .u8 (b.salt.getD 22 0)),V.sc (.int .u8 (b.salt.getD 23 0)),V.sc (.int .u8 (b.salt.getD 24 0)),V.sc (.int .u8 (b.salt.getD 25 0)),V.sc (.int .u8 (b.salt.getD 26 0)),V.sc (.int .u8 (b.salt.getD 27 0)),V.sc (.int .u8 (b.salt.getD 28 0)),V.sc (.int .u8 (b.salt.getD 29 0)),V.sc (.int .u8 (b.salt.getD 30 0)),V.sc (.int .u8 (b.salt.getD 31 0)),(V.sl 5 x),(V.sl 5 y)]=row .u8 b.salt++[.sl 5 x,.sl 5 y]:=by
 rw [← b.cells]; rfl
theorem zfK(L:Nat)(b:Bk)(hH:b.H.length≤1000000)(hT:b.T.length≤1000000)(k:zj7 β):ye β L b.v k=k (b.salt.getD 0 0) (b.salt.getD 1 0) (b.salt.getD 2 0) (b.salt.getD 3 0) (b.salt.getD 4 0) (b.salt.getD 5 0) (b.salt.getD 6 0) (b.salt.getD 7 0) (b.salt.getD 8 0) (b.salt.getD 9 0) (b.salt.getD 10 0) (b.salt.getD 11 0) (b.salt.getD 12 0) (b.salt.getD 13 0) (b.salt.getD 14 0) (b.salt.getD 15 0) (b.salt.getD 16 0) (b.salt.getD 17 0) (b.salt.getD 18 0) (b.salt.getD 19 0) (b.salt.getD 20 0) (b.salt.getD 21 0) (b.salt.getD 22 0) (b.salt.getD 23 0) (b.salt.getD 24 0) (b.salt.getD 25 0) (b.salt.getD 26 0) (b.salt.getD 27 0) (b.salt.getD 28 0) (b.salt.getD 29 0) (b.salt.getD 30 0) (b.salt.getD 31 0) b.H.length b.T.length (zu b.H) (zu b.T):=by
 unfold ye zny
 rw [ya b.len,zd b 0 (by omega),zd b 1 (by omega),zd b 2 (by omega),zd b 3 (by omega),zd b 4 (by omega),zd b 5 (by omega),zd b 6 (by omega),zd b 7 (by omega),zd b 8 (by omega),zd b 9 (by omega),zd b 10 (by omega),zd b 11 (by omega),zd b 12 (by omega),zd b 13 (by omega),zd b 14 (by omega),zd b 15 (by omega),zd b 16 (by omega),zd b 17 (by omega),zd b 18 (by omega),zd b 19 (by omega),zd b 20 (by omega),zd b 21 (by omega),zd b 22 (by omega),zd b 23 (by omega),zd b 24 (by omega),zd b 25 (by omega),zd b 26 (by omega),zd b 27 (by omega),zd b 28 (by omega),zd b 29 (by omega),zd b 30 (by omega),zd b 31 (by omega)]
 have g1:∀ k:List (List V)→Option β,cL 5 b.v 32 k=k (xD b.H):=zlK b.g32
 have g2:∀ k:List (List V)→Option β,cL 5 b.v 33 k=k (xD b.T):=zlK b.g33
 rw [g1,g2,yL,yL,ya (zra (by simp) hH),ya (zra (by simp) hT)]
 rfl
end
section
set_option linter.unusedVariables false
set_option linter.unusedSimpArgs false
set_option maxRecDepth 100000
variable {β:Type}
theorem zql{l:List Plc}{a:Adr}(h:zcA (fun x=>xA x.a a) l 0≥0):∃ j:Nat,j<l.length∧zcA (fun x=>xA x.a a) l 0=(j:Int):=by
 rcases zos (fun x:Plc=>xA x.a a) l 0 with ⟨h1,h2⟩ | ⟨j,hj,h1,h2,h3⟩
 ·omega
 ·exact ⟨j,hj,by rw [h1,Nat.zero_add]⟩
theorem at3(j:Nat):0+Int.toNat (j:Int)*5+1+2=j*5+3:=by rw [Int.toNat_natCast]; omega
theorem cT{l:List Plc}{j:Nat}(h:j<l.length)(k:Int→Option β):cI .u32 (zu l) (j*5+3) k=k l[j].a.t:=by
 refine zz ?_ k
 rw [zqF h (by omega)]; rfl
theorem zlA{l:List Plc}{j:Nat}(h:j<l.length):zsc l j=l[j].a.t:=by
 unfold zsc; rw [List.getElem?_eq_getElem h]
theorem zEx(v:Int)(a:Adr)(s:Int):zg [(Qe (0:Int)),(Qc (0:Int)),(Qb (0:Int)),(Qc (0:Int)),(Qc (0:Int))] 0 (zg (zg [(Qe v),(Qc (0:Int)),(Qb (0:Int)),(Qc (0:Int)),(Qc (0:Int))] 1 a.v) 4 [(Qc s)])=(⟨v,a,s⟩:Plc).v:=rfl
theorem zp7(p:Plc):List.take 5 p.v=p.v:=rfl
theorem zCH(L:Nat)(b:Bk)(hH:b.H.length≤1000000)(z:Nat)(hz:z≤b.H.length)(b4 p:List V)(tl:Nat)(tf:List V)(kx:zk9 β):∀ (m i c:Nat),i≤z→z-i<m→c<b.H.length →
  zbF ye zh za xd yd xe L kx m (z:Int) (c:Int) (i:Int) b4 0 0 0 0 0 0 0 0 0 0 0 0 0 0 0 0 0 0 0 0 0 0 0 0 0 0 0 0 0 0 0 0 [] [] (b.salt.getD 0 0) (b.salt.getD 1 0) (b.salt.getD 2 0) (b.salt.getD 3 0) (b.salt.getD 4 0) (b.salt.getD 5 0) (b.salt.getD 6 0) (b.salt.getD 7 0) (b.salt.getD 8 0) (b.salt.getD 9 0) (b.salt.getD 10 0) (b.salt.getD 11 0) (b.salt.getD 12 0) (b.salt.getD 13 0) (b.salt.getD 14 0) (b.salt.getD 15 0) (b.salt.getD 16 0) (b.salt.getD 17 0) (b.salt.getD 18 0) (b.salt.getD 19 0) (b.salt.getD 20 0) (b.salt.getD 21 0) (b.salt.getD 22 0) (b.salt.getD 23 0) (b.salt.getD 24 0) (b.salt.getD 25 0) (b.salt.getD 26 0) (b.salt.getD 27 0) (b.salt.getD 28 0) (b.salt.getD 29 0) (b.salt.getD 30 0) (b.salt.getD 31 0) b.H.length tl p (zu b.H) tf
   = kx ((zcI b.H (z-i) i c:Nat):Int) b4 0 0 0 0 0 0 0 0 0 0 0 0 0 0 0 0 0 0 0 0 0 0 0 0 0 0 0 0 0 0 0 0 [] [] (b.salt.getD 0 0) (b.salt.getD 1 0) (b.salt.getD 2 0) (b.salt.getD 3 0) (b.salt.getD 4 0) (b.salt.getD 5 0) (b.salt.getD 6 0) (b.salt.getD 7 0) (b.salt.getD 8 0) (b.salt.getD 9 0) (b.salt.getD 10 0) (b.salt.getD 11 0) (b.salt.getD 12 0) (b.salt.getD 13 0) (b.salt.getD 14 0) (b.salt.getD 15 0) (b.salt.getD 16 0) (b.salt.getD 17 0) (b.salt.getD 18 0) (b.salt.getD 19 0) (b.salt.getD 20 0) (b.salt.getD 21 0) (b.salt.getD 22 0) (b.salt.getD 23 0) (b.salt.getD 24 0) (b.salt.getD 25 0) (b.salt.getD 26 0) (b.salt.getD 27 0) (b.salt.getD 28 0) (b.salt.getD 29 0) (b.salt.getD 30 0) (b.salt.getD 31 0) b.H.length tl p (zu b.H) tf:=by
 intro m
 induction m with
 | zero=>intro i c h1 h2 h3; omega
 | succ m IH=>
  intro i c h1 h2 h3
  unfold zbF zea
  by_cases h:i<z
  ·have hi:i<b.H.length:=by omega
   rw [zaK (by omega),ya (by omega),at3,cT hi,ya (by omega),at3,cT h3,xN,show z-i=(z-(i+1))+1 by omega,zcI,zlA hi,zlA h3]
   by_cases ht:b.H[i].a.t<b.H[c].a.t
   ·rw [if_pos ht,if_pos ht,xq,zaH (by omega)]
    exact IH (i+1) i (by omega) (by omega) hi
   ·rw [if_neg ht,if_neg ht,xq,zaH (by omega)]
    exact IH (i+1) c (by omega) (by omega) h3
  ·rw [zaW (by omega),show z-i=0 by omega]; rfl
theorem Bk.v_mk(b:Bk)(H T:List Plc):row .u8 b.salt++[V.sl 5 (xD H),V.sl 5 (xD T)]=(⟨b.salt,H,T,b.hs⟩:Bk).v:=rfl
theorem zBU(L:Nat)(hL:200000<L)(b:Bk)(hH:b.H.length≤100000)(hT:b.T.length≤100000)(a:Adr)(src:Int)(k:List V→Bool→Option β):zw β (L+100) b.v a.v src k=k (zbX b a src).1.v (zbX b a src).2:=by
 unfold zw zmK zp4
 rw [ya (by rw [b.len]; omega),b.take,b.dem,zfK _ b (by omega) (by omega),ya (by show 0+3≤3; omega),zd7,zBg _ b.T (by omega) (by omega),ya rfl,xN]
 unfold zbX
 by_cases h:zcA (fun x=>xA x.a a) b.T 0≥0
 ·obtain ⟨j,hj,e⟩:=zql h
  rw [if_pos h,if_pos h,e,ya (by omega),at3,cT hj,zz (n:=a.t) rfl,xq,ya (by omega),ya ⟨rfl,by rw [zan]; omega⟩,xq,zqB hj,zar,zlb (zs8 _ _ _).symm,b.mk_v,b.v_mk,Int.toNat_natCast]
 ·rw [if_neg h,if_neg h,ya (by show 0+3≤3; omega),zBg _ b.H (by omega) (by omega),ya rfl,xN]
  by_cases h':zcA (fun x=>xA x.a a) b.H 0≥0
  ·obtain ⟨j,hj,e⟩:=zql h'
   rw [if_pos h',if_pos h',e,ya (by omega),at3,cT hj,zz (n:=a.t) rfl,xq,ya (by omega),ya ⟨rfl,by rw [zan]; omega⟩,xq,zqB hj,zar,zlb (zs8 _ _ _).symm,b.mk_v,b.v_mk,Int.toNat_natCast]
  ·rw [if_neg h',if_neg h',ya (by rw [b.len]; omega),ya (by show 0+3≤3; omega),b.t32,zFs L b.salt b.hs]
   generalize hbk b.salt a src=v
   have hr:=zn1 b.H v
   rw [ya (by show 0+3≤3; omega),ya ⟨rfl,by omega⟩,ya (by show 1=1∧4+1≤5; omega),ya ⟨rfl,by omega⟩,zEx,xq,zz (n:=v) rfl,zrn]
   cases he:b.H.isEmpty with
   | true=>
    have hn:b.H=[]:=by simpa using he
    have hlen:b.H.length=0:=by rw [hn]; rfl
    rw [zdd,zar,zn8 _ b.H (by omega) (by omega),xq,zW (by omega) (by omega),xN,if_neg (by omega),if_neg (by omega),ya (by show 0+5≤5; omega),zdd,zp7,zlJ _ b.H (by omega) (by omega),zar,b.mk_v,b.v_mk]
   | false=>
    rw [zcD,zar,zn8 _ b.H (by omega) (by omega),xq,zW (by omega) (by omega),xN]
    by_cases h8:toN b.H v-xE b.H v≥8
    ·rw [if_pos (by omega),if_pos h8]
     refine (zCH (L+100) b (by omega) (toN b.H v) hr.2 a.v _ _ _ _ (L+100) (xE b.H v) (xE b.H v) hr.1 (by omega) (by omega)).trans ?_
     have hm:=zju b.H (xE b.H v) (toN b.H v) (toN b.H v-xE b.H v) (xE b.H v) (xE b.H v) (Nat.le_refl _) (by omega) (Nat.le_refl _) (by omega)
     generalize zcI b.H (toN b.H v-xE b.H v) (xE b.H v) (xE b.H v)=m at hm ⊢
     have hml:m<b.H.length:=by omega
     unfold zc6
     rw [ya (by omega),at3,cT hml,zz (n:=a.t) rfl,xN,zlA hml]
     by_cases ht:b.H[m].a.t≥a.t
     ·rw [if_pos ht,if_pos ht,zar,zar,b.mk_v,b.v_mk]
     ·have hlr:(za3 b.H m).length≤b.H.length:=(zdk _ _).length_le
      rw [if_neg ht,if_neg ht,zar,zuL _ b.H (by omega) m hml,ya (by show 0+5≤5; omega),zp7,zlJ _ (za3 b.H m) (by omega) (by omega),zar,b.mk_v,b.v_mk]
    ·rw [if_neg (by omega),if_neg h8,ya (by show 0+5≤5; omega),zp7,zlJ _ b.H (by omega) (by omega),zar,b.mk_v,b.v_mk]
end
section
set_option linter.unusedVariables false
set_option linter.unusedSimpArgs false
set_option maxRecDepth 100000
variable {β:Type}
def bk0:Bk:=⟨List.replicate 32 0,[],[],by rfl⟩
theorem zCN:List.replicate 32 (Qa (0:Int))++[(V.sl 5 ([]:List (List V))),(V.sl 5 ([]:List (List V)))]=bk0.v:=rfl
theorem zDG(b:Bk)(k:List V→Int→Option β):chk (List.length b.v=34) (cI .u8 b.v 0 fun v0=>cI .u8 b.v 1 fun v1=>cI .u8 b.v 2 fun v2=>cI .u8 b.v 3 fun v3=>cI .u8 b.v 4 fun v4=>cI .u8 b.v 5 fun v5=>cI .u8 b.v 6 fun v6=>cI .u8 b.v 7 fun v7=>cI .u8 b.v 8 fun v8=>cI .u8 b.v 9 fun v9=>cI .u8 b.v 10 fun v10=>cI .u8 b.v 11 fun v11=>cI .u8 b.v 12 fun v12=>cI .u8 b.v 13 fun v13=>cI .u8 b.v 14 fun v14=>cI .u8 b.v 15 fun v15=>cI .u8 b.v 16 fun v16=>cI .u8 b.v 17 fun v17=>cI .u8 b.v 18 fun v18=>cI .u8 b.v 19 fun v19=>cI .u8 b.v 20 fun v20=>cI .u8 b.v 21 fun v21=>cI .u8 b.v 22 fun v22=>cI .u8 b.v 23 fun v23=>cI .u8 b.v 24 fun v24=>cI .u8 b.v 25 fun v25=>cI .u8 b.v 26 fun v26=>cI .u8 b.v 27 fun v27=>cI .u8 b.v 28 fun v28=>cI .u8 b.v 29 fun v29=>cI .u8 b.v 30 fun v30=>cI .u8 b.v 31 fun v31=>cL 5 b.v 32 fun v32=>cL 5 b.v 33 fun v33=>k [V.sc (.int .u8 v0),V.sc (.int .u8 v1),V.sc (.int .u8 v2),V.sc (.int .u8 v3),V.sc (.int .u8 v4),V.sc (.int .u8 v5),V.sc (.int .u8 v6),V.sc (.int .u8 v7),V.sc (.int .u8 v8),V.sc (.int .u8 v9),V.sc (.int .u8 v10),V.sc (.int .u8 v11),V.sc (.int .u8 v12),V.sc (.int .u8 v13),V.sc (.int .u8 v14),V.sc (.int .u8 v15),V.sc (.int .u8 v16),V.sc (.int .u8 v17),V.sc (.int .u8 v18),V.sc (.int .u8 v19),V.sc (.int .u8 v20),V.sc (.int .u8 v21),V.sc (.int .u8 v22),V.sc (.int .u8 v23),V.sc (.int .u8 v24),V.sc (.int .u8 v25),V.sc (.int .u8 v26),V.sc (.int .u8 v27),V.sc (.int .u8 v28),V.sc (.int .u8 v29),V.sc (.int .u8 v30),V.sc (.int .u8 v31),(V.sl 5 v32),(V.sl 5 v33)] (0:Int))=k b.v 0:=by
 rw [ya b.len,zd b 0 (by omega),zd b 1 (by omega),zd b 2 (by omega),zd b 3 (by omega),zd b 4 (by omega),zd b 5 (by omega),zd b 6 (by omega),zd b 7 (by omega),zd b 8 (by omega),zd b 9 (by omega),zd b 10 (by omega),zd b 11 (by omega),zd b 12 (by omega),zd b 13 (by omega),zd b 14 (by omega),zd b 15 (by omega),zd b 16 (by omega),zd b 17 (by omega),zd b 18 (by omega),zd b 19 (by omega),zd b 20 (by omega),zd b 21 (by omega),zd b 22 (by omega),zd b 23 (by omega),zd b 24 (by omega),zd b 25 (by omega),zd b 26 (by omega),zd b 27 (by omega),zd b 28 (by omega),zd b 29 (by omega),zd b 30 (by omega),zd b 31 (by omega)]
 have g1:∀ k:List (List V)→Option β,cL 5 b.v 32 k=k (xD b.H):=zlK b.g32
 have g2:∀ k:List (List V)→Option β,cL 5 b.v 33 k=k (xD b.T):=zlK b.g33
 rw [g1,g2,b.mk_v,b.v_mk]
theorem zGT(e:Plc)(v:Int):zg e.v 0 [V.sc (.int .i64 v)]=(⟨v,e.a,e.s⟩:Plc).v:=rfl
theorem zHp(b:Bk)(e:Plc):zg e.v 0 [V.sc (.int .i64 (tbk b.salt e.a))]=(ze8 b e).v:=by
 unfold ze8
 exact zGT e _
theorem z3(a:Adr):zg [(Qc (0:Int)),(Qb (0:Int)),(Qc (0:Int))] 0 a.v=a.v:=zlu rfl
theorem z5(p:Plc):zg [(Qe (0:Int)),(Qc (0:Int)),(Qb (0:Int)),(Qc (0:Int)),(Qc (0:Int))] 0 p.v=p.v:=zlu rfl
theorem at0(j:Nat):0+Int.toNat (j:Int)*5=j*5:=by rw [Int.toNat_natCast]; omega
theorem p13(p:Plc):List.take 3 (List.drop 1 p.v)=p.a.v:=rfl
theorem cB0(p:Plc)(k:Int→Option β):cI .i64 p.v 0 k=k p.b:=zz rfl k
theorem zGh(L:Nat)(hL:200000<L)(b:Bk)(hS:SndB b)(a:Adr)(j:Nat)(hj:j<b.H.length)(hf:zcA (fun x=>xA x.a a) b.H 0=(j:Int))(k:List V→Int→Option β):xt β (L+100) b.v a.v k=k (zsB b j b.H[j]).v 0:=by
 have hH:=hS.lenH
 have hT:=hS.lenT
 have hrl:(za3 b.H j).length≤b.H.length:=(zdk _ _).length_le
 have hne:b.H.isEmpty=false:=by
  cases he:b.H with
  | nil=>rw [he] at hj; simp at hj
  | cons x l=>rfl
 unfold xt zpK
 rw [ya (by rw [b.len]; omega),b.take,b.dem,zAT _ b (by omega) (by omega) (by omega),(zge b).2 hS,Bool.not_true,zcD,zag b.g32,ya (by show 0+3≤3; omega),zd7,zyN _ b.H (by omega) (by omega),hf,xN,if_neg (by omega),ya (by rw [b.len]; omega),zfK _ b (by omega) (by omega),ya (by omega),at0,ya (by rw [zan]; omega),zsC hj,ya ⟨rfl,by omega⟩,z5,xq,zrn,hne,zcD,zar,zuL _ b.H (by omega) j hj,ya (by rw [b.len]; omega),ya (by show 1+3≤5; omega),b.t32,p13,zCe L b.salt b.hs,ya (by show 1=1∧0+1≤5; omega),xq,zHp,cB0,zwz,zrn]
 unfold zsB
 have hb:(ze8 b b.H[j]).b=tbk b.salt b.H[j].a:=zwz _ _
 generalize ze8 b b.H[j]=p at hb ⊢
 generalize tbk b.salt b.H[j].a=v at hb ⊢
 have hr:=zn1 b.T v
 cases he:b.T.isEmpty with
 | true=>
  have hn:b.T=[]:=by simpa using he
  have hlen:b.T.length=0:=by rw [hn]; rfl
  rw [zdd,zar,zn8 _ b.T (by omega) (by omega),xq,zW (by omega) (by omega),xN,if_neg (by omega),if_neg (by omega),ya (by show 0+5≤5; omega),zdd,zp7,zlJ _ b.T (by omega) (by omega),xN,if_neg (by omega),b.mk_v,b.v_mk]
 | false=>
  rw [zcD,zar,zn8 _ b.T (by omega) (by omega),xq,zW (by omega) (by omega),xN]
  by_cases h8:toN b.T v-xE b.T v≥8
  ·have hl:xE b.T v<b.T.length:=by omega
   have hrt:(za3 b.T (xE b.T v)).length≤b.T.length:=(zdk _ _).length_le
   have hil:(zfH (za3 b.T (xE b.T v)) p).length≤b.T.length+1:=by
    unfold zfH
    simp only [List.length_append,List.length_take,List.length_drop,List.length_singleton]
    omega
   rw [if_pos (by omega),if_pos h8,ya (by omega),at0,ya (by rw [zan]; omega),zAi hl,ya ⟨rfl,by omega⟩,z3,xq,zuL _ b.T (by omega) _ hl,ya (by show 0+5≤5; omega),zp7,zlJ _ (za3 b.T (xE b.T v)) (by omega) (by omega),xN,if_pos (by omega),ya (by show 0+3≤3; omega),ya (by show 0+3≤3; omega),zd7,zwH,b.mk_v,b.v_mk,zBU L hL _ (by show (za3 b.H j).length≤100000; omega) (by show (zfH (za3 b.T (xE b.T v)) p).length≤100000; omega)]
   rw [List.getElem?_eq_getElem hl]
   exact zDG _ k
  ·rw [if_neg (by omega),if_neg h8,ya (by show 0+5≤5; omega),zp7,zlJ _ b.T (by omega) (by omega),xN,if_neg (by omega),b.mk_v,b.v_mk]
theorem z34(z:List V)(hz:z.length=34)(b:Bk):zg z 0 b.v=b.v:=zlu (by rw [b.len,hz])
theorem zAH(L:Nat)(hL:200000<L)(b:Bk)(hS:SndB b)(a:Adr)(src:Int)(k:List V→Bool→Int→Option β):xb β (L+100) b.v a.v src k=k (zbX b a src).1.v (zbX b a src).2 0:=by
 have hH:=hS.lenH
 have hT:=hS.lenT
 unfold xb zkU
 rw [ya (by rw [b.len]; omega),b.take,b.dem,zAT _ b (by omega) (by omega) (by omega),(zge b).2 hS,Bool.not_true,zcD,ya (by rw [b.len]; omega),ya (by show 0+3≤3; omega),zd7,zBU L hL b (by omega) (by omega)]
 generalize (zbX b a src).1=b'
 generalize (zbX b a src).2=r
 rw [ya ⟨b'.len,by omega⟩,z34 _ (by simp),xq,ya (by rw [b'.len]; omega),b'.take,ya ⟨b'.len,by omega⟩,z34 _ (by simp),xq,ya ⟨rfl,b'.len,by omega⟩]
end
section
set_option linter.unusedVariables false
set_option linter.unusedSimpArgs false
set_option maxRecDepth 100000
theorem zxy(L:Nat)(v n:Int)(hn:1≤n)(hn2:n≤1000000000000):∃ r,0≤r∧r<n∧∀ (β:Type) (k:Int→Option β),zN β L v n k=k r:=by
 by_cases h:Int.tmod v n<0
 ·have h1:=Int.lt_tmod_of_pos v (show 0<n by omega)
  refine ⟨Int.tmod v n+n,by omega,by omega,fun β k=>?_⟩
  simp only [zN,zpm,xq]
  rw [ya (by omega),zaK h,zW (by omega) (by omega)]
 ·have h1:=Int.tmod_lt_of_pos v (show 0<n by omega)
  refine ⟨Int.tmod v n,by omega,h1,fun β k=>?_⟩
  simp only [zN,zpm,xq]
  rw [ya (by omega),zaW h]
structure Dk where
 l:List Int
 a:Int
 h0:0≤a
 h1:a≤l.length
 hl:l.length≤9223372036854775807
def Dk.es(d:Dk):List (List V):=zaw .i64 d.l
theorem zee(L:Nat)(d:Dk)(n:Int)(hn:1≤n)(hn2:n≤1000000000000):∃ (r:Int) (d':Dk),d'.l=d.l∧0≤r∧r<n∧∀ (β:Type) (k:Int→List (List V)→Int→Option β),yc β L n d.es d.a k=k r d'.es d'.a:=by
 obtain ⟨l,a,h0,h1,hl⟩:=d
 simp only [Dk.es]
 by_cases h:a<l.length
 ·obtain ⟨i,rfl⟩:∃ i:Nat,a=i:=⟨a.toNat,by omega⟩
  have hi:i<l.length:=by omega
  obtain ⟨r,q1,q2,q3⟩:=zxy L l[i] n hn hn2
  refine ⟨r,⟨l,i+1,by omega,by omega,hl⟩,rfl,q1,q2,fun β k=>?_⟩
  simp only [yc,zhq,yS,zhB,xq,zdN]
  have w1:IntKind.wrap .i64 ((i:Int)+1)=(i:Int)+1:=zW (by omega) (by omega)
  have w2:IntKind.wrap .i64 ((i:Int)+1-1)=(i:Int):=by rw [zW (by omega) (by omega)]; omega
  rw [zAh,if_pos (by omega),w1,w2,zbc (ztc _ hi),zz (by rfl),q3]
 ·refine ⟨0,⟨l,a,h0,h1,hl⟩,rfl,by omega,by omega,fun β k=>?_⟩
  simp only [yc,zhq,yS,zhB,xq,zdN]
  rw [zAh,if_neg (by omega)]
theorem zFY(L:Nat)(d:Dk):∃ (id:List Int) (d':Dk),d'.l=d.l∧id.length=32∧∀ (β:Type) (k:List V→List (List V)→Int→Option β),yv β L d.es d.a k=k (row .u8 id) d'.es d'.a:=by
 obtain ⟨r,d1,e1,_,_,q1⟩:=zee L d 5 (by omega) (by omega)
 obtain ⟨s,d2,e2,_,_,q2⟩:=zee L d1 7 (by omega) (by omega)
 refine ⟨IntKind.wrap .u8 r::(List.replicate 30 0++[IntKind.wrap .u8 s]),d2,by rw [e2,e1],by simp,fun β k=>?_⟩
 simp only [yv,zq1,q1,q2,xq]
 rw [ya (by simp)]
 rfl
theorem zFC(n:Int):0≤IntKind.wrap .u32 n:=by
 unfold IntKind.wrap
 simp only [IntKind.signed,Bool.false_and,Bool.false_eq_true,if_false,IntKind.bits]
 exact Int.emod_nonneg n (by decide)
theorem zys(L:Nat)(d:Dk):∃ (a:Adr) (d':Dk),d'.l=d.l∧0≤a.h∧∀ (β:Type) (k:List V→List (List V)→Int→Option β),zn β L d.es d.a k=k a.v d'.es d'.a:=by
 obtain ⟨r1,d1,e1,_,_,q1⟩:=zee L d 6 (by omega) (by omega)
 obtain ⟨r2,d2,e2,_,_,q2⟩:=zee L d1 5 (by omega) (by omega)
 obtain ⟨r3,d3,e3,_,_,q3⟩:=zee L d2 2 (by omega) (by omega)
 obtain ⟨r4,d4,e4,_,_,q4⟩:=zee L d3 50 (by omega) (by omega)
 refine ⟨⟨IntKind.wrap .u32 (zrk .u32 (IntKind.wrap .u32 r1) 16+IntKind.wrap .u32 r2),IntKind.wrap .u16 r3,IntKind.wrap .u32 r4⟩,d4,by rw [e4,e3,e2,e1],zFC _,fun β k=>?_⟩
 simp only [zn,zrs,q1,q2,q3,q4,xq]
 rw [ya (by simp)]
 rfl
theorem zDu(A B r:List V)(h:A.length=r.length):zg (A++B) 0 r=r++B:=by
 unfold zg
 rw [List.take_zero,Nat.zero_add,List.drop_left' h,List.nil_append]
def Bk.new(s:List Int)(h:s.length=32):Bk:=⟨s,[],[],h⟩
theorem zBJ(s:List Int)(h:s.length=32):SndB (Bk.new s h):=⟨TOk.nil _ _,TOk.nil _ _,fun x hx=>by cases hx⟩
def z34g:List V:=List.replicate 32 (Qa (0:Int))++[(V.gs 5 ([]:List (List V))),(V.gs 5 ([]:List (List V)))]
theorem zAS:z34g.length=34:=by simp [z34g]
theorem zEn{b:Bk}{i:Nat}(hi:i<b.H.length):∃ j:Nat,j<b.H.length∧zcA (fun x=>xA x.a b.H[i].a) b.H 0=(j:Int):=by
 refine zql ?_
 have:=zB3 (fun x:Plc=>xA x.a b.H[i].a) b.H 0
 have h2:b.H.any (fun x=>xA x.a b.H[i].a)=true:=List.any_eq_true.2 ⟨b.H[i],List.getElem_mem hi,zs3 _⟩
 rw [h2] at this
 exact of_decide_eq_true this
theorem zEc(L:Nat)(hL:200000<L):∀ (c m:Nat) (b:Bk) (d:Dk),c<m→c≤1000→SndB b→NnB b→∃ (b':Bk) (d':Dk),d'.l=d.l∧SndB b'∧NnB b'∧∀ (β:Type) (kx:List (List V)→Int→List V→List V→Option β),zcb yv yc xt zn xb (L+100) kx m (c:Int) d.es d.a z34g b.v=kx d'.es d'.a z34g b'.v:=by
 intro c
 induction c with
 | zero=>
  intro m b d hm hc hS hN
  refine ⟨b,d,rfl,hS,hN,fun β kx=>?_⟩
  obtain ⟨m,rfl⟩:∃ q,m=q+1:=⟨m-1,by omega⟩
  simp only [zcb,zdO]
  rw [zaW (by omega)]
 | succ c IH=>
  intro m b d hm hc hS hN
  obtain ⟨m,rfl⟩:∃ q,m=q+1:=⟨m-1,by omega⟩
  have hH:=hS.lenH
  have w:IntKind.wrap .i64 (((c+1:Nat):Int)-1)=(c:Int):=by rw [zW (by omega) (by omega)]; omega
  obtain ⟨r0,d0,e0,g1,g2,q0⟩:=zee (L+100) d 4 (by omega) (by omega)
  by_cases h0:r0=0
  ·by_cases hp:0<b.H.length
   ·obtain ⟨r1,d1,e1,g3,g4,q1⟩:=zee (L+100) d0 (b.H.length:Int) (by omega) (by omega)
    obtain ⟨i,rfl⟩:∃ i:Nat,r1=i:=⟨r1.toNat,by omega⟩
    have hi:i<b.H.length:=by omega
    obtain ⟨j,hj,hf⟩:=zEn hi
    obtain ⟨b',d',e',hS',hN',q'⟩:=IH m (zsB b j b.H[j]) d1 (by omega) (by omega) (zEe hS hj) (zFa hN hj)
    refine ⟨b',d',by rw [e',e1,e0],hS',hN',fun β kx=>?_⟩
    simp only [zcb,zdO,q0]
    rw [zaK (by omega),yY,if_pos h0,zag b.g32,yL,zaK (by omega),ya (by rw [b.len]; omega),zag b.g32,zag b.g32,yL,q1,zbc (zbs hi),b.take,b.dem,p13,zGh L hL b hS _ j hj hf,ya ⟨Bk.len _,by rw [b.len]; omega⟩,z34 _ b.len,xq,xq,w]
    exact q' β kx
   ·obtain ⟨b',d',e',hS',hN',q'⟩:=IH m b d0 (by omega) (by omega) hS hN
    refine ⟨b',d',by rw [e',e0],hS',hN',fun β kx=>?_⟩
    simp only [zcb,zdO,q0]
    rw [zaK (by omega),yY,if_pos h0,zag b.g32,yL,zaW (by omega),xq,w]
    exact q' β kx
  ·obtain ⟨a,d1,e1,ha,q1⟩:=zys (L+100) d0
   obtain ⟨r2,d2,e2,_,_,q2⟩:=zee (L+100) d1 4 (by omega) (by omega)
   obtain ⟨b',d',e',hS',hN',q'⟩:=IH m (zbX b a (IntKind.wrap .u32 r2)).1 d2 (by omega) (by omega) (zu6 hS _ _) (zBd hN ha _)
   refine ⟨b',d',by rw [e',e2,e1,e0],hS',hN',fun β kx=>?_⟩
   simp only [zcb,zdO,q0,q1,q2]
   rw [zaK (by omega),yY,if_neg h0,ya (by rw [b.len]; omega),xq,b.take,b.dem,zAH L hL b hS,ya ⟨Bk.len _,by rw [b.len]; omega⟩,z34 _ b.len,xq,xq,w]
   exact q' β kx
theorem zFI(L:Nat)(hL:200000<L)(d:Dk):∃ (b:Bk) (d':Dk),d'.l=d.l∧SndB b∧NnB b∧∀ (β:Type) (k:List V→List (List V)→Int→Option β),zj β (L+100) d.es d.a k=k b.v d'.es d'.a:=by
 obtain ⟨s,d1,e1,hs,q1⟩:=zFY (L+100) d
 obtain ⟨r,d2,e2,g1,g2,q2⟩:=zee (L+100) d1 40 (by omega) (by omega)
 obtain ⟨c,rfl⟩:∃ c:Nat,r=c:=⟨r.toNat,by omega⟩
 obtain ⟨b',d',e',hS',hN',q'⟩:=zEc L hL c (L+100) (Bk.new s hs) d2 (by omega) (by omega) (zBJ s hs) ⟨fun e he=>(by cases he),fun e he=>(by cases he)⟩
 refine ⟨b',d',by rw [e',e2,e1],hS',hN',fun β k=>?_⟩
 simp only [zj,zn3,zrz,q1,q2]
 have es:zg (List.replicate 32 (Qa (0:Int))++[(V.sl 5 ([]:List (List V))),(V.sl 5 ([]:List (List V)))]) 0 (row .u8 s)=(Bk.new s hs).v:=by
  rw [zDu _ _ _ (by simp [zb1,hs])]; rfl
 rw [ya (by rw [zb1,hs]; omega),es,ya ⟨Bk.len _,by omega⟩,z34 _ (by simp),xq]
 refine (q' β _).trans ?_
 unfold ziU
 rw [ya (by rw [b'.len]; omega),b'.take,ya ⟨b'.len,by rw [zAS]; omega⟩,z34 _ zAS,xq,ya ⟨rfl,b'.len,by omega⟩]
end
section
set_option linter.unusedVariables false
set_option linter.unusedSimpArgs false
set_option maxRecDepth 100000
variable {β:Type}
theorem zAX(L:Nat)(l:List Plc)(hl:l.length≤1000000)(k:List (List V)→Option β):yn β L (xD l) k=k (xD l):=by
 simp only [yn,zcn]
 have hp:=zr5 l
 have hlen:=yL l
 generalize xD l=q at hp hlen
 cases q with
 | nil=>rfl
 | cons h t=>
  simp only [lc]
  rw [ya (by rw [hlen]; exact zra (by omega) hl),ya (.inl (by simp)),zvV hp]
theorem zCL(L:Nat)(b:Bk)(hH:b.H.length≤1000000)(hT:b.T.length≤1000000)(k:zht β):yP β L b.v k=k (b.salt.getD 0 0) (b.salt.getD 1 0) (b.salt.getD 2 0) (b.salt.getD 3 0) (b.salt.getD 4 0) (b.salt.getD 5 0) (b.salt.getD 6 0) (b.salt.getD 7 0) (b.salt.getD 8 0) (b.salt.getD 9 0) (b.salt.getD 10 0) (b.salt.getD 11 0) (b.salt.getD 12 0) (b.salt.getD 13 0) (b.salt.getD 14 0) (b.salt.getD 15 0) (b.salt.getD 16 0) (b.salt.getD 17 0) (b.salt.getD 18 0) (b.salt.getD 19 0) (b.salt.getD 20 0) (b.salt.getD 21 0) (b.salt.getD 22 0) (b.salt.getD 23 0) (b.salt.getD 24 0) (b.salt.getD 25 0) (b.salt.getD 26 0) (b.salt.getD 27 0) (b.salt.getD 28 0) (b.salt.getD 29 0) (b.salt.getD 30 0) (b.salt.getD 31 0) b.H.length b.T.length (zu b.H) (zu b.T):=by
 unfold yP zkh
 rw [ya b.len,zd b 0 (by omega),zd b 1 (by omega),zd b 2 (by omega),zd b 3 (by omega),zd b 4 (by omega),zd b 5 (by omega),zd b 6 (by omega),zd b 7 (by omega),zd b 8 (by omega),zd b 9 (by omega),zd b 10 (by omega),zd b 11 (by omega),zd b 12 (by omega),zd b 13 (by omega),zd b 14 (by omega),zd b 15 (by omega),zd b 16 (by omega),zd b 17 (by omega),zd b 18 (by omega),zd b 19 (by omega),zd b 20 (by omega),zd b 21 (by omega),zd b 22 (by omega),zd b 23 (by omega),zd b 24 (by omega),zd b 25 (by omega),zd b 26 (by omega),zd b 27 (by omega),zd b 28 (by omega),zd b 29 (by omega),zd b 30 (by omega),zd b 31 (by omega)]
 have g1:∀ k:List (List V)→Option β,cL 5 b.v 32 k=k (xD b.H):=zlK b.g32
 have g2:∀ k:List (List V)→Option β,cL 5 b.v 33 k=k (xD b.T):=zlK b.g33
 rw [g1,g2,zAX L b.H hH,zAX L b.T hT,yL,yL]
 rfl
theorem zEV(L:Nat)(a b:Adr)(k:Bool→Option β):xW β L a.v b.v k=k (xA a b):=by
 simp only [xW,zlT]
 rw [zz (n:=a.h) rfl,zz (n:=b.h) rfl,yY]
 by_cases h:a.h=b.h
 ·rw [if_pos h,zz (n:=a.p) rfl,zz (n:=b.p) rfl,xA,h]
  congr 1
  simp
 ·rw [if_neg h,xA,beq_eq_false_iff_ne.2 h]; rfl
theorem zDg(L:Nat)(p:Plc)(a:Adr)(k:Bool→List V→Option β):yj β L p.v a.v k=k (xA p.a a) a.v:=by
 unfold yj zkj
 rw [ya (by show 1+3≤5; omega),ya (by show 0+3≤3; omega),p13,zd7,zEV]
theorem zt2(l:List Plc)(z:List V):(zu l++z).length=l.length*5+z.length:=by rw [List.length_append,zan]
theorem zD3{l:List Plc}{i j:Nat}(hi:i<l.length)(hj:j<5)(z:List V):(zu l++z)[i*5+j]?=l[i].v[j]?:=by
 rw [List.getElem?_append_left (by rw [zan]; omega),zqF hi hj]
theorem zBL(l:List Plc)(i:Nat)(hi:i≤l.length)(z:List V):(zu l++z).drop (i*5)=zu (l.drop i)++z:=by
 rw [List.drop_append_of_le_length (by rw [zan]; omega)]
 congr 1
 unfold zu
 rw [zzt (zr5 l),zu5]
theorem zyL(l:List Plc)(i:Nat)(hi:i≤l.length)(z:List V):(zu l++z).take (i*5)=zu (l.take i):=by
 rw [List.take_append_of_le_length (by rw [zan]; omega)]
 unfold zu
 rw [zxJ (zr5 l),zog]
theorem zGS{l:List Plc}{i:Nat}(hi:i<l.length)(z:List V):List.take 5 (List.drop (i*5) (zu l++z))=l[i].v:=by
 rw [List.drop_append_of_le_length (by rw [zan]; omega),List.take_append_of_le_length (by rw [List.length_drop,zan]; omega),zsC hi]
theorem zE1{l:List Plc}{j:Nat}(h:j<l.length)(z:List V)(k:Int→Option β):cI .u32 (zu l++z) (j*5+3) k=k l[j].a.t:=by
 refine zz ?_ k
 rw [zD3 h (by omega)]; rfl
theorem zGl{l:List Plc}{j:Nat}(h:j<l.length)(z:List V)(k:Int→Option β):cI .i64 (zu l++z) (j*5+0) k=k l[j].b:=by
 refine zz ?_ k
 rw [zD3 h (by omega)]; rfl
theorem zzv:∀ (l:List Plc) (z:List V),yf 5 l.length (zu l++z)=xD l
 | [],z=>rfl
 | x::l,z=>by
  have e:zu (x::l)++z=x.v++(zu l++z):=by simp [zu,xD]
  rw [e,List.length_cons,yf]
  have h:=zzv l z
  show x.v::yf 5 l.length (zu l++z)=xD (x::l)
  rw [h]; rfl
theorem fl1(p:Plc):List.flatten (yf 5 1 p.v)=p.v:=rfl
theorem zDF(L:Nat)(ps:List Plc)(hp:ps.length≤1000000)(z:List V)(a:Adr)(kr:Int→List V→List V→Option β)(kx:List V→List V→Option β)(k:Int→List V→List V→Option β)(hr:∀ i b c,kr i b c=k i b c)(hx:∀ b c,kx b c=k (-1) b c):∀ (m i:Nat),i≤ps.length→ps.length-i<m →
  z6 yj L kr kx m ps.length ((ps.length:Nat):Int) (i:Int) (zu ps++z) a.v=k (zcA (fun e=>xA e.a a) (ps.drop i) i) (zu ps++z) a.v:=by
 intro m
 induction m with
 | zero=>intro i h1 h2; omega
 | succ m IH=>
  intro i h1 h2
  unfold z6 zbk
  by_cases h:i<ps.length
  ·have ih:=IH (i+1) (by omega) (by omega)
   rw [zaK (by omega),ya (by omega),at0,ya (by rw [zt2]; omega),zGS h,zDg,ya rfl,List.drop_eq_getElem_cons h,zcA,xq,zaH (by omega)]
   cases xA ps[i].a a with
   | true=>exact hr _ _ _
   | false=>exact ih
  ·rw [zaW (by omega),List.drop_of_length_le (by omega),hx]; rfl
theorem zFz(L:Nat)(ps:List Plc)(hp:ps.length≤1000000)(hL:ps.length<L)(z:List V)(a:Adr)(k:Int→List V→List V→Option β):zm β L ps.length (zu ps++z) a.v k=k (zcA (fun e=>xA e.a a) ps 0) (zu ps++z) a.v:=by
 unfold zm zaO zbJ
 rw [show ((0:Int))=((0:Nat):Int) from rfl]
 exact zDF L ps hp z a _ _ k (fun _ _ _=>rfl) (fun _ _=>rfl) L 0 (by omega) (by omega)
theorem zBe(L:Nat)(ps:List Plc)(hp:ps.length≤1000000)(hL:ps.length<L)(a:Adr)(k:Int→List V→Option β):zT β L ps.length a.v (zu ps) k=k (zcA (fun e=>xA e.a a) ps 0) (zu ps):=by
 unfold zT zmd
 have h:=fun (k:Int→List V→List V→Option β)=>zFz L ps hp hL [] a k
 simp only [List.append_nil] at h
 rw [h,ya rfl]
theorem zF0(L:Nat)(l:List Plc)(hl:l.length≤1000000)(z:List V)(v:Int)(kx:Nat→Int→Int→List V→Option β):∀ (m i:Nat),i≤l.length→l.length-i<m →
  zc1 L kx m l.length v (i:Int) (zu l++z)=kx l.length v ((i+((l.drop i).takeWhile (fun x=>decide (x.b<v))).length:Nat):Int) (zu l++z):=by
 intro m
 induction m with
 | zero=>intro i h1 h2; omega
 | succ m IH=>
  intro i h1 h2
  unfold zc1 zgM
  by_cases h:i<l.length
  ·have ih:=IH (i+1) (by omega) (by omega)
   have e0:0+Int.toNat (i:Int)*5+0=i*5+0:=by rw [Int.toNat_natCast]; omega
   rw [zaK (by omega),ya (by omega),e0,zGl h,List.drop_eq_getElem_cons h,List.takeWhile_cons,xN,xq,zaH (by omega)]
   by_cases hb:l[i].b<v
   ·rw [if_pos hb,if_pos (by simpa using hb),List.length_cons]
    refine ih.trans ?_
    congr 2; omega
   ·rw [if_neg hb,if_neg (by simpa using hb)]; rfl
  ·rw [zaW (by omega),List.drop_of_length_le (by omega)]; rfl
theorem zGL(L:Nat)(l:List Plc)(hl:l.length≤1000000)(z:List V)(v f:Int)(kx:Int→Int→List V→Option β):∀ (m i:Nat),i≤l.length→l.length-i<m →
  zcs L kx m l.length v f (i:Int) (zu l++z)=kx f ((i+((l.drop i).takeWhile (fun x=>x.b==v)).length:Nat):Int) (zu l++z):=by
 intro m
 induction m with
 | zero=>intro i h1 h2; omega
 | succ m IH=>
  intro i h1 h2
  unfold zcs zfz
  by_cases h:i<l.length
  ·have ih:=IH (i+1) (by omega) (by omega)
   have e0:0+Int.toNat (i:Int)*5+0=i*5+0:=by rw [Int.toNat_natCast]; omega
   rw [zaK (by omega),ya (by omega),e0,zGl h,List.drop_eq_getElem_cons h,List.takeWhile_cons,yY,xq,zaH (by omega)]
   by_cases hb:l[i].b=v
   ·rw [if_pos hb,if_pos (by simpa using hb),List.length_cons]
    refine ih.trans ?_
    congr 2; omega
   ·rw [if_neg hb,if_neg (by simpa using hb)]; rfl
  ·rw [zaW (by omega),List.drop_of_length_le (by omega)]; rfl
theorem zCq(L:Nat)(l:List Plc)(hl:l.length≤1000000)(hL:l.length<L)(z:List V)(v:Int)(k:Int→Int→List V→Option β):zk β L l.length v (zu l++z) k=k ((xE l v:Nat):Int) ((toN l v:Nat):Int) (zu l++z):=by
 unfold zk zgs zj3
 rw [show ((0:Int))=((0:Nat):Int) from rfl]
 refine (zF0 L l hl z v _ L 0 (by omega) (by omega)).trans ?_
 have hf:=zn1 l v
 have e:0+((l.drop 0).takeWhile (fun x=>decide (x.b<v))).length=xE l v:=by rw [List.drop_zero,Nat.zero_add]; rfl
 rw [e]
 unfold zdb zfG
 refine (zGL L l hl z v _ _ L (xE l v) (by omega) (by omega)).trans ?_
 rfl
theorem zB0(L:Nat)(l:List Plc)(hl:l.length≤1000000)(z:List V)(i:Nat)(hi:i≤l.length)(p:Plc)(k:List (List V)→Nat→List V→Option β):xa β L l.length (i:Int) 1 (zu l++z) p.v k=k (xD (l.take i++[p]++l.drop i)) (zu l++z).length p.v:=by
 have hlen:(l.take i++[p]++l.drop i).length=l.length+1:=by simp; omega
 have e:znB 5 l.length 1 i (zu l++z) p.v=xD (l.take i++[p]++l.drop i):=by
  unfold znB
  rw [zyL l i hi,zyL l l.length (Nat.le_refl _),List.take_of_length_le (Nat.le_refl _)]
  have h2:=zBL l i hi []
  rw [List.append_nil,List.append_nil] at h2
  rw [h2]
  have h1:p.v=zu [p]:=by simp [zu,xD]
  rw [h1,← zlq,← zlq]
  exact zlb hlen.symm
 unfold xa
 rw [ya ⟨by omega,by omega,by omega,by rw [zt2]; omega,rfl,(zra hl (by omega)).1,(zra hl (by omega)).2⟩,Int.toNat_natCast,e]
theorem zFT(L:Nat)(l:List Plc)(hl:l.length≤1000000)(z:List V)(i:Nat)(hi:i<l.length):∃ z':List V,z'.length=z.length+5∧∀ (β:Type) (k:Nat→List V→Option β),zb β L l.length (i:Int) ((i+1:Nat):Int) (zu l++z) k=k (za3 l i).length (zu (za3 l i)++z'):=by
 have hrl:(za3 l i).length=l.length-1:=by unfold za3; simp; omega
 have hd:List.drop (0+(i+1)*5) (zu l++z)=zu (l.drop (i+1))++z:=by rw [Nat.zero_add]; exact zBL l (i+1) (by omega) z
 have hcl:(l.drop (i+1)).length=l.length-(i+1):=by simp
 have hch:yf 5 (l.length-(i+1)) (List.drop (0+(i+1)*5) (zu l++z))=xD (l.drop (i+1)):=by rw [hd,← hcl]; exact zzv _ z
 obtain ⟨w,hw⟩:∃ w,w=List.drop (i*5+(zu (l.drop (i+1))).length) (zu l++z):=⟨_,rfl⟩
 have hr2:zg (zu l++z) (i*5) (List.flatten (xD (l.drop (i+1))))=zu (za3 l i)++w:=by
  unfold zg za3
  rw [zyL l i (by omega),zlq]
  show zu (l.take i)++zu (l.drop (i+1))++List.drop (i*5+(zu (l.drop (i+1))).length) (zu l++z)=_
  rw [← hw]
 have hwl:w.length=z.length+5:=by
  rw [hw,List.length_drop,zt2,zan,hcl]; omega
 have hend:i+(l.length-(i+1))=l.length-1:=by omega
 refine ⟨List.flatten (List.replicate 1 [(V.sc (.int .i64 (0:Int))),(V.sc (.int .u32 (0:Int))),(V.sc (.int .u16 (0:Int))),(V.sc (.int .u32 (0:Int))),(V.sc (.int .u32 (0:Int)))])++w.drop 5,by simp [hwl],fun β k=>?_⟩
 have hr3:zg (zu (za3 l i)++w) (0+(l.length-1)*5) (List.flatten (List.replicate 1 [(V.sc (.int .i64 (0:Int))),(V.sc (.int .u32 (0:Int))),(V.sc (.int .u16 (0:Int))),(V.sc (.int .u32 (0:Int))),(V.sc (.int .u32 (0:Int)))]))=zu (za3 l i)++(List.flatten (List.replicate 1 [(V.sc (.int .i64 (0:Int))),(V.sc (.int .u32 (0:Int))),(V.sc (.int .u16 (0:Int))),(V.sc (.int .u32 (0:Int))),(V.sc (.int .u32 (0:Int)))])++w.drop 5):=by
  have hl5:(zu (za3 l i)).length=(l.length-1)*5:=by rw [zan,hrl]
  unfold zg
  rw [Nat.zero_add,List.take_append_of_le_length (by omega),List.take_of_length_le (by omega),List.drop_append,List.drop_of_length_le (by omega),List.nil_append,hl5,List.append_assoc]
  congr 3
  simp
 unfold zb zca
 simp only [Int.toNat_natCast,hch,yL,hcl,hend,xq,hr2]
 rw [ya (by omega),ya (by omega),ya (by omega),zaW (by omega),yY,if_neg (by omega),ya (by omega),ya (by omega),ya (by omega),ya (by omega),ya (by omega),show l.length-(l.length-1)=1 by omega,hr3,hrl]
end
section
set_option linter.unusedVariables false
set_option linter.unusedSimpArgs false
set_option maxRecDepth 100000
variable {β:Type}
def zkB(s:List Int)(H:List Plc)(a:Adr)(src:Int):List Plc × Bool:=
 if toN H (hbk s a src)-xE H (hbk s a src)≥8 then
  (if zsc H (zcI H (toN H (hbk s a src)-xE H (hbk s a src)) (xE H (hbk s a src)) (xE H (hbk s a src)))≥a.t then (H,false)
   else (zfH (za3 H (zcI H (toN H (hbk s a src)-xE H (hbk s a src)) (xE H (hbk s a src)) (xE H (hbk s a src)))) ⟨hbk s a src,a,src⟩,true))
 else (zfH H ⟨hbk s a src,a,src⟩,true)
theorem zBC(b:Bk)(a:Adr)(src:Int)(h1:¬ zcA (fun x=>xA x.a a) b.T 0≥0)(h2:¬ zcA (fun x=>xA x.a a) b.H 0≥0):zbX b a src=(⟨b.salt,(zkB b.salt b.H a src).1,b.T,b.hs⟩,(zkB b.salt b.H a src).2):=by
 unfold zbX zkB
 rw [if_neg h1,if_neg h2]
 split
 ·split <;> rfl
 ·rfl
theorem zCW(A B C:List Plc){j:Nat}(hj:j<B.length):za3 (A++(B++C)) (A.length+j)=A++(za3 B j++C):=by
 unfold za3
 rw [List.take_append,List.take_of_length_le (by omega),show A.length+j-A.length=j by omega,List.take_append_of_le_length (by omega)]
 rw [show A.length+j+1=A.length+(j+1) by omega,List.drop_append,List.drop_of_length_le (by omega),List.nil_append,show A.length+(j+1)-A.length=j+1 by omega,List.drop_append_of_le_length (by omega)]
 simp
theorem zGo{l:List Plc}{v:Int}(h:Srt l){m:Nat}(h1:xE l v≤m)(h2:m<toN l v):toN (za3 l m) v=toN l v-1:=by
 obtain ⟨A,B,C,rfl,hA,hB,hC⟩:=h.split3 v
 rw [zpi hA hB hC] at h1
 rw [znO hA hB hC] at h2
 obtain ⟨j,rfl⟩:∃ j,m=A.length+j:=⟨m-A.length,by omega⟩
 have hj:j<B.length:=by omega
 have hBl:(za3 B j).length=B.length-1:=by unfold za3; simp; omega
 rw [zCW A B C hj,znO hA hB hC,znO hA (fun x hx=>hB x ((zdk B j).subset hx)) hC,hBl]
 omega
theorem zGu(l:List Plc)(n i:Nat):zcI l (n+1) i i=zcI l n (i+1) i:=by
 rw [zcI]
 congr 1
 split <;> rfl
theorem zDB(L:Nat)(b:Bk)(hH:b.H.length≤1000000)(z:Nat)(hz:z≤b.H.length)(zs b1 p:List V)(src v:Int)(tl:Nat)(kx:zjz β):∀ (m i c:Nat),i≤z→z-i<m→c<b.H.length →
  zbO ze zk xa zb L kx m src v (z:Int) (c:Int) (i:Int) (zu b.H++zs) b1 (b.salt.getD 0 0) (b.salt.getD 1 0) (b.salt.getD 2 0) (b.salt.getD 3 0) (b.salt.getD 4 0) (b.salt.getD 5 0) (b.salt.getD 6 0) (b.salt.getD 7 0) (b.salt.getD 8 0) (b.salt.getD 9 0) (b.salt.getD 10 0) (b.salt.getD 11 0) (b.salt.getD 12 0) (b.salt.getD 13 0) (b.salt.getD 14 0) (b.salt.getD 15 0) (b.salt.getD 16 0) (b.salt.getD 17 0) (b.salt.getD 18 0) (b.salt.getD 19 0) (b.salt.getD 20 0) (b.salt.getD 21 0) (b.salt.getD 22 0) (b.salt.getD 23 0) (b.salt.getD 24 0) (b.salt.getD 25 0) (b.salt.getD 26 0) (b.salt.getD 27 0) (b.salt.getD 28 0) (b.salt.getD 29 0) (b.salt.getD 30 0) (b.salt.getD 31 0) b.H.length tl p 0 0 0 0 0 0 0 0 0 0 0 0 0 0 0 0 0 0 0 0 0 0 0 0 0 0 0 0 0 0 0 0 [] []
   = kx src v (z:Int) ((zcI b.H (z-i) i c:Nat):Int) (zu b.H++zs) b1 (b.salt.getD 0 0) (b.salt.getD 1 0) (b.salt.getD 2 0) (b.salt.getD 3 0) (b.salt.getD 4 0) (b.salt.getD 5 0) (b.salt.getD 6 0) (b.salt.getD 7 0) (b.salt.getD 8 0) (b.salt.getD 9 0) (b.salt.getD 10 0) (b.salt.getD 11 0) (b.salt.getD 12 0) (b.salt.getD 13 0) (b.salt.getD 14 0) (b.salt.getD 15 0) (b.salt.getD 16 0) (b.salt.getD 17 0) (b.salt.getD 18 0) (b.salt.getD 19 0) (b.salt.getD 20 0) (b.salt.getD 21 0) (b.salt.getD 22 0) (b.salt.getD 23 0) (b.salt.getD 24 0) (b.salt.getD 25 0) (b.salt.getD 26 0) (b.salt.getD 27 0) (b.salt.getD 28 0) (b.salt.getD 29 0) (b.salt.getD 30 0) (b.salt.getD 31 0) b.H.length tl p 0 0 0 0 0 0 0 0 0 0 0 0 0 0 0 0 0 0 0 0 0 0 0 0 0 0 0 0 0 0 0 0 [] []:=by
 intro m
 induction m with
 | zero=>intro i c h1 h2 h3; omega
 | succ m IH=>
  intro i c h1 h2 h3
  unfold zbO zep
  by_cases h:i<z
  ·have hi:i<b.H.length:=by omega
   rw [zaK (by omega),ya (by omega),at3,zE1 hi,ya (by omega),at3,zE1 h3,xN,show z-i=(z-(i+1))+1 by omega,zcI,zlA hi,zlA h3]
   by_cases ht:b.H[i].a.t<b.H[c].a.t
   ·rw [if_pos ht,if_pos ht,xq,zaH (by omega)]
    exact IH (i+1) i (by omega) (by omega) hi
   ·rw [if_neg ht,if_neg ht,xq,zaH (by omega)]
    exact IH (i+1) c (by omega) (by omega) h3
  ·rw [zaW (by omega),show z-i=0 by omega]; rfl
theorem zEu(L:Nat)(hL:200000<L)(b:Bk)(hs:Srt b.H)(hH:b.H.length≤100000)(z b1:List V)(tl:Nat)(a:Adr)(src:Int)(k:zcG β)(k1:zeo β) :
  xR β (L+100) (b.salt.getD 0 0) (b.salt.getD 1 0) (b.salt.getD 2 0) (b.salt.getD 3 0) (b.salt.getD 4 0) (b.salt.getD 5 0) (b.salt.getD 6 0) (b.salt.getD 7 0) (b.salt.getD 8 0) (b.salt.getD 9 0) (b.salt.getD 10 0) (b.salt.getD 11 0) (b.salt.getD 12 0) (b.salt.getD 13 0) (b.salt.getD 14 0) (b.salt.getD 15 0) (b.salt.getD 16 0) (b.salt.getD 17 0) (b.salt.getD 18 0) (b.salt.getD 19 0) (b.salt.getD 20 0) (b.salt.getD 21 0) (b.salt.getD 22 0) (b.salt.getD 23 0) (b.salt.getD 24 0) (b.salt.getD 25 0) (b.salt.getD 26 0) (b.salt.getD 27 0) (b.salt.getD 28 0) (b.salt.getD 29 0) (b.salt.getD 30 0) (b.salt.getD 31 0) b.H.length tl a.v src (zu b.H++z) b1 k k1=if (zkB b.salt b.H a src).2=true then k (b.salt.getD 0 0) (b.salt.getD 1 0) (b.salt.getD 2 0) (b.salt.getD 3 0) (b.salt.getD 4 0) (b.salt.getD 5 0) (b.salt.getD 6 0) (b.salt.getD 7 0) (b.salt.getD 8 0) (b.salt.getD 9 0) (b.salt.getD 10 0) (b.salt.getD 11 0) (b.salt.getD 12 0) (b.salt.getD 13 0) (b.salt.getD 14 0) (b.salt.getD 15 0) (b.salt.getD 16 0) (b.salt.getD 17 0) (b.salt.getD 18 0) (b.salt.getD 19 0) (b.salt.getD 20 0) (b.salt.getD 21 0) (b.salt.getD 22 0) (b.salt.getD 23 0) (b.salt.getD 24 0) (b.salt.getD 25 0) (b.salt.getD 26 0) (b.salt.getD 27 0) (b.salt.getD 28 0) (b.salt.getD 29 0) (b.salt.getD 30 0) (b.salt.getD 31 0) (zkB b.salt b.H a src).1.length tl true (zu b.H++z).length b1 (zu (zkB b.salt b.H a src).1) else k1 (b.salt.getD 0 0) (b.salt.getD 1 0) (b.salt.getD 2 0) (b.salt.getD 3 0) (b.salt.getD 4 0) (b.salt.getD 5 0) (b.salt.getD 6 0) (b.salt.getD 7 0) (b.salt.getD 8 0) (b.salt.getD 9 0) (b.salt.getD 10 0) (b.salt.getD 11 0) (b.salt.getD 12 0) (b.salt.getD 13 0) (b.salt.getD 14 0) (b.salt.getD 15 0) (b.salt.getD 16 0) (b.salt.getD 17 0) (b.salt.getD 18 0) (b.salt.getD 19 0) (b.salt.getD 20 0) (b.salt.getD 21 0) (b.salt.getD 22 0) (b.salt.getD 23 0) (b.salt.getD 24 0) (b.salt.getD 25 0) (b.salt.getD 26 0) (b.salt.getD 27 0) (b.salt.getD 28 0) (b.salt.getD 29 0) (b.salt.getD 30 0) (b.salt.getD 31 0) b.H.length tl false (zu b.H++z) b1:=by
 unfold xR zhI zkY
 rw [ya (by show 0+3≤3; omega),zd7,b.cells,zFq L b.salt b.hs]
 unfold zkB
 generalize hbk b.salt a src=v
 have hr:=zn1 b.H v
 rw [zCq _ b.H (by omega) (by omega),ya rfl,xq,zW (by omega) (by omega),xN]
 by_cases h8:toN b.H v-xE b.H v≥8
 ·obtain ⟨n,hn⟩:∃ n,toN b.H v-xE b.H v=n+1:=⟨toN b.H v-xE b.H v-1,by omega⟩
  rw [if_pos (by omega),if_pos h8,xq,zaH (by omega)]
  refine (zDB (L+100) b (by omega) (toN b.H v) hr.2 z b1 a.v src v tl _ (L+100) (xE b.H v+1) (xE b.H v) (by omega) (by omega) (by omega)).trans ?_
  have hm:=zju b.H (xE b.H v) (toN b.H v) (toN b.H v-xE b.H v) (xE b.H v) (xE b.H v) (Nat.le_refl _) (by omega) (Nat.le_refl _) (by omega)
  have he:zcI b.H (toN b.H v-(xE b.H v+1)) (xE b.H v+1) (xE b.H v)=zcI b.H (toN b.H v-xE b.H v) (xE b.H v) (xE b.H v):=by
   rw [hn,zGu]; congr 1; omega
  rw [he]
  generalize zcI b.H (toN b.H v-xE b.H v) (xE b.H v) (xE b.H v)=m at hm ⊢
  have hml:m<b.H.length:=by omega
  unfold zdQ
  rw [ya (by omega),at3,zE1 hml,zz (n:=a.t) rfl,xN,zlA hml]
  by_cases ht:b.H[m].a.t≥a.t
  ·rw [if_pos ht,if_pos ht,if_neg (by simp)]
  ·obtain ⟨z',hz',hdel⟩:=zFT (L+100) b.H (by omega) z m hml
   have hrl:(za3 b.H m).length=b.H.length-1:=by unfold za3; simp; omega
   have htr:=zGo hs hm.1 hm.2
   have hle:toN (za3 b.H m) v≤(za3 b.H m).length:=(zn1 _ v).2
   have hlen:(zu (za3 b.H m)++z').length=(zu b.H++z).length:=by rw [zt2,zt2,hz',hrl]; omega
   rw [if_neg ht,if_neg ht,if_pos rfl,xq,zaH (by omega),hdel,hlen,ya rfl,xq,show IntKind.wrap .i64 ((toN b.H v:Int)-1)=((toN b.H v-1:Nat):Int) by rw [zW (by omega) (by omega)]; omega,ya (by show 0+3≤3; omega),zd7,ya ⟨rfl,by omega⟩,ya (by show 1=1∧4+1≤5; omega),ya ⟨rfl,by omega⟩,zEx,fl1,← htr,zB0 _ _ (by omega) z' _ hle,hlen,ya rfl,yL]
   rfl
 ·rw [if_neg (by omega),if_neg h8,if_pos rfl,ya (by show 0+3≤3; omega),ya ⟨rfl,by omega⟩,ya (by show 1=1∧4+1≤5; omega),ya ⟨rfl,by omega⟩,zEx,fl1,zB0 _ _ (by omega) z _ hr.2,ya rfl,yL]
  rfl
end
section
set_option linter.unusedVariables false
set_option linter.unusedSimpArgs false
set_option maxRecDepth 100000
variable {β:Type}
theorem Bk.vv(b:Bk):[V.sc (.int .u8 (b.salt.getD 0 0)),V.sc (.int .u8 (b.salt.getD 1 0)),V.sc (.int .u8 (b.salt.getD 2 0)),V.sc (.int .u8 (b.salt.getD 3 0)),V.sc (.int .u8 (b.salt.getD 4 0)),V.sc (.int .u8 (b.salt.getD 5 0)),V.sc (.int .u8 (b.salt.getD 6 0)),V.sc (.int .u8 (b.salt.getD 7 0)),V.sc (.int .u8 (b.salt.getD 8 0)),V.sc (.int .u8 (b.salt.getD 9 0)),V.sc (.int .u8 (b.salt.getD 10 0)),V.sc (.int .u8 (b.salt.getD 11 0)),V.sc (.int .u8 (b.salt.getD 12 0)),V.sc (.int .u8 (b.salt.getD 13 0)),V.sc (.int .u8 (b.salt.getD 14 0)),V.sc (.int .u8 (b.salt.getD 15 0)),V.sc (.int .u8 (b.salt.getD 16 0)),V.sc (.int .u8 (b.salt.getD 17 0)),V.sc (.int .u8 (b.salt.getD 18 0)),V.sc (.int .u8 (b.salt.getD 19 0)),V.sc (.int .u8 (b.salt.getD 20 0)),V.sc (.int .u8 (b.salt.getD 21 0)),V.sc (.int .u8 (b.salt.getD 22 0)),V.sc (.int .u8 (b.salt.getD 23 0)),V.sc (.int .u8 (b.salt.getD 24 0)),V.sc (.int .u8 (b.salt.getD 25 0)),V.sc (.int .u8 (b.salt.getD 26 0)),V.sc (.int .u8 (b.salt.getD 27 0)),V.sc (.int .u8 (b.salt.getD 28 0)),V.sc (.int .u8 (b.salt.getD 29 0)),V.sc (.int .u8 (b.salt.getD 30 0)),V.sc (.int .u8 (b.salt.getD 31 0)),(V.sl 5 (xD b.H)),(V.sl 5 (xD b.T))]=b.v:=by rw [b.mk_v]; rfl
theorem Bk.vx(b:Bk)(H T:List Plc):[V.sc (.int .u8 (b.salt.getD 0 0)),V.sc (.int .u8 (b.salt.getD 1 0)),V.sc (.int .u8 (b.salt.getD 2 0)),V.sc (.int .u8 (b.salt.getD 3 0)),V.sc (.int .u8 (b.salt.getD 4 0)),V.sc (.int .u8 (b.salt.getD 5 0)),V.sc (.int .u8 (b.salt.getD 6 0)),V.sc (.int .u8 (b.salt.getD 7 0)),V.sc (.int .u8 (b.salt.getD 8 0)),V.sc (.int .u8 (b.salt.getD 9 0)),V.sc (.int .u8 (b.salt.getD 10 0)),V.sc (.int .u8 (b.salt.getD 11 0)),V.sc (.int .u8 (b.salt.getD 12 0)),V.sc (.int .u8 (b.salt.getD 13 0)),V.sc (.int .u8 (b.salt.getD 14 0)),V.sc (.int .u8 (b.salt.getD 15 0)),V.sc (.int .u8 (b.salt.getD 16 0)),V.sc (.int .u8 (b.salt.getD 17 0)),V.sc (.int .u8 (b.salt.getD 18 0)),V.sc (.int .u8 (b.salt.getD 19 0)),V.sc (.int .u8 (b.salt.getD 20 0)),V.sc (.int .u8 (b.salt.getD 21 0)),V.sc (.int .u8 (b.salt.getD 22 0)),V.sc (.int .u8 (b.salt.getD 23 0)),V.sc (.int .u8 (b.salt.getD 24 0)),V.sc (.int .u8 (b.salt.getD 25 0)),V.sc (.int .u8 (b.salt.getD 26 0)),V.sc (.int .u8 (b.salt.getD 27 0)),V.sc (.int .u8 (b.salt.getD 28 0)),V.sc (.int .u8 (b.salt.getD 29 0)),V.sc (.int .u8 (b.salt.getD 30 0)),V.sc (.int .u8 (b.salt.getD 31 0)),(V.sl 5 (xD H)),(V.sl 5 (xD T))]=(⟨b.salt,H,T,b.hs⟩:Bk).v:=by rw [b.mk_v]; rfl
theorem Bk.c32(b:Bk)(k:List (List V)→Option β):cL 5 b.v 32 k=k (xD b.H):=zlK b.g32 k
theorem Bk.c33(b:Bk)(k:List (List V)→Option β):cL 5 b.v 33 k=k (xD b.T):=zlK b.g33 k
theorem zBO{n:Nat}{l:List Plc}{j:Nat}{t:Int}(h:n=l.length):yf 5 n (zu (zl3 l j t))=xD (zl3 l j t):=zlb (by rw [zs8]; exact h)
theorem ztZ(L:Nat)(hL:200000<L)(b:Bk)(hH:b.H.length≤1000)(hT:b.T.length≤1000)(a:Adr)(src:Int)(k:List V→Bool→Int→Option β) :
  zc β (L+100) b.v a.v src k=if zfI b=true then k (zbX b a src).1.v (zbX b a src).2 0 else k bk0.v false 6:=by
 unfold zc zk0
 rw [ya b.len,zd b 0 (by omega),zd b 1 (by omega),zd b 2 (by omega),zd b 3 (by omega),zd b 4 (by omega),zd b 5 (by omega),zd b 6 (by omega),zd b 7 (by omega),zd b 8 (by omega),zd b 9 (by omega),zd b 10 (by omega),zd b 11 (by omega),zd b 12 (by omega),zd b 13 (by omega),zd b 14 (by omega),zd b 15 (by omega),zd b 16 (by omega),zd b 17 (by omega),zd b 18 (by omega),zd b 19 (by omega),zd b 20 (by omega),zd b 21 (by omega),zd b 22 (by omega),zd b 23 (by omega),zd b 24 (by omega),zd b 25 (by omega),zd b 26 (by omega),zd b 27 (by omega),zd b 28 (by omega),zd b 29 (by omega),zd b 30 (by omega),zd b 31 (by omega),b.c32,b.c33,b.vv,zGI L b (by omega) (by omega) (by omega),zEI]
 cases hS:zfI b with
 | false=>
  rw [Bool.not_false,zdd,if_neg (by simp),zCN]
 | true=>
  have hs:=(zge b).1 hS
  rw [Bool.not_true,zcD,if_pos rfl,zCL _ b (by omega) (by omega),ya (by show 0+3≤3; omega),zd7,zBe _ b.T (by omega) (by omega),ya rfl,xN]
  by_cases h:zcA (fun x=>xA x.a a) b.T 0≥0
  ·obtain ⟨j,hj,e⟩:=zql h
   unfold zbX
   rw [if_pos h,if_pos h,e,ya (by omega),at3,cT hj,zz (n:=a.t) rfl,xq,ya (by omega),ya ⟨rfl,by rw [zan]; omega⟩,xq,zqB hj,zar,zBO rfl,b.vx,Int.toNat_natCast]
  ·rw [if_neg h,ya (by show 0+3≤3; omega),zBe _ b.H (by omega) (by omega),ya rfl,xN]
   by_cases h':zcA (fun x=>xA x.a a) b.H 0≥0
   ·obtain ⟨j,hj,e⟩:=zql h'
    unfold zbX
    rw [if_pos h',if_neg h,if_pos h',e,ya (by omega),at3,cT hj,zz (n:=a.t) rfl,xq,ya (by omega),ya ⟨rfl,by rw [zan]; omega⟩,xq,zqB hj,zar,zBO rfl,b.vx,Int.toNat_natCast]
   ·have hl:=fun (k:zcG β) k1=>zEu L hL b hs.h.s (by omega) [] (zu b.T) b.T.length a src k k1
    simp only [List.append_nil] at hl
    rw [if_neg h',ya (by show 0+3≤3; omega),hl,zBC b a src h h']
    cases hr:(zkB b.salt b.H a src).2 with
    | true=>rw [if_pos rfl,ya rfl,zar,zar,b.vx]
    | false=>
     have e1:(zkB b.salt b.H a src).1=b.H:=by
      unfold zkB at hr ⊢
      split at hr
      ·split at hr
       ·rename_i c1 c2; rw [if_pos c1,if_pos c2]
       ·cases hr
      ·cases hr
     rw [if_neg (by simp),ya rfl,zar,zar,b.vx,e1]
theorem zEf(L:Nat)(hL:200000<L)(b:Bk)(hH:b.H.length≤1000)(hT:b.T.length≤1000)(a:Adr)(src:Int)(k:List V→Bool→Int→Option β) :
  xb β (L+100) b.v a.v src k=if zfI b=true then k (zbX b a src).1.v (zbX b a src).2 0 else k bk0.v false 6:=by
 cases hS:zfI b with
 | true=>rw [if_pos rfl]; exact zAH L hL b ((zge b).1 hS) a src k
 | false=>
  unfold xb zkU
  rw [ya (by rw [b.len]; omega),b.take,b.dem,zAT _ b (by omega) (by omega) (by omega),hS,Bool.not_false,zdd,xq,ya (by decide),if_neg (by simp),zCN]
theorem eqP(p:Plc)(k:Bool→Option β):eqC 5 p.v p.v k=k true:=by
 unfold eqC Plc.v
 rw [ya ⟨rfl,rfl⟩]
 simp [zeY]
theorem zDi{b:Bk}{n:Nat}(hH:b.H.length≤n)(hT:b.T.length≤n)(a:Adr)(src:Int):(zbX b a src).1.H.length≤n+1∧(zbX b a src).1.T.length≤n+1:=by
 have hi:∀ (l:List Plc) (p:Plc),(zfH l p).length=l.length+1:=by
  intro l p; unfold zfH
  have:=(zn1 l p.b).2
  simp; omega
 have hr:∀ (l:List Plc) (j:Nat),(za3 l j).length≤l.length:=fun l j=>(zdk l j).length_le
 have hb:∀ (l:List Plc) (j:Nat) (t:Int),(zl3 l j t).length=l.length:=zs8
 unfold zbX
 split
 ·exact ⟨by show b.H.length≤n+1; omega,by show (zl3 _ _ _).length≤n+1; rw [hb]; omega⟩
 ·split
  ·exact ⟨by show (zl3 _ _ _).length≤n+1; rw [hb]; omega,by show b.T.length≤n+1; omega⟩
  ·split
   ·split
    ·exact ⟨by show b.H.length≤n+1; omega,by show b.T.length≤n+1; omega⟩
    ·exact ⟨by show (zfH _ _).length≤n+1; rw [hi]; have:=hr b.H (zcI b.H (toN b.H (hbk b.salt a src)-xE b.H (hbk b.salt a src)) (xE b.H (hbk b.salt a src)) (xE b.H (hbk b.salt a src))); omega,by show b.T.length≤n+1; omega⟩
   ·exact ⟨by show (zfH _ _).length≤n+1; rw [hi]; omega,by show b.T.length≤n+1; omega⟩
theorem zGK(L:Nat)(hL:200000<L)(k:Bool→Option β):xh β (L+100) k=k true:=by
 have h0:zfI bk0=true:=(zge bk0).2 (zBJ (List.replicate 32 0) (by simp))
 have e0:zbX bk0 ⟨327680,8,3⟩ 7=(⟨List.replicate 32 0,[⟨hbk (List.replicate 32 0) ⟨327680,8,3⟩ 7,⟨327680,8,3⟩,7⟩],[],by rfl⟩,true):=rfl
 have h1:SndB (zbX bk0 ⟨327680,8,3⟩ 7).1:=zu6 ((zge bk0).1 h0) _ _
 rw [e0] at h1
 have e1:∀ v:Int,zbX ⟨List.replicate 32 0,[⟨v,⟨327680,8,3⟩,7⟩],[],by rfl⟩ ⟨327680,8,9⟩ 8=(⟨List.replicate 32 0,[⟨v,⟨327680,8,9⟩,7⟩],[],by rfl⟩,false):=fun v=>rfl
 unfold xh zpS
 have ea:∀ t:Int,[(Qc (327680:Int)),(Qb (8:Int)),(Qc t)]=(⟨327680,8,t⟩:Adr).v:=fun t=>rfl
 have es:zg (⟨327680,8,3⟩:Adr).v 2 [(Qc (9:Int))]=(⟨327680,8,9⟩:Adr).v:=rfl
 generalize hbk (List.replicate 32 0) ⟨327680,8,3⟩ 7=v at e0 h1
 rw [xq,ea,ya (by show 0+3≤3; omega),zd7,zCN,ztZ L hL bk0 (by simp [bk0]) (by simp [bk0]),if_pos h0,e0,ya ⟨Bk.len _,by omega⟩,z34 _ (by simp),xq,ya (by show 1=1∧2+1≤3; omega),xq,es,ya (by rw [Bk.len]; omega),ya (by show 0+3≤3; omega),Bk.take,Bk.dem,zd7,ztZ L hL _ (by simp) (by simp),if_pos ((zge _).2 h1),e1,ya ⟨Bk.len _,by omega⟩,z34 _ (by simp),xq,yY,if_pos rfl,yY,if_pos rfl,zdd,Bool.not_false,zdd,zag (Bk.g32 _)]
 rw [zag (Bk.g32 _)]
 rw [show ((((xD [(⟨v,⟨327680,8,9⟩,7⟩:Plc)]).length:Nat):Int)==1)=true from rfl,zdd,zwp (j:=0) (c:=(⟨v,⟨327680,8,9⟩,7⟩:Plc).v) (by decide) rfl,zz (n:=9) rfl,yY,if_pos rfl,zag (Bk.g32 _),zwp (j:=0) (c:=(⟨v,⟨327680,8,9⟩,7⟩:Plc).v) (by decide) rfl,zz (n:=7) rfl,yY,if_pos rfl,ya (by show 0+3≤3; omega),zwo]
 rfl
end
section
set_option linter.unusedVariables false
set_option linter.unusedSimpArgs false
set_option maxRecDepth 100000
variable {β:Type}
theorem zGJ(L:Nat)(es:List (List V))(k:List (List V)→Int→Option β):xj β L es k=k es 0:=by
 simp only [xj,zsr,xq]
def Plc.atB(e:Plc)(v:Int):Plc:=⟨v,e.a,e.s⟩
def Plc.atH(e:Plc)(v:Int):Plc:=⟨e.b,⟨v,e.a.p,e.a.t⟩,e.s⟩
def Plc.atS(e:Plc)(v:Int):Plc:=⟨e.b,e.a,v⟩
theorem zu1{l:List Plc}{i j:Nat}(hi:i<l.length)(hj:j<5)(v:V)(p:Plc)(h:l[i].v.set j v=p.v):zg (zu l) (i*5+j) [v]=zu (l.set i p):=by
 unfold zu
 rw [zEQ (by omega) (zr5 l) hj (zbs hi),h]
 congr 1
 simp [xD,List.map_set]
theorem zBi{n:Nat}{l:List Plc}{j:Nat}{p:Plc}(h:n=l.length):yf 5 n (zu (l.set j p))=xD (l.set j p):=zlb (by rw [List.length_set]; exact h)
theorem zE4(L:Nat)(b:Bk)(hH:b.H.length≤512)(hT:b.T.length≤512)(what at_:Int):∃ c:Bk,c.H.length≤513∧c.T.length≤513∧c.salt=b.salt∧∀ (β:Type) (k:List V→Option β),xf β L b.v what at_ k=k c.v:=by
 have hself:b.H.length≤513∧b.T.length≤513:=⟨by omega,by omega⟩
 have pre:∀ (β:Type) (k:List V→Option β) (A B:Option β),True:=fun _ _ _ _=>trivial
 by_cases h0:0<b.H.length
 ·obtain ⟨j',j1,j2,qj⟩:=zxy L at_ (b.H.length:Int) (by omega) (by omega)
  obtain ⟨j,rfl⟩:∃ j:Nat,j'=j:=⟨j'.toNat,by omega⟩
  have hj:j<b.H.length:=by omega
  obtain ⟨w,w1,w2,qw⟩:=zxy L what 6 (by omega) (by omega)
  obtain ⟨v,v1,v2,qv⟩:=zxy L at_ 70 (by omega) (by omega)
  have eB:0+Int.toNat (j:Int)*5+0=j*5+0:=by rw [Int.toNat_natCast]; omega
  have eH:0+Int.toNat (j:Int)*5+1+0=j*5+1:=by rw [Int.toNat_natCast]; omega
  have eS:0+Int.toNat (j:Int)*5+4=j*5+4:=by rw [Int.toNat_natCast]; omega
  have gH:(zu b.H)[j*5+1]?=some (.sc (.int .u32 b.H[j].a.h)):=by rw [zqF hj (by omega)]; rfl
  have gS:(zu b.H)[j*5+4]?=some (.sc (.int .u32 b.H[j].s)):=by rw [zqF hj (by omega)]; rfl
  have hx:∀ (c:Bk),c.H.length≤513→c.T.length≤513→c.salt=b.salt→(∀ (β:Type) (k:List V→Option β),xf β L b.v what at_ k=k c.v)→∃ c:Bk,c.H.length≤513∧c.T.length≤513∧c.salt=b.salt∧∀ (β:Type) (k:List V→Option β),xf β L b.v what at_ k=k c.v:=fun c a1 a2 a3 a4=>⟨c,a1,a2,a3,a4⟩
  by_cases c0:w=0
  ·refine hx ⟨b.salt,b.H.set j (b.H[j].atB (v-3)),b.T,b.hs⟩ (by simp; omega) (by show b.T.length≤513; omega) rfl (fun β k=>?_)
   unfold xf zcT
   rw [ya b.len,zd b 0 (by omega),zd b 1 (by omega),zd b 2 (by omega),zd b 3 (by omega),zd b 4 (by omega),zd b 5 (by omega),zd b 6 (by omega),zd b 7 (by omega),zd b 8 (by omega),zd b 9 (by omega),zd b 10 (by omega),zd b 11 (by omega),zd b 12 (by omega),zd b 13 (by omega),zd b 14 (by omega),zd b 15 (by omega),zd b 16 (by omega),zd b 17 (by omega),zd b 18 (by omega),zd b 19 (by omega),zd b 20 (by omega),zd b 21 (by omega),zd b 22 (by omega),zd b 23 (by omega),zd b 24 (by omega),zd b 25 (by omega),zd b 26 (by omega),zd b 27 (by omega),zd b 28 (by omega),zd b 29 (by omega),zd b 30 (by omega),zd b 31 (by omega),b.c32,b.c33,b.vv,zfK _ b (by omega) (by omega),xN,if_pos (by omega),qj,ya (by omega),qw,yY,if_pos c0,qv,xq,zW (by omega) (by omega),eB,ya ⟨rfl,by rw [zan]; omega⟩,xq,zu1 hj (by omega) _ (b.H[j].atB (v-3)) rfl,zBi rfl,zar,b.vx]
  ·by_cases c1:w=1
   ·refine hx ⟨b.salt,b.H.set j (b.H[j].atH (IntKind.wrap .u32 (b.H[j].a.h+1))),b.T,b.hs⟩ (by simp; omega) (by show b.T.length≤513; omega) rfl (fun β k=>?_)
    unfold xf zcT
    rw [ya b.len,zd b 0 (by omega),zd b 1 (by omega),zd b 2 (by omega),zd b 3 (by omega),zd b 4 (by omega),zd b 5 (by omega),zd b 6 (by omega),zd b 7 (by omega),zd b 8 (by omega),zd b 9 (by omega),zd b 10 (by omega),zd b 11 (by omega),zd b 12 (by omega),zd b 13 (by omega),zd b 14 (by omega),zd b 15 (by omega),zd b 16 (by omega),zd b 17 (by omega),zd b 18 (by omega),zd b 19 (by omega),zd b 20 (by omega),zd b 21 (by omega),zd b 22 (by omega),zd b 23 (by omega),zd b 24 (by omega),zd b 25 (by omega),zd b 26 (by omega),zd b 27 (by omega),zd b 28 (by omega),zd b 29 (by omega),zd b 30 (by omega),zd b 31 (by omega),b.c32,b.c33,b.vv,zfK _ b (by omega) (by omega),xN,if_pos (by omega),qj,ya (by omega),qw,yY,if_neg c0,yY,if_pos c1,eH,zz gH,xq,ya ⟨rfl,by rw [zan]; omega⟩,xq,zu1 hj (by omega) _ (b.H[j].atH (IntKind.wrap .u32 (b.H[j].a.h+1))) rfl,zBi rfl,zar,b.vx]
   ·by_cases c2:w=2
    ·refine hx ⟨b.salt,b.H.set j (b.H[j].atS (IntKind.wrap .u32 (b.H[j].s+1))),b.T,b.hs⟩ (by simp; omega) (by show b.T.length≤513; omega) rfl (fun β k=>?_)
     unfold xf zcT
     rw [ya b.len,zd b 0 (by omega),zd b 1 (by omega),zd b 2 (by omega),zd b 3 (by omega),zd b 4 (by omega),zd b 5 (by omega),zd b 6 (by omega),zd b 7 (by omega),zd b 8 (by omega),zd b 9 (by omega),zd b 10 (by omega),zd b 11 (by omega),zd b 12 (by omega),zd b 13 (by omega),zd b 14 (by omega),zd b 15 (by omega),zd b 16 (by omega),zd b 17 (by omega),zd b 18 (by omega),zd b 19 (by omega),zd b 20 (by omega),zd b 21 (by omega),zd b 22 (by omega),zd b 23 (by omega),zd b 24 (by omega),zd b 25 (by omega),zd b 26 (by omega),zd b 27 (by omega),zd b 28 (by omega),zd b 29 (by omega),zd b 30 (by omega),zd b 31 (by omega),b.c32,b.c33,b.vv,zfK _ b (by omega) (by omega),xN,if_pos (by omega),qj,ya (by omega),qw,yY,if_neg c0,yY,if_neg c1,yY,if_pos c2,eS,zz gS,xq,ya ⟨rfl,by rw [zan]; omega⟩,xq,zu1 hj (by omega) _ (b.H[j].atS (IntKind.wrap .u32 (b.H[j].s+1))) rfl,zBi rfl,zar,b.vx]
    ·have ht:∀ l:List Plc,List.take (l.length*5) (zu l)=zu l:=fun l=>List.take_of_length_le (by rw [zan]; exact Nat.le_refl _)
     have fl:∀ (l:List Plc) (p:Plc),zu l++List.flatten (yf 5 1 p.v)=zu (l++[p]):=by
      intro l p
      rw [fl1,zlq]
      congr 1
     have cl:∀ p:Plc,List.length (yf 5 1 p.v)=1:=fun p=>rfl
     by_cases c3:w=3
     ·refine hx ⟨b.salt,b.H,b.T++[b.H[j]],b.hs⟩ (by show b.H.length≤513; omega) (by simp; omega) rfl (fun β k=>?_)
      unfold xf zcT
      rw [ya b.len,zd b 0 (by omega),zd b 1 (by omega),zd b 2 (by omega),zd b 3 (by omega),zd b 4 (by omega),zd b 5 (by omega),zd b 6 (by omega),zd b 7 (by omega),zd b 8 (by omega),zd b 9 (by omega),zd b 10 (by omega),zd b 11 (by omega),zd b 12 (by omega),zd b 13 (by omega),zd b 14 (by omega),zd b 15 (by omega),zd b 16 (by omega),zd b 17 (by omega),zd b 18 (by omega),zd b 19 (by omega),zd b 20 (by omega),zd b 21 (by omega),zd b 22 (by omega),zd b 23 (by omega),zd b 24 (by omega),zd b 25 (by omega),zd b 26 (by omega),zd b 27 (by omega),zd b 28 (by omega),zd b 29 (by omega),zd b 30 (by omega),zd b 31 (by omega),b.c32,b.c33,b.vv,zfK _ b (by omega) (by omega),xN,if_pos (by omega),qj,ya (by omega),qw,yY,if_neg c0,yY,if_neg c1,yY,if_neg c2,yY,if_pos c3,at0,ya (by rw [zan]; omega),zsC hj,ya ⟨rfl,by omega⟩,z5,cl,ya ⟨by simp only [xp]; omega,by simp only [xp]; omega,.inl (by omega)⟩,xq,ht,fl,zar,zlb (by simp),b.vx]
     ·by_cases c4:w=4
      ·refine hx ⟨b.salt,b.H++[b.H[j]],b.T,b.hs⟩ (by simp; omega) (by show b.T.length≤513; omega) rfl (fun β k=>?_)
       unfold xf zcT
       rw [ya b.len,zd b 0 (by omega),zd b 1 (by omega),zd b 2 (by omega),zd b 3 (by omega),zd b 4 (by omega),zd b 5 (by omega),zd b 6 (by omega),zd b 7 (by omega),zd b 8 (by omega),zd b 9 (by omega),zd b 10 (by omega),zd b 11 (by omega),zd b 12 (by omega),zd b 13 (by omega),zd b 14 (by omega),zd b 15 (by omega),zd b 16 (by omega),zd b 17 (by omega),zd b 18 (by omega),zd b 19 (by omega),zd b 20 (by omega),zd b 21 (by omega),zd b 22 (by omega),zd b 23 (by omega),zd b 24 (by omega),zd b 25 (by omega),zd b 26 (by omega),zd b 27 (by omega),zd b 28 (by omega),zd b 29 (by omega),zd b 30 (by omega),zd b 31 (by omega),b.c32,b.c33,b.vv,zfK _ b (by omega) (by omega),xN,if_pos (by omega),qj,ya (by omega),qw,yY,if_neg c0,yY,if_neg c1,yY,if_neg c2,yY,if_neg c3,yY,if_pos c4,at0,ya (by rw [zan]; omega),zsC hj,ya ⟨rfl,by omega⟩,z5,cl,ya ⟨by simp only [xp]; omega,by simp only [xp]; omega,.inl (by omega)⟩,xq,ht,fl,zlb (by simp),zar,b.vx]
      ·refine hx b hself.1 hself.2 rfl (fun β k=>?_)
       unfold xf zcT
       rw [ya b.len,zd b 0 (by omega),zd b 1 (by omega),zd b 2 (by omega),zd b 3 (by omega),zd b 4 (by omega),zd b 5 (by omega),zd b 6 (by omega),zd b 7 (by omega),zd b 8 (by omega),zd b 9 (by omega),zd b 10 (by omega),zd b 11 (by omega),zd b 12 (by omega),zd b 13 (by omega),zd b 14 (by omega),zd b 15 (by omega),zd b 16 (by omega),zd b 17 (by omega),zd b 18 (by omega),zd b 19 (by omega),zd b 20 (by omega),zd b 21 (by omega),zd b 22 (by omega),zd b 23 (by omega),zd b 24 (by omega),zd b 25 (by omega),zd b 26 (by omega),zd b 27 (by omega),zd b 28 (by omega),zd b 29 (by omega),zd b 30 (by omega),zd b 31 (by omega),b.c32,b.c33,b.vv,zfK _ b (by omega) (by omega),xN,if_pos (by omega),qj,ya (by omega),qw,yY,if_neg c0,yY,if_neg c1,yY,if_neg c2,yY,if_neg c3,yY,if_neg c4,zar,zar,b.vv]
 ·refine ⟨b,hself.1,hself.2,rfl,fun β k=>?_⟩
  unfold xf zcT
  rw [ya b.len,zd b 0 (by omega),zd b 1 (by omega),zd b 2 (by omega),zd b 3 (by omega),zd b 4 (by omega),zd b 5 (by omega),zd b 6 (by omega),zd b 7 (by omega),zd b 8 (by omega),zd b 9 (by omega),zd b 10 (by omega),zd b 11 (by omega),zd b 12 (by omega),zd b 13 (by omega),zd b 14 (by omega),zd b 15 (by omega),zd b 16 (by omega),zd b 17 (by omega),zd b 18 (by omega),zd b 19 (by omega),zd b 20 (by omega),zd b 21 (by omega),zd b 22 (by omega),zd b 23 (by omega),zd b 24 (by omega),zd b 25 (by omega),zd b 26 (by omega),zd b 27 (by omega),zd b 28 (by omega),zd b 29 (by omega),zd b 30 (by omega),zd b 31 (by omega),b.c32,b.c33,b.vv,zfK _ b (by omega) (by omega),xN,if_neg (by omega),zar,zar,b.vv]
theorem zGv(L:Nat)(b:Bk)(hN:NnB b)(hH:b.H.length≤1000)(hT:b.T.length≤1000)(d:Dk):∃ (a:Adr) (d':Dk),d'.l=d.l∧0≤a.h∧∀ (β:Type) (k:List V→List (List V)→Int→Option β),xi β L b.v d.es d.a k=k a.v d'.es d'.a:=by
 have fin:∀ (p:Plc) (d:Dk) (β:Type) (k:List V→List (List V)→Int→Option β),chk ((List.length (List.take 3 (List.drop 1 p.v)))=3∧0+3≤3) (lt (zg [(Qc (0:Int)),(Qb (0:Int)),(Qc (0:Int))] 0 (List.take 3 (List.drop 1 p.v))) fun r=>chk (0=0∧(List.length r)=3∧3≠0) (k r d.es d.a))=k p.a.v d.es d.a:=by
  intro p d β k
  rw [p13,ya ⟨rfl,by omega⟩,z3,xq,ya ⟨rfl,rfl,by omega⟩]
 have fin2:∀ (a:Adr) (d:Dk) (β:Type) (k:List V→List (List V)→Int→Option β),chk ((List.length a.v)=3∧0+3≤3) (lt (zg [(Qc (0:Int)),(Qb (0:Int)),(Qc (0:Int))] 0 a.v) fun r=>chk (0=0∧(List.length r)=3∧3≠0) (k r d.es d.a))=k a.v d.es d.a:=by
  intro a d β k
  rw [ya ⟨rfl,by omega⟩,z3,xq,ya ⟨rfl,rfl,by omega⟩]
 have tried:∀ d:Dk,∃ (a:Adr) (d':Dk),d'.l=d.l∧0≤a.h∧∀ (β:Type) (k:List V→List (List V)→Int→Option β),
   (cLd 5 b.v 33 fun v10=>ifb (decide (((List.length v10:Nat):Int)>(0:Int))) (yc β L (2:Int) d.es d.a (fun v11 v12 v13=>ifb ((v11:Int)==(0:Int)) (cLd 5 b.v 33 fun v14=>yc β L ((List.length v10:Nat):Int) v12 v13 (fun v15 v16 v17=>idx v14 v15 fun c18=>chk ((List.length (List.take 3 (List.drop 1 c18)))=3∧0+3≤3) (lt (zg [(Qc (0:Int)),(Qb (0:Int)),(Qc (0:Int))] 0 (List.take 3 (List.drop 1 c18))) fun r19=>chk (0=0∧(List.length r19)=3∧3≠0) (k r19 v16 v17)))) (zn β L v12 v13 (fun v20 v21 v22=>chk ((List.length v20)=3∧0+3≤3) (lt (zg [(Qc (0:Int)),(Qb (0:Int)),(Qc (0:Int))] 0 v20) fun r23=>chk (0=0∧(List.length r23)=3∧3≠0) (k r23 v21 v22)))))) (zn β L d.es d.a (fun v24 v25 v26=>chk ((List.length v24)=3∧0+3≤3) (lt (zg [(Qc (0:Int)),(Qb (0:Int)),(Qc (0:Int))] 0 v24) fun r27=>chk (0=0∧(List.length r27)=3∧3≠0) (k r27 v25 v26)))))=k a.v d'.es d'.a:=by
  intro d
  by_cases hT0:0<b.T.length
  ·obtain ⟨r,d1,e1,g1,g2,q1⟩:=zee L d 2 (by omega) (by omega)
   by_cases hr:r=0
   ·obtain ⟨i',d2,e2,i1,i2,q2⟩:=zee L d1 (b.T.length:Int) (by omega) (by omega)
    obtain ⟨i,rfl⟩:∃ i:Nat,i'=i:=⟨i'.toNat,by omega⟩
    have hi:i<b.T.length:=by omega
    refine ⟨b.T[i].a,d2,by rw [e2,e1],hN.2 _ (List.getElem_mem hi),fun β k=>?_⟩
    rw [zag b.g33,yL,xN,if_pos (by omega),q1,yY,if_pos hr,zag b.g33,q2,zbc (zbs hi),fin]
   ·obtain ⟨a,d2,e2,ha,q2⟩:=zys L d1
    refine ⟨a,d2,by rw [e2,e1],ha,fun β k=>?_⟩
    rw [zag b.g33,yL,xN,if_pos (by omega),q1,yY,if_neg hr,q2,fin2]
  ·obtain ⟨a,d2,e2,ha,q2⟩:=zys L d
   refine ⟨a,d2,e2,ha,fun β k=>?_⟩
   rw [zag b.g33,yL,xN,if_neg (by omega),q2,fin2]
 by_cases hH0:0<b.H.length
 ·obtain ⟨r,d1,e1,g1,g2,q1⟩:=zee L d 2 (by omega) (by omega)
  by_cases hr:r=0
  ·obtain ⟨i',d2,e2,i1,i2,q2⟩:=zee L d1 (b.H.length:Int) (by omega) (by omega)
   obtain ⟨i,rfl⟩:∃ i:Nat,i'=i:=⟨i'.toNat,by omega⟩
   have hi:i<b.H.length:=by omega
   refine ⟨b.H[i].a,d2,by rw [e2,e1],hN.1 _ (List.getElem_mem hi),fun β k=>?_⟩
   unfold xi zkE
   rw [zag b.g32,yL,xN,if_pos (by omega),q1,yY,if_pos hr,zag b.g32,q2,zbc (zbs hi),fin]
  ·obtain ⟨a,d2,e2,ha,q2⟩:=tried d1
   refine ⟨a,d2,by rw [e2,e1],ha,fun β k=>?_⟩
   unfold xi zkE
   rw [zag b.g32,yL,xN,if_pos (by omega),q1,yY,if_neg hr]
   exact q2 β k
 ·obtain ⟨a,d2,e2,ha,q2⟩:=tried d
  refine ⟨a,d2,e2,ha,fun β k=>?_⟩
  unfold xi zkE
  rw [zag b.g32,yL,xN,if_neg (by omega)]
  exact q2 β k
end
section
set_option linter.unusedVariables false
set_option linter.unusedSimpArgs false
set_option maxRecDepth 100000
variable {β:Type}
theorem zv8(L:Nat)(l:List Plc)(hl:l.length≤1000000)(hL:l.length<L)(k:Bool→Option β):yK β L (xD l) (xD l) k=k true:=by
 have loop:∀ (kr:Bool→Option β) (kx:Option β) (m i:Nat),i≤l.length→l.length-i<m→zcr L kr kx m (xD l) (xD l) (i:Int)=kx:=by
  intro kr kx m
  induction m with
  | zero=>intro i h1 h2; omega
  | succ m ih=>
   intro i h1 h2
   simp only [zcr,zfE,xq,yL]
   by_cases hi:i<l.length
   ·rw [zaK (by omega),zbc (zbs hi),zbc (zbs hi),zp7,eqP,zaH (by omega)]
    exact ih (i+1) (by omega) (by omega)
   ·rw [zaW (by omega)]
 simp only [yK,zf7,ziV]
 rw [zlr,if_pos rfl]
 exact loop _ _ L 0 (by omega) (by omega)
theorem zEo(L:Nat)(b:Bk)(hH:b.H.length≤1000000)(hT:b.T.length≤1000000)(hHL:b.H.length<L)(hTL:b.T.length<L)(k:Bool→Option β):yh β L b.v b.v k=k true:=by
 unfold yh zpU
 rw [ya (by rw [b.len]; omega),ya (by rw [b.len]; omega),b.t32,zFQ .u8 b.hs b.hs,decide_eq_true rfl,zdd,zag b.g32,zag b.g32,zv8 L b.H hH hHL,zdd,zag b.g33,zag b.g33,zv8 L b.T hT hTL]
end
section
set_option linter.unusedVariables false
set_option linter.unusedSimpArgs false
set_option maxRecDepth 100000
def Bk.ok(b:Bk):Prop:=b.H.length≤600∧b.T.length≤600
theorem zEr(z:List V)(hz:z.length=68)(b c:Bk):yf 34 2 (zg (zg z 0 b.v) 34 c.v)=[b.v,c.v]:=by
 have hb:=b.len
 have hc:=c.len
 have e1:zg z 0 b.v=b.v++z.drop 34:=by
  unfold zg; rw [List.take_zero,List.nil_append,hb]
 have e2:zg (b.v++z.drop 34) 34 c.v=b.v++c.v:=by
  unfold zg
  rw [List.take_left' hb,hc,List.drop_of_length_le (by simp [hb,hz]),List.append_nil]
 rw [e1,e2]
 show [List.take 34 (b.v++c.v),List.take 34 (List.drop 34 (b.v++c.v))]=_
 rw [List.take_left' hb,List.drop_left' hb,c.take]
theorem zE5(L:Nat)(hL:200000<L)(src0:Int)(bs:List (List V))(n j:Int)(l:List Int)(hl:l.length≤100)(a:Adr)(b:Bk)(hb:b.ok)(es:List (List V))(pos:Int)(kr:Bool→List (List V)→Int→Option Bool)(kx:zfw Bool):∀ (m i:Nat),i≤l.length→l.length-i<m →
  y5 xh xj zj xi xf zc xb yh (L+100) kr kx m src0 bs n j (zaw .u32 l) (l.length:Int) (i:Int) a.v b.v es pos=kx src0 bs n j a.v es pos:=by
 intro m
 induction m with
 | zero=>intro i h1 h2; omega
 | succ m ih=>
  intro i h1 h2
  unfold y5 zb0
  by_cases h:i<l.length
  ·rw [zaK (by omega),zbc (ztc _ h),zz (n:=l[i]) rfl,ya (by rw [b.len]; omega),ya (by show 0+3≤3; omega),b.take,b.dem,zd7,ztZ L hL b (by have:=hb.1; omega) (by have:=hb.2; omega)]
   have tail:∀ (c:Bk) (r:Bool) (e:Int),c.H.length≤700→c.T.length≤700→(chk ((List.length c.v)=34∧0+34≤34) (
      lt (zg (List.replicate 32 (Qa (0:Int))++[(V.gs 5 ([]:List (List V))),(V.gs 5 ([]:List (List V)))]) 0 c.v) fun r20=>
      chk (0+34≤(List.length b.v)) (
      chk (0+3≤(List.length a.v)) (
      (fun (k:List V→Bool→Int→Option Bool)=>k c.v r e) (fun v21 v22 v23=>
      chk ((List.length v21)=34∧0+34≤34) (
      lt (zg (List.replicate 32 (Qa (0:Int))++[(V.gs 5 ([]:List (List V))),(V.gs 5 ([]:List (List V)))]) 0 v21) fun r24=>
      ifb ((e:Int) != v23) (kr false es pos) (
      ifb (!(r==v22)) (kr false es pos) (
      chk (0+34≤(List.length r20)) (
      chk (0+34≤(List.length r24)) (
      yh Bool (L+100) (List.map V.dem (List.take 34 r20)) (List.map V.dem (List.take 34 r24)) (fun v25=>
      ifb (!v25) (kr false es pos) (
      lt (IntKind.wrap .i64 ((i:Int)+(1:Int))) fun x26=>
      y5 xh xj zj xi xf zc xb yh (L+100) kr kx m src0 bs n j (zaw .u32 l) (l.length:Int) x26 a.v b.v es pos))))))))))))=kx src0 bs n j a.v es pos:=by
    intro c r e hc1 hc2
    rw [ya ⟨c.len,by omega⟩,z34 _ (by simp),xq,ya (by rw [b.len]; omega),ya (by show 0+3≤3; omega)]
    show chk _ _=_
    rw [ya ⟨c.len,by omega⟩,z34 _ (by simp),xq,zlr,if_pos rfl,beq_self_eq_true,Bool.not_true,zcD,ya (by rw [c.len]; omega),ya (by rw [c.len]; omega),c.take,c.dem,zEo _ c (by omega) (by omega) (by omega) (by omega),Bool.not_true,zcD,xq,zaH (by omega)]
    exact ih (i+1) (by omega) (by omega)
   have rh:=fun (k:List V→Bool→Int→Option Bool)=>zEf L hL b (by have:=hb.1; omega) (by have:=hb.2; omega) a l[i] k
   have hlen:=zDi hb.1 hb.2 a l[i]
   cases hs:zfI b with
   | true=>
    simp only [hs,if_true] at rh
    rw [if_pos rfl]
    have:=tail (zbX b a l[i]).1 (zbX b a l[i]).2 0 (by omega) (by omega)
    simp only [rh]
    exact this
   | false=>
    simp only [hs,Bool.false_eq_true,if_false] at rh
    rw [if_neg (by simp)]
    have:=tail bk0 false 6 (by simp [bk0]) (by simp [bk0])
    simp only [rh]
    exact this
  ·rw [zaW (by omega)]
theorem zDM(L:Nat)(hL:200000<L)(src0:Int)(bs:List Bk)(hbs:∀ b∈bs,b.ok)(hl:bs.length≤100)(a:Adr)(es:List (List V))(pos:Int)(kr:Bool→List (List V)→Int→Option Bool)(kx:List (List V)→Int→Option Bool):∀ (m i:Nat),i≤bs.length→bs.length-i<m →
  zbi xh xj zj xi xf zc xb yh (L+100) kx kr m src0 (bs.map Bk.v) (bs.length:Int) (i:Int) a.v es pos=kx es pos:=by
 intro m
 induction m with
 | zero=>intro i h1 h2; omega
 | succ m ih=>
  intro i h1 h2
  unfold zbi zbV zdr
  by_cases h:i<bs.length
  ·have hg:(bs.map Bk.v)[i]?=some bs[i].v:=by simp [h]
   have e2:yf 1 2 [(Qc src0),(Qc (Int.tmod src0 4))]=zaw .u32 [src0,Int.tmod src0 4]:=rfl
   rw [zaK (by omega),zbc hg,bs[i].take,ya ⟨bs[i].len,by omega⟩,z34 _ (by simp),xq,xq,e2,zdN]
   refine (zE5 L hL src0 _ _ _ [src0,Int.tmod src0 4] (by simp) a bs[i] (hbs _ (List.getElem_mem h)) es pos _ _ (L+100) 0 (by omega) (by simp)).trans ?_
   unfold zbN
   rw [xq,zaH (by omega)]
   exact ih (i+1) (by omega) (by omega)
  ·rw [zaW (by omega)]
theorem ztE(a0:List (List V))(a1 a2 a3:Int)(hl0:a0.length≤maxLen)(wf0:∀ e∈a0,HasRow [.int .i64] e)(wf1:(Lit.int .i64 a1).wf=true)(wf2:(Lit.int .i64 a2).wf=true)(wf3:(Lit.int .u32 a3).wf=true) :
  ∃ L,∀ k:Bool→Option Bool,zaV Bool L a0 a1 a2 a3 k=k true:=by
 obtain ⟨l,rfl,_⟩:=zB4 wf0
 rw [zdN] at hl0
 obtain ⟨L,hL⟩:∃ L:Nat,6000000≤L:=⟨6000000,Nat.le_refl _⟩
 refine ⟨L+100,fun k=>?_⟩
 obtain ⟨b,d1,e1,hS,hN,q1⟩:=zFI L (by omega) ⟨l,0,by omega,by omega,by unfold maxLen at hl0; omega⟩
 obtain ⟨a,d2,e2,ha,q2⟩:=zGv (L+100) b hN (by have:=hS.lenH; omega) (by have:=hS.lenT; omega) d1
 obtain ⟨c,c1,c2,_,qc⟩:=zE4 (L+100) b hS.lenH hS.lenT a1 a2
 unfold zaV zef zg0
 rw [zGK L (by omega),Bool.not_true,zcD,zGJ]
 have h1:=q1 Bool
 simp only [Dk.es] at h1 q2
 rw [h1,ya ⟨b.len,by omega⟩,z34 _ (by simp),xq,ya (by rw [b.len]; omega),b.take,b.dem,q2,ya ⟨rfl,by omega⟩,z3,xq,ya (by rw [b.len]; omega),ya (by rw [b.len]; omega),qc,ya ⟨b.len,by omega⟩]
 have hz:(List.replicate 32 (Qa (0:Int))++[(V.sl 5 ([]:List (List V))),(V.sl 5 ([]:List (List V)))]++List.replicate 32 (Qa (0:Int))++[(V.sl 5 ([]:List (List V))),(V.sl 5 ([]:List (List V)))]).length=68:=by simp
 rw [ya ⟨c.len,by rw [zDk (by rw [b.len,hz]; omega),hz]; omega⟩,zEr _ hz]
 refine (zDM L (by omega) a3 [b,c] (by
  intro x hx
  simp only [List.mem_cons,List.not_mem_nil,or_false] at hx
  rcases hx with rfl | rfl
  ·exact ⟨by have:=hS.lenH; omega,by have:=hS.lenT; omega⟩
  ·exact ⟨by omega,by omega⟩) (by simp) a _ _ _ _ (L+100) 0 (by omega) (by simp)).trans ?_
 rfl
end
section
namespace addrbookHearsL
open Go.ChangeShapes Go.WideShapes Go.ChangeAt Go.RowKit
set_option linter.unusedVariables false
theorem own:ownKnob Try.prog.godebug=none:=by kernel_rfl
theorem zvf:laidOutB Try.prog=true:=by kernel_rfl
set_option maxRecDepth 100000 in
theorem zGt(os:Os)(started:os.Started)(H:Type)(enc:TypeId × Value→H) :
  ReturnsInHanded {} Try.checked os 3 .any (Rows.addrbookHearsSpec.pre6 enc Try.prog Try.f3 Rows.addrbookHearsRow.domain false) (Rows.addrbookHearsSpec.post enc Try.prog Try.f3 false true false false):=by
 refine returnsInHanded_of_change (C:=Try.checked) own started (by kernel_rfl) Try.func3
  (ChangeSpec.witness6 (enc:=enc) (C:=Try.checked) false ⟨#[],#[.slice none 0 0,.int .i64 0,.int .i64 0,.int .u32 0],[]⟩ 8 (by kernel_rfl) (by kernel_rfl) (by kernel_rfl) (by kernel_rfl)) ?_
 intro W base args ds gs before hval0 hW hcnd _
 have hval:∀ (j:Nat) t v,Try.f3.params[j]?=some t→args[j]?=some v→Value.okWide Try.prog W .any base t v:=hval0
 have hW':=hW
 obtain ⟨p,q,hA0,hV,rfl,hfz,hnd⟩:=hW
 have hA:DataW.TrodAll enc Try.prog W 0 (fun _=>true) true Try.f3.params.toList args.toList ds p:=hA0
 rw [Try.params3] at hA hval
 obtain ⟨v0,vs0,d0,ds0,p0,q0,hargs,rfl,rfl,h0,r0⟩:=trodAll_cons hA
 obtain ⟨v1,vs1,d1,ds1,p1,q1,rfl,rfl,rfl,h1,r1⟩:=trodAll_cons r0
 obtain ⟨v2,vs2,d2,ds2,p2,q2,rfl,rfl,rfl,h2,r2⟩:=trodAll_cons r1
 obtain ⟨v3,vs3,d3,ds3,p3,q3,rfl,rfl,rfl,h3,r3⟩:=trodAll_cons r2
 obtain ⟨rfl,rfl,rfl⟩:=trodAll_nil r3
 obtain rfl:args=#[v0,v1,v2,v3]:=by cases args; simp_all
 obtain ⟨rfl,rfl⟩:=trodVars_none hV
 have k0:=h0
 have lt0:∀ x∈p0,x.block<W.heap.size:=by obtain ⟨m,hm⟩:=k0; exact DataW.trod_lt m _ _ _ hm
 have k1:=h1
 have lt1:∀ x∈p1,x.block<W.heap.size:=by obtain ⟨m,hm⟩:=k1; exact DataW.trod_lt m _ _ _ hm
 have k2:=h2
 have lt2:∀ x∈p2,x.block<W.heap.size:=by obtain ⟨m,hm⟩:=k2; exact DataW.trod_lt m _ _ _ hm
 have k3:=h3
 have lt3:∀ x∈p3,x.block<W.heap.size:=by obtain ⟨m,hm⟩:=k3; exact DataW.trod_lt m _ _ _ hm
 obtain ⟨A0,len0,cap0,rfl⟩:=okWide_slice Try.underlying22 (hval 0 22 v0 rfl rfl)
 obtain ⟨x0,hx0,rp0⟩:=zF9 (r:=.any) (b0:=base) (ren:=xL fg gls) (d:=20) (ct:=.sl ([.int .i64])) rfl h0 (by kernel_rfl)
 obtain ⟨a0,rfl,hl0,wf0⟩:=hx0.sl_inv
 obtain ⟨a1,rfl,rfl,rfl,wf1⟩:=open_int Try.underlying3 (hval 1 3 v1 rfl rfl) h1
 obtain ⟨a2,rfl,rfl,rfl,wf2⟩:=open_int Try.underlying3 (hval 2 3 v2 rfl rfl) h2
 obtain ⟨a3,rfl,rfl,rfl,wf3⟩:=open_int Try.underlying23 (hval 3 23 v3 rfl rfl) h3
 clear hA0 hval0
 obtain ⟨L,hL⟩:=ztE a0 a1 a2 a3 hl0 wf0 wf1 wf2 wf3
 have hd:zej zaV L Bool [(V.sl 1 a0),(Qe a1),(Qe a2),(Qc a3)] [] zvj=some true:=by
  show (aL 1 (V.sl 1 a0) fun x0=>aI .i64 (Qe a1) fun x1=>aI .i64 (Qe a2) fun x2=>aI .u32 (Qc a3) fun x3=>zaV Bool L x0 x1 x2 x3 (fun p=>zvj (V.sc (.bool p)) []))=some true
  rw [zGZ,zC7,zC7,zC7]
  exact (hL (fun p=>zvj (V.sc (.bool p)) [])).trans rfl
 obtain ⟨v,b,hev,hk⟩:=zqt L 100 (by decide) Bool [(V.sl 1 a0),(Qe a1),(Qe a2),(Qc a3)] [] zvj true hd
 have hv:=zEb hk
 subst hv
 refine (zCn (us:=[.slice A0 len0 cap0,.int .i64 a1,.int .i64 a2,.int .u32 a3]) (w:=W) (fun _ _ h=>by cases h) (zG2 L 100) (f:=3) (by kernel_rfl) rfl (fun i x u hx hu=>?_) hev).mono fun e W' ⟨he,bel0⟩=>?_
 ·match i,hx,hu with
  | 0,hx,hu=>cases hx; cases hu; exact rp0
  | 1,hx,hu=>cases hx; cases hu; exact .sc _ rfl
  | 2,hx,hu=>cases hx; cases hu; exact .sc _ rfl
  | 3,hx,hu=>cases hx; cases hu; exact .sc _ rfl
  | n+4,hx,hu=>simp at hx
 ·have bel:=Kept.below bel0
  subst he
  exact ⟨_,rfl,_,_,_,[],_,[],hW',trodAll_mk1 (shut_bool Try.underlying4 _),(trodAll_cons_mk (Below.trod zvf (by kernel_rfl) (of_decide_eq_true (by kernel_rfl)) k0 bel lt0) (trodAll_cons_mk (Below.trod zvf (by kernel_rfl) (of_decide_eq_true (by kernel_rfl)) k1 bel lt1) (trodAll_cons_mk (Below.trod zvf (by kernel_rfl) (of_decide_eq_true (by kernel_rfl)) k2 bel lt2) (trodAll_cons_mk (Below.trod zvf (by kernel_rfl) (of_decide_eq_true (by kernel_rfl)) k3 bel lt3) trodAll_mk0)))),rfl,bel.frame _,fun h=>by cases h⟩
theorem over:Rows.addrbookHearsRow.holds Try.pinned (OpenSpec.ofChange Rows.addrbookHearsSpec):=
 OpenClaim.holds_of_wide 3 Try.f3 rfl rfl rfl rfl rfl rfl rfl ⟨rfl,rfl,rfl,rfl,rfl⟩ rfl rfl rfl rfl rfl (by kernel_rfl) Try.func3 (by kernel_rfl)
  (of_decide_eq_true (by kernel_rfl)) (by unfold Func.isWrapper; first | (rw [if_pos (by decide +kernel)]; kernel_rfl) | (rw [if_neg (by decide +kernel)]; exact ⟨rfl,rfl⟩))
  (fun os started H enc _=>zGt os started H enc)
end addrbookHearsL
theorem addrbookHears_holds:Rows.AddrbookHearsSaid:=addrbookHearsL.over
end
end Go.Proofs.Ytbimgceighecgaa
