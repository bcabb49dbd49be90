/- Part 9 of the proof of ScanRewinds: an abstract machine over plain values, its soundness, and the functions of the program on plain values. -/
import Derived.Test.YtipklgbboecciaaGreatMScanRewinds8
namespace Go.Proofs.YtipklgbboecciaaGreat
set_option maxRecDepth 100000
set_option linter.unusedVariables false
set_option linter.unusedSimpArgs false
open Bool renaming and_eq_true->WaG
open Nat renaming eq_of_beq_eq_true->Wao,lt_of_le_of_lt->Wce,le_of_ble_eq_true->Wcg,ble_eq_true_of_le->Wck,lt_of_lt_of_le->Wcs,mul_le_mul_right->WaA,ble->WbY,add_mul->WaC
open List renaming getElem?_eq_getElem->Wac,getElem?_append_right->Wal,getElem?_eq_some_iff->Wam,getElem?_take->Wai,getElem?_drop->Waj,length_take->Wci,getElem?_append_left->Wan,getElem?_set->WbB,getElem?_eq_none->Wbu,length_drop->Wcl,drop_drop->Wcr,getD_eq_getElem?_getD->Wak,getElem_mem->WaV,take_append_drop->Wcx,mem_of_mem_take->WaI,getElem?_modify->WaJ,mem_cons->WbL,mem_cons_self->Wcz
open Option renaming map_eq_some_iff->Wag,bind_eq_bind->Wab,bind_some->Wbz
open Int renaming natCast_nonneg->Wcd,mul_le_mul_of_nonneg_left->Wcf,le_of_lt->Wch,mul_ediv_self_le->Wcm,mul_le_mul_of_nonpos_left->Wcn,ediv_nonneg->Wco,mul_comm->Wcq,fdiv_eq_ediv_of_nonneg->Wct,lt_mul_ediv_self_add->Wcu,le_ediv_iff_mul_le->Wcv,toNat_of_nonneg->Wcy,le_refl->WcA
open IntKind renaming signed->Wcj,bits->Wcp,min->Wcw,max->WcB
section
variable {iv:IV}{u:Int}{W:Nat->Int}{N:Nat}
theorem D3{a:Int}(h:nn a=true):0<=a:=by
 unfold nn at h; split at h
 ·exact Wcd _
 ·cases h
theorem ziH{a:Int}(h:nn a=false):a<0:=by
 unfold nn at h; split at h
 ·cases h
 ·exact Int.negSucc_lt_zero _
theorem Wc{a:Int}(h:isZ a=true):a=0:=by
 unfold isZ at h; split at h
 ·simp_all
 ·cases h
theorem zgw(a b:Int):leI a b=decide (a<=b):=by
 unfold leI;split
 ·rename_i m n;have:=@Nat.ble_eq m n;rcases h:WbY m n with _ | _
  ·rw [eq_comm,decide_eq_false_iff_not]; rw [h] at this; intro q; have:=Int.ofNat_le.1 q; simp_all
  ·rw [eq_comm,decide_eq_true_eq]; exact Int.ofNat_le.2 (Wcg h)
 ·rename_i m n; rw [eq_comm,decide_eq_true_eq]; have:(0:Int)<=Int.ofNat n:=Wcd n; omega
 ·rename_i m n; rw [eq_comm,decide_eq_false_iff_not]; have:(0:Int)<=Int.ofNat m:=Wcd m; omega
 ·rename_i m n;rcases h:WbY n m with _ | _
  ·rw [eq_comm,decide_eq_false_iff_not];have:¬ n<=m:=λq=>by rw [Wck q] at h; cases h
   omega
  ·rw [eq_comm,decide_eq_true_eq];have:=Wcg h;omega
theorem ja{a b:Int}(h:leI a b=true):a<=b:=by grind [zgw]
theorem OD{a b:Int}(h:eqI a b=true):a=b:=by
 unfold eqI at h;split at h
 ·rw [Wao h]
 ·rw [Wao h]
 ·cases h
theorem zg2(a:Int):eqI a a=true:=by
 cases a <;> exact Nat.beq_refl _
theorem zf1{a b:Int}(h:leI a b=false):b<a:=by grind [zgw]
theorem Hn{a b:Nat}(h:Nat.blt a b=true):a<b:=Wcg h
theorem ze4{a b:Nat}(h:Nat.blt a b=false):b<=a:=Nat.le_of_not_lt λhl=>by
 have e:WbY (a+1) b=true:=Wck hl;rw [Nat.blt,e] at h; cases h
theorem lR{a b:Nat}(h:WbY a b=true):a<=b:=Wcg h
theorem NK{a b:Nat}(h:WbY a b=false):b<a:=Nat.lt_of_not_le λhl=>by
 rw [Wck hl] at h; cases h
theorem C0(a b:Int):m9 a b<=a/\m9 a b<=b/\(m9 a b=a∨m9 a b=b):=by
 unfold m9; split
 ·rename_i h; have:=ja h; grind
 ·rename_i h; have:=zf1 h; grind
theorem GG(a b:Int):a<=qE a b/\b<=qE a b/\(qE a b=a∨qE a b=b):=by
 unfold qE; split
 ·rename_i h; have:=ja h; grind
 ·rename_i h; have:=zf1 h; grind
def evT(W:Nat->Int):List (Nat × Int)->Int
 | []=>0
 | p::l=>p.2*W p.1+evT W l
def Lin.ev(W:Nat->Int)(e:Lin):Int:=e.c+evT W e.t
variable {a e:Lin}
def bdT(N:Nat)(t:List (Nat × Int)):Prop:=∀ p∈t,p.1<N
def Lin.bd(N:Nat)(e:Lin):Prop:=bdT N e.t
section
variable {W ρ':Nat->Int} {N M:Nat}
theorem PY:bdT N []:=λp h=>by cases h
theorem nl{p:Nat × Int}{l:List (Nat × Int)}:bdT N (p::l)↔p.1<N/\bdT N l:=by
 grind [bdT]
theorem zck(s:Nat)(a:Int):∀ l,evT W (XM s a l)=a*W s+evT W l
 | []=>rfl
 | p::l=>by
  unfold XM;split
  ·rfl
  ·split
   ·rename_i hs;have e:=Wao hs
    grind [evT,Wc]
   ·simp [evT]; rw [zck s a l]; omega
theorem zcM{s:Nat}{a:Int}(hs:s<N):∀ {l},bdT N l->bdT N (XM s a l)
 | [],h=>nl.2 ⟨hs,h⟩
 | p::l,h=>by
  obtain ⟨h1,h2⟩:=nl.1 h;unfold XM;split
  ·exact nl.2 ⟨hs,h⟩
  ·split
   ·grind [nl]
   ·exact nl.2 ⟨h1,zcM hs h2⟩
theorem Z5:∀ l m,evT W (PE l m)=evT W l+evT W m
 | [],m=>by simp [PE,evT]
 | p::l,m=>by simp [PE,evT]; rw [zck,Z5 l m]; omega
theorem ZH:∀ {l m},bdT N l->bdT N m->bdT N (PE l m)
 | [],m,_,h=>h
 | p::l,m,h,h'=>zcM (nl.1 h).1 (ZH (nl.1 h).2 h')
theorem ZK(n:Int):∀ l,evT W (PP n l)=n*evT W l
 | []=>by simp [PP,evT]
 | p::l=>by simp [PP,evT]; rw [ZK n l,Int.mul_add,Int.mul_assoc]
theorem zbh(n:Int):∀ {l},bdT N l->bdT N (PP n l)
 | [],h=>h
 | p::l,h=>nl.2 ⟨(nl.1 h).1,zbh n (nl.1 h).2⟩
theorem iO(n:Int):(Lin.lit n).ev W=n:=by simp [Lin.lit,Lin.ev,evT]
theorem vc(s:Nat):(Lin.sy s).ev W=W s:=by simp [Lin.sy,Lin.ev,evT]
theorem Ci(a b:Lin):(a.add b).ev W=a.ev W+b.ev W:=by grind [Lin.add,Lin.ev,Z5]
theorem ta(n:Int)(a:Lin):(Lin.mul n a).ev W=n*a.ev W:=by
 grind [Lin.ev,Lin.mul,evT,Wc,ZK]
theorem pZ(a:Lin):a.neg.ev W=- a.ev W:=by rw [Lin.neg,ta]; omega
theorem hJ(a b:Lin):(a.sub b).ev W=a.ev W-b.ev W:=by rw [Lin.sub,Ci,pZ]; omega
theorem jN(a:Lin)(n:Int):(a.aw n).ev W=a.ev W+n:=by grind [Lin.aw,Lin.ev]
theorem nC(n:Int):(Lin.lit n).bd N:=PY
theorem D2{s:Nat}(h:s<N):(Lin.sy s).bd N:=nl.2 ⟨h,PY⟩
theorem Kv{b:Lin}(h:a.bd N)(h':b.bd N):(a.add b).bd N:=ZH h h'
theorem xk(n:Int)(h:a.bd N):(Lin.mul n a).bd N:=by
 unfold Lin.mul; split
 ·exact PY
 ·exact zbh n h
theorem NQ(h:a.bd N):a.neg.bd N:=xk _ h
theorem nW{b:Lin}(h:a.bd N)(h':b.bd N):(a.sub b).bd N:=Kv h (NQ h')
theorem uy(n:Int)(h:a.bd N):(a.aw n).bd N:=h
theorem zcK:∀ {l m:List (Nat × Int)},zeb l m=true->l=m
 | [],[],_=>rfl
 | [],_::_,h=>by cases h
 | _::_,[],h=>by cases h
 | p::l,q::m,h=>by
  simp only [zeb,WaG] at h;have h1:=Wao h.1;have h2:=OD h.2.1;rw [zcK h.2.2,show p=q from Prod.ext h1 h2]
theorem zy{b:Lin}(h:a.eq b=true):a=b:=by
 simp [Lin.eq] at h;cases a; cases b
 grind [OD,zcK]
theorem lit?_ok{n:Int}(h:a.lit?=some n):a.ev W=n:=by
 unfold Lin.lit? at h; grind [Lin.ev,evT]
theorem YM(H:∀ s,s<N->ρ' s=W s):∀ {l},bdT N l->evT ρ' l=evT W l
 | [],_=>rfl
 | p::l,h=>by
  obtain ⟨h1,h2⟩:=nl.1 h;simp [evT]; rw [H _ h1,YM H h2]
theorem zj(H:∀ s,s<N->ρ' s=W s)(h:e.bd N):e.ev ρ'=e.ev W:=by
 simp only [Lin.ev]; rw [YM H h]
theorem L6(h:e.bd N)(hN:N<=M):e.bd M:=λp hp=>Wcs (h p hp) hN
def Bnd(iv:IV)(W:Nat->Int):Prop:=∀ s q,iv[s]?=some q->q.1<=W s/\W s<=q.2
theorem zfz{iv:IV}(B:Bnd iv W):∀ {t u},ubT iv t=some u->evT W t<=u
 | [],u,h=>by cases h; simp [evT]
 | p::l,u,h=>by
  unfold ubT at h;split at h
  ·rename_i q r hq hr;cases h;have i:=zfz B hr;obtain ⟨b1,b2⟩:=B _ _ hq;simp only [evT];split
   ·rename_i hn;have:=Wcf b2 (D3 hn);omega
   ·rename_i hn;have:=Wcn (a:=p.2) (by have:=ziH hn; omega) b1;omega
  ·cases h
theorem vl(B:Bnd iv W)(h:e.ub iv=some u):e.ev W<=u:=by
 simp [Lin.ub] at h;obtain ⟨r,h,rfl⟩:=h;have:=zfz B h;simp only [Lin.ev]; omega
theorem Mr(B:Bnd iv W)(h:e.lb iv=some u):u<=e.ev W:=by
 simp [Lin.lb] at h;obtain ⟨r,h,rfl⟩:=h;have:=vl B h;rw [pZ] at this; omega
theorem zfo(B:Bnd iv W)(h:leU iv e=true):e.ev W<=0:=by
 unfold leU at h; split at h
 ·rename_i n hn; have:=vl B hn; have:=ja h; omega
 ·cases h
theorem zch{α:Type}{f:α->Bool}:∀ {l:List α},zem f l=true->∃ x∈l,f x=true
 | [],h=>by cases h
 | x::l,h=>by
  unfold zem at h;split at h
  ·grind
  ·obtain ⟨y,h1,h2⟩:=zch h; exact ⟨y,by simp [h1],h2⟩
theorem lQ{α:Type}{f:α->Bool}:∀ {l:List α},lm f l=true->∀ x∈l,f x=true
 | [],_,x,hx=>by cases hx
 | y::l,h,x,hx=>by
  simp [lm] at h;rcases WbL.1 hx with rfl | hx
  ·exact h.1
  ·exact lQ h.2 x hx
def Fct(fs:List Lin)(W:Nat->Int):Prop:=∀ f∈fs,f.ev W<=0
theorem zao{f:Lin}{m:Int}(hm:0<=m)(hf:f.ev W<=0):e.ev W<=(e.sub (f.mul m)).ev W:=by
 rw [hJ,ta];have:=Wcf hf hm;omega
theorem ZT{iv:IV}{fs:List Lin}(B:Bnd iv W)(F:Fct fs W):∀ {n e},leZ iv fs n e=true->e.ev W<=0
 | 0,e,h=>zfo B h
 | n+1,e,h=>by
  unfold leZ at h;split at h
  ·grind [zfo]
  ·obtain ⟨f,hf,h⟩:=zch h;split at h
   ·split at h
    ·rename_i m _ hm;have:=ZT B F h;have:=zao (e:=e) (ja hm) (F f hf);omega
    ·cases h
   ·cases h
end
def Cnd.ev(W:Nat->Int):Cnd->Bool
 | .le e=>decide (e.ev W<=0)
 | .eq e=>decide (e.ev W=0)
 | .ne e=>!decide (e.ev W=0)
variable {c:Cnd}
def Cnd.bd(N:Nat):Cnd->Prop
 | .le e=>e.bd N
 | .eq e=>e.bd N
 | .ne e=>e.bd N
theorem TV(c:Cnd):c.not.ev W=!c.ev W:=by
 cases c with
 | le e=>
  simp [Cnd.not,Cnd.ev,jN,pZ]
  grind
 | eq e=>rfl
 | ne e=>simp [Cnd.not,Cnd.ev]
theorem ZB(h:c.bd N):c.not.bd N:=by
 cases c with
 | le e=>exact uy _ (NQ h)
 | eq e=>exact h
 | ne e=>exact h
theorem zfY{ρ':Nat->Int}(H:∀ s,s<N->ρ' s=W s)(h:c.bd N):c.ev ρ'=c.ev W:=by
 cases c <;> simp only [Cnd.ev,zj H h]
theorem zk4{M:Nat}(h:c.bd N)(hN:N<=M):c.bd M:=by
 cases c <;> exact L6 h hN
def mkL(q sz:Nat)(es:Ls):V:=match q with
 | 0=>.sl sz es
 | 1=>.gs sz es
 | _=>.fr sz es
inductive G (N:Nat) (W:Nat->Int):A->V->Prop
 | ex (v:V):G N W (.ex v) v
 | int (k:IntKind) (e:Lin) (h:e.bd N):G N W (.int k e) (.sc (.int k (e.ev W)))
 | iv (k:IntKind) (lo hi n:Int) (h:lo<=n/\n<=hi):G N W (.iv k lo hi) (.sc (.int k n))
 | cmp (c:Cnd) (h:c.bd N):G N W (.cmp c) (.sc (.bool (c.ev W)))
 | bool (b:Bool):G N W .bool (.sc (.bool b))
 | str (s:ByteArray):G N W .str (.sc (.string s))
 | agg (cs:List A) (vs:List V) (hl:cs.length=vs.length) (h:∀ (i:Nat) (a:A) (v:V),cs[i]?=some a->vs[i]?=some v->G N W a v):G N W (.agg cs) (.agg vs)
 | st (cs:List A) (vs:List V) (hl:cs.length=vs.length) (h:∀ (i:Nat) (a:A) (v:V),cs[i]?=some a->vs[i]?=some v->G N W a v):G N W (.st cs) (.st vs)
 | ae (cs:List A) (vs:List V) (hl:cs.length=vs.length) (h:∀ (i:Nat) (a:A) (v:V),cs[i]?=some a->vs[i]?=some v->G N W a v):G N W (.ae cs) (.ae vs)
 | bx (p:Bool) (cs:List A) (vs:List V) (hl:cs.length=vs.length) (h:∀ (i:Nat) (a:A) (v:V),cs[i]?=some a->vs[i]?=some v->G N W a v):G N W (.bx p cs) (.bx p vs)
 | fp (cs:List A) (n:Nat) (vs:List V) (hn:cs.length<=n) (hl:cs.length<=vs.length) (h:∀ (i:Nat) (a:A) (v:V),cs[i]?=some a->vs[i]?=some v->G N W a v):G N W (.fp cs) (.fp n vs)
 | ak (q sz:Nat) (n:Lin) (row:List A) (es:Ls) (hn:n.bd N) (hl:(es.length:Int)=n.ev W) (hr:∀ r∈es,row.length=r.length)
   (h:∀ r∈es,∀ (i:Nat) (a:A) (v:V),row[i]?=some a->r[i]?=some v->G N W a v):G N W (.ak q sz n row) (mkL q sz es)
 | ai (q sz:Nat) (lo hi:Int) (row:List A) (es:Ls) (hl:lo<=(es.length:Int)/\(es.length:Int)<=hi) (hr:∀ r∈es,row.length=r.length)
   (h:∀ r∈es,∀ (i:Nat) (a:A) (v:V),row[i]?=some a->r[i]?=some v->G N W a v):G N W (.ai q sz lo hi row) (mkL q sz es)
 | am (q sz:Nat) (rows:List (List A)) (es:Ls) (hl:rows.length=es.length) (hr:∀ (j:Nat) (row:List A) (r:List V),rows[j]?=some row->es[j]?=some r->row.length=r.length)
   (h:∀ (j:Nat) (row:List A) (r:List V),rows[j]?=some row->es[j]?=some r->∀ (i:Nat) (a:A) (v:V),row[i]?=some a->r[i]?=some v->G N W a v):G N W (.am q sz rows) (mkL q sz es)
 | ptr (id:Nat) (o:Lin) (off:Nat) (ho:o.bd N) (h:o.ev W=off):G N W (.ptr id o) (.ptr id off)
 | own (id:Nat) (o m:Lin) (off len sz:Nat) (ho:o.bd N) (hm:m.bd N) (h:o.ev W=off) (h':m.ev W=len):G N W (.own id o m sz) (.own id off len sz)
 | any (v:V):G N W .any v
def All2{α Y:Type}(R:α->Y->Prop)(l:List α)(m:List Y):Prop:=l.length=m.length/\∀ (i:Nat) (a:α) (b:Y),l[i]?=some a->m[i]?=some b->R a b
abbrev GL(N:Nat)(W:Nat->Int)(cs:List A)(vs:List V):Prop:=All2 (G N W) cs vs
inductive GB (N:Nat) (W:Nat->Int):BB->B->Prop
 | gone:GB N W .gone .gone
 | live (p:Bool) (cs:List A) (vs:List V) (h:GL N W cs vs):GB N W (.live p cs) (.live p vs)
 | fz (cs:List A) (vs:List V) (h:GL N W cs vs):GB N W (.fz cs) (.fz vs)
theorem G.mono{M:Nat}{ρ':Nat->Int}(hN:N<=M)(H:∀ s,s<N->ρ' s=W s){a:A}{v:V}(h:G N W a v):G M ρ' a v:=by
 induction h with
 | ex v=>exact .ex v
 | int k e h=>rw [<- zj H h]; exact .int k e (L6 h hN)
 | iv k lo hi n h=>exact .iv k lo hi n h
 | cmp c h=>rw [<- zfY H h]; exact .cmp c (zk4 h hN)
 | bool b=>exact .bool b
 | str s=>exact .str s
 | agg cs vs hl h ih=>exact .agg cs vs hl ih
 | st cs vs hl h ih=>exact .st cs vs hl ih
 | ae cs vs hl h ih=>exact .ae cs vs hl ih
 | bx p cs vs hl h ih=>exact .bx p cs vs hl ih
 | fp cs n vs hn hl h ih=>exact .fp cs n vs hn hl ih
 | ak q sz n row es hn hl hr h ih=>exact .ak q sz n row es (L6 hn hN) (by rw [zj H hn]; exact hl) hr ih
 | ai q sz lo hi row es hl hr h ih=>exact .ai q sz lo hi row es hl hr ih
 | am q sz rows es hl hr h ih=>exact .am q sz rows es hl hr ih
 | ptr id o off ho h=>exact .ptr id o off (L6 ho hN) (by rw [zj H ho]; exact h)
 | own id o m off len sz ho hm h h'=>exact .own id o m off len sz (L6 ho hN) (L6 hm hN) (by rw [zj H ho]; exact h) (by rw [zj H hm]; exact h')
 | any v=>exact .any v
section
variable {α Y:Type} {R R':α->Y->Prop}
theorem All2.nil:All2 R [] []:=⟨rfl,λi a b h=>by simp at h⟩
theorem All2.cons{a:α}{b:Y}{l:List α}{m:List Y}(h:R a b)(h':All2 R l m):All2 R (a::l) (b::m):=by
 refine ⟨by simp [h'.1],λi x y hx hy=>?_⟩;cases i with
 | zero=>grind
 | succ i=>exact h'.2 i x y (by simpa using hx) (by simpa using hy)
theorem All2.head{a:α}{b:Y}{l:List α}{m:List Y}(h:All2 R (a::l) (b::m)):R a b:=h.2 0 a b rfl rfl
theorem All2.tail{a:α}{b:Y}{l:List α}{m:List Y}(h:All2 R (a::l) (b::m)):All2 R l m:=⟨by simpa using h.1,λi x y hx hy=>h.2 (i+1) x y (by simpa using hx) (by simpa using hy)⟩
theorem All2.imp(H:∀ a b,R a b->R' a b){l:List α}{m:List Y}(h:All2 R l m):All2 R' l m:=⟨h.1,λi a b h1 h2=>H _ _ (h.2 i a b h1 h2)⟩
theorem All2.get{l:List α}{m:List Y}(h:All2 R l m){i:Nat}{a:α}(hi:l[i]?=some a):∃ b,m[i]?=some b/\R a b:=by
 have hlt:i<m.length:=by rw [<- h.1]; grind
 exact ⟨m[i],Wac hlt,h.2 i a _ hi (Wac hlt)⟩
theorem All2.set{l:List α}{m:List Y}(h:All2 R l m)(i:Nat){a:α}{b:Y}(hab:R a b):All2 R (l.set i a) (m.set i b):=by
 refine ⟨by simp [h.1],λj x y hx hy=>?_⟩;rw [WbB] at hx hy;split at hx
 ·grind
 ·rename_i hij;rw [if_neg hij] at hy;exact h.2 j x y hx hy
theorem All2.take{l:List α}{m:List Y}(h:All2 R l m)(n:Nat):All2 R (l.take n) (m.take n):=by
 refine ⟨by simp [h.1],λj x y hx hy=>?_⟩;rw [Wai] at hx hy;split at hx
 ·rename_i hj; rw [if_pos hj] at hy; exact h.2 j x y hx hy
 ·cases hx
theorem All2.drop{l:List α}{m:List Y}(h:All2 R l m)(n:Nat):All2 R (l.drop n) (m.drop n):=by
 refine ⟨by simp [h.1],λj x y hx hy=>?_⟩;rw [Waj] at hx hy;exact h.2 _ x y hx hy
theorem All2.append{l l':List α}{m m':List Y}(h:All2 R l m)(h':All2 R l' m'):All2 R (l++l') (m++m'):=by
 refine ⟨by simp [h.1,h'.1],λj x y hx hy=>?_⟩;by_cases hj:j<l.length
 ·rw [Wan hj] at hx;rw [Wan (by rw [<- h.1]; exact hj)] at hy;exact h.2 j x y hx hy
 ·rw [Wal (by omega)] at hx;rw [Wal (by rw [<- h.1]; omega),<- h.1] at hy;exact h'.2 _ x y hx hy
theorem All2.map{γ δ:Type}{S:γ->δ->Prop}{f:α->γ}{g:Y->δ}(H:∀ a b,R a b->S (f a) (g b)){l:List α}{m:List Y}(h:All2 R l m):All2 S (l.map f) (m.map g):=by
 refine ⟨by simp [h.1],λj x y hx hy=>?_⟩;rw [List.getElem?_map,Wag] at hx hy;obtain ⟨a,h1,rfl⟩:=hx;obtain ⟨b,h2,rfl⟩:=hy;exact H _ _ (h.2 j a b h1 h2)
theorem All2.rep{a:α}{b:Y}(h:R a b)(n:Nat):All2 R (List.replicate n a) (List.replicate n b):=by
 refine ⟨by simp,λj x y hx hy=>?_⟩
 grind
theorem Dj{f:α->Y->Bool}:∀ {l:List α} {m:List Y},lY f l m=true->All2 (λa b=>f a b=true) l m
 | [],[],_=>.nil
 | [],_::_,h=>by cases h
 | _::_,[],h=>by cases h
 | a::l,b::m,h=>by
  simp [lY] at h;exact .cons h.1 (Dj h.2)
end
theorem All2.trans{α Y γ:Type}{R:α->Y->Prop}{S:α->γ->Prop}{T:γ->Y->Prop}(H:∀ a b c,R a b->S a c->T c b){l:List α}{m:List Y}{n:List γ}(h:All2 R l m)(h':All2 S l n):All2 T n m:=by
 refine ⟨by rw [<- h'.1,h.1],λi c b hc hb=>?_⟩;have hlt:i<l.length:=by rw [h'.1]; grind
 exact H l[i] b c (h.2 i _ b (Wac hlt) hb) (h'.2 i _ c (Wac hlt) hc)
structure Thm (N0:Nat) (th:Th) (W ρj:Nat->Int) (Nj:Nat):Prop where
 lo:∀ x,x<N0->ρj x=W x
 sy:∀ x e,GI x th=some e->N0<=x->ρj x=e.ev W
 n0:N0<=Nj
 bd:∀ x e,GI x th=some e->x<Nj
section
variable {N0 Nj:Nat} {th:Th} {W ρj:Nat->Int}
theorem zfM(H:Thm N0 th W ρj Nj):∀ {t f},sbT N0 th t=some f->f.ev W=evT ρj t/\bdT Nj t
 | [],f,h=>by cases h; exact ⟨by rw [iO]; rfl,PY⟩
 | p::l,f,h=>by
  unfold sbT at h;split at h
  ·rename_i e r he hr;cases h;obtain ⟨i1,i2⟩:=zfM H hr;rw [Ci,ta,i1];split at he
   ·rename_i hx;cases he;have hx:=Hn hx;exact ⟨by rw [vc,<- H.lo _ hx]; rfl,nl.2 ⟨Wcs hx H.n0,i2⟩⟩
   ·rename_i hx;have hx:=ze4 hx;exact ⟨by rw [<- H.sy _ _ he hx]; rfl,nl.2 ⟨H.bd _ _ he,i2⟩⟩
  ·cases h
theorem Mw(H:Thm N0 th W ρj Nj){f:Lin}(h:e.sb N0 th=some f):f.ev W=e.ev ρj/\e.bd Nj:=by
 simp [Lin.sb] at h;obtain ⟨r,h,rfl⟩:=h;obtain ⟨h1,h2⟩:=zfM H h;exact ⟨by grind [Lin.ev,jN],h2⟩
theorem Thm.none(W ρj:Nat->Int)(Nj:Nat):Thm 0 [] W ρj Nj:=⟨λx h=>absurd h (Nat.not_lt_zero x),λx e h=>(by cases h),Nat.zero_le _,λx e h=>(by cases h)⟩
end
end
section
variable {a:A}{v:V}{k:IntKind}
theorem zcf:∀ {l m:List Nat},zd8 l m=true->l=m
 | [],[],_=>rfl
 | [],_::_,h=>by cases h
 | _::_,[],h=>by cases h
 | x::l,y::m,h=>by
  simp only [zd8,WaG] at h;rw [Wao h.1,zcf h.2]
theorem zim{a b:ByteArray}(h:zaw a=zaw b):a=b:=by
 have h1:a.data.toList=b.data.toList:=by
  unfold zaw at h;generalize a.data.toList=l at h;generalize b.data.toList=m at h
  induction l generalizing m with
  | nil=>cases m with
   | nil=>rfl
   | cons _ _=>cases h
  | cons x l ih=>cases m with
   | nil=>cases h
   | cons y m=>
    simp only [List.map_cons,List.cons.injEq] at h;rw [UInt8.toNat_inj.1 h.1,ih m h.2]
 cases a; simp_all
theorem ziT:∀ {v w:V},Xh v w=true->v=w:=by
 intro v w h;unfold Xh at h;split at h
 ·rfl
 ·rfl
 ·rfl
 ·rw [eq_of_beq h]
 ·grind [OD]
 ·rw [Wao h]
 ·rw [zim (zcf h)]
 ·cases h
section
variable {N:Nat} {W:Nat->Int} {iv:IV}
theorem PD(B:Bnd iv W){l h:Int}(e:NF iv a=some (k,l,h))(g:G N W a v):∃ n,v=.sc (.int k n)/\l<=n/\n<=h:=by
 unfold NF at e;split at e
 ·split at e
  ·rename_i hl hh;cases e;cases g;exact ⟨_,rfl,Mr B hl,vl B hh⟩
  ·cases e
 ·cases e; cases g; grind
 ·cases e; cases g; grind
 ·cases e
theorem Gt(e:Aa a=true)(g:G N W a v):∃ b,v=.sc (.bool b):=by
 unfold Aa at e;split at e
 ·cases g; exact ⟨_,rfl⟩
 ·cases g; exact ⟨_,rfl⟩
 ·cases g; exact ⟨_,rfl⟩
 ·cases e
theorem YC(e:D9 a=true)(g:G N W a v):∃ b,v=.sc (.string b):=by
 unfold D9 at e;split at e
 ·cases g; exact ⟨_,rfl⟩
 ·cases g; exact ⟨_,rfl⟩
 ·cases e
theorem Lv(e:DS a=some k)(g:G N W a v):∃ n,v=.sc (.int k n):=by
 unfold DS at e;split at e
 ·cases e; cases g; exact ⟨_,rfl⟩
 ·cases e; cases g; exact ⟨_,rfl⟩
 ·cases e; cases g; exact ⟨_,rfl⟩
 ·cases e
structure IsL (N:Nat) (W:Nat->Int) (a:A) (q sz:Nat) (l h:Int) (es:Ls):Prop where
 lo:l<=(es.length:Int)
 hi:(es.length:Int)<=h
 rows:∀ r∈es,∃ row∈lh a,GL N W row r
 len:∀ e,FC a=some e->(es.length:Int)=e.ev W/\e.bd N
theorem rU(B:Bnd iv W){q sz:Nat}{l h:Int}(e:aJ iv a=some (q,sz,l,h))(g:G N W a v):∃ es,v=mkL q sz es/\IsL N W a q sz l h es:=by
 cases a with
 | ak q0 sz0 n0 row0=>
  simp [aJ] at e;split at e
  ·rename_i hl hh;cases e;cases g with
   | ak _ _ _ _ es hn hl' hr h=>
    refine ⟨es,rfl,?_,?_,λr hr'=>⟨row0,Wcz,hr r hr',λi a v h1 h2=>h r hr' i a v h1 h2⟩,λe he=>?_⟩
    ·rw [hl']; exact Mr B hl
    ·rw [hl']; exact vl B hh
    ·cases he; exact ⟨hl',hn⟩
  ·cases e
 | ai q0 sz0 l0 h0 row0=>
  cases e;cases g with
  | ai _ _ _ _ _ es hl' hr h=>exact ⟨es,rfl,hl'.1,hl'.2,λr hr'=>⟨row0,Wcz,hr r hr',λi a v h1 h2=>h r hr' i a v h1 h2⟩,λe he=>by cases he⟩
 | am q0 sz0 rows0=>
  cases e;cases g with
  | am _ _ _ es hl' hr h=>
   refine ⟨es,rfl,by rw [hl']; exact WcA _,by rw [hl']; exact WcA _,λr hr'=>?_,λe he=>?_⟩
   ·obtain ⟨j,hj⟩:=List.mem_iff_getElem?.1 hr';have hlt:j<rows0.length:=by rw [hl']; exact (Wam.1 hj).1
    exact ⟨rows0[j],WaV hlt,hr j _ r (Wac hlt) hj,λi a v h1 h2=>h j _ r (Wac hlt) hj i a v h1 h2⟩
   ·cases he; exact ⟨by rw [iO,hl'],nC _⟩
 | _=>cases e
end
theorem VB{s:SS}{W ρj:Nat->Int}{N0 Nj:Nat}{th:Th}(B:Bnd s.iv W)(F:Fct s.fs W)(H:Thm N0 th W ρj Nj):∀ (n:Nat) {a j:A} {v:V},leA N0 s th n a j=true->G s.iv.length W a v->G Nj ρj j v
 | 0,a,j,v,h,g=>by cases h
 | n+1,a,j,v,h,g=>by
  have row:∀ {cs ds:List A} {vs:List V},lY (leA N0 s th n) cs ds=true->GL s.iv.length W cs vs->GL Nj ρj ds vs:=λh1 h2=>All2.trans (S:=λa b=>leA N0 s th n a b=true) (T:=G Nj ρj) (λa b c h3 h4=>VB B F H n h4 h3) h2 (Dj h1);have le:∀ {e:Lin},s.le e=true->e.ev W<=0:=λh=>ZT B F h;have ak:∀ {q sz:Nat} {l h:Int} {es:Ls} {rw:List A},IsL s.iv.length W a q sz l h es->lm (λr=>lY (leA N0 s th n) r rw) (lh a)=true->∀ r∈es,GL Nj ρj rw r:=λi1 i2 r hr=>by
   obtain ⟨row',h1,h2⟩:=i1.rows r hr;exact row (lQ i2 _ h1) h2
  unfold leA at h;split at h
  ·exact .any v
  ·split at h
   ·cases g; rw [ziT h]; exact .ex _
   ·cases h
  ·rename_i k e;have key:∀ {f:Lin} {m:Int},e.sb N0 th=some f->f.ev W=m->G Nj ρj (.int k e) (.sc (.int k m)):=λh1 h2=>by
    obtain ⟨q1,q2⟩:=Mw H h1;rw [<- h2,q1]; exact .int k e q2
   split at h
   ·rename_i k' e';simp only [WaG,decide_eq_true_eq] at h;obtain ⟨rfl,h⟩:=h;split at h
    ·rename_i f hf;cases g;refine key hf ?_;simp only [Bool.or_eq_true,WaG] at h;rcases h with h | ⟨h1,h2⟩
     ·rw [zy h]
     ·have h1:=le h1; have h2:=le h2;rw [hJ] at h1 h2; omega
    ·cases h
   ·rename_i k' l h';simp only [WaG,decide_eq_true_eq] at h;obtain ⟨rfl,h1,h⟩:=h;split at h
    ·rename_i f hf;cases g; rename_i m hm;refine key hf ?_;have:=OD h1;rw [zy h,iO]; omega
    ·cases h
   ·rename_i k' m;simp only [WaG,decide_eq_true_eq] at h;obtain ⟨rfl,h⟩:=h;split at h
    ·rename_i f hf;cases g;exact key hf (by rw [zy h,iO])
    ·cases h
   ·cases h
  ·rename_i k lo hi;split at h
   ·rename_i k' e;simp only [WaG,decide_eq_true_eq] at h;obtain ⟨rfl,h1,h2⟩:=h;have h1:=le h1; have h2:=le h2;rw [hJ,iO] at h1; rw [jN] at h2;cases g;exact .iv _ _ _ _ ⟨by omega,by omega⟩
   ·split at h
    ·rename_i k' l h' hb;simp only [WaG,decide_eq_true_eq] at h;obtain ⟨rfl,h1,h2⟩:=h;obtain ⟨m,rfl,h3,h4⟩:=PD B hb g;have:=ja h1; have:=ja h2;exact .iv _ _ _ _ ⟨by omega,by omega⟩
    ·cases h
  ·cases h
  ·obtain ⟨b,rfl⟩:=Gt h g; exact .bool b
  ·obtain ⟨b,rfl⟩:=YC h g; exact .str b
  ·split at h
   ·cases g with
    | agg cs vs hl hh=>have:=row h ⟨hl,hh⟩; exact .agg _ _ this.1 this.2
   ·cases h
  ·split at h
   ·cases g with
    | st cs vs hl hh=>have:=row h ⟨hl,hh⟩; exact .st _ _ this.1 this.2
   ·cases h
  ·split at h
   ·cases g with
    | ae cs vs hl hh=>have:=row h ⟨hl,hh⟩; exact .ae _ _ this.1 this.2
   ·cases h
  ·rename_i q sz m rw;split at h
   ·rename_i q' sz' _ _ e f h1 h2 h3;simp only [WaG] at h;obtain ⟨a1,a2,a3,a4⟩:=h;obtain ⟨es,rfl,i⟩:=rU B h1 g;obtain rfl:=Wao a1;obtain rfl:=Wao a2;obtain ⟨q1,q2⟩:=Mw H h3;have e1:=(i.len _ h2).1;have r:=ak i a4;exact .ak _ _ _ _ _ q2 (by rw [e1,<- zy a3,q1]) (λx hx=>(r x hx).1) (λx hx=>(r x hx).2)
   ·cases h
  ·rename_i q sz lo hi rw;split at h
   ·rename_i q' sz' l h' h1;simp only [WaG] at h;obtain ⟨a1,a2,a3,a4,a5⟩:=h;obtain ⟨es,rfl,i⟩:=rU B h1 g;obtain rfl:=Wao a1;obtain rfl:=Wao a2;have r:=ak i a5;have:=ja a3; have:=ja a4; have:=i.lo; have:=i.hi;exact .ai _ _ _ _ _ _ ⟨by omega,by omega⟩ (λx hx=>(r x hx).1) (λx hx=>(r x hx).2)
   ·cases h
  ·rename_i q sz rows;split at h
   ·rename_i q' sz' rs;simp only [WaG] at h;obtain ⟨a1,a2,a3⟩:=h;obtain rfl:=Wao a1;obtain rfl:=Wao a2;cases g with
    | am q sz _ es hl hr hh=>
     have t:All2 (GL Nj ρj) rows es:=All2.trans (S:=λa b=>lY (leA N0 s th n) a b=true) (R:=GL s.iv.length W) (T:=GL Nj ρj) (λx y z h1 h2=>row h2 h1) ⟨hl,λj x y h1 h2=>⟨hr j x y h1 h2,hh j x y h1 h2⟩⟩ (Dj a3);exact .am _ _ _ _ t.1 (λj x y h1 h2=>(t.2 j x y h1 h2).1) (λj x y h1 h2=>(t.2 j x y h1 h2).2)
   ·cases h
  ·rename_i ds;split at h
   ·rename_i cs;simp only [WaG] at h;obtain ⟨a1,a2⟩:=h;have hlen:=lR a1;cases g with
    | fp _ m vs hn hl hh=>
     have t:GL Nj ρj ds (vs.take ds.length):=row a2 (All2.take (l:=cs) (m:=vs.take cs.length) ⟨by simp; omega,λi a v h1 h2=>by
      rw [Wai] at h2;split at h2
      ·exact hh i a v h1 h2
      ·cases h2⟩ ds.length |> λq=>by grind)
     refine .fp _ _ _ (by omega) (by omega) (λi a v h1 h2=>t.2 i a v h1 ?_);have:=(Wam.1 h1).1;rw [Wai,if_pos this]; exact h2
   ·cases h
  ·rename_i id o;split at h
   ·rename_i id' o';simp only [WaG] at h;obtain ⟨a1,a2⟩:=h;obtain rfl:=Wao a1;split at a2
    ·rename_i f hf;cases g with
     | ptr _ _ off ho hh=>
      obtain ⟨q1,q2⟩:=Mw H hf;exact .ptr _ _ _ q2 (by rw [<- q1,zy a2,hh])
    ·cases a2
   ·cases h
  ·rename_i id o m sz;split at h
   ·rename_i id' o' m' sz';simp only [WaG] at h;obtain ⟨a1,a2,a3,a4⟩:=h;obtain rfl:=Wao a1;obtain rfl:=Wao a2;split at a3
    ·rename_i f hf;split at a4
     ·rename_i f' hf';cases g with
      | own _ _ _ off len _ ho hm hh hh'=>
       obtain ⟨q1,q2⟩:=Mw H hf;obtain ⟨q3,q4⟩:=Mw H hf';exact .own _ _ _ _ _ _ q2 q4 (by rw [<- q1,zy a3,hh]) (by rw [<- q3,zy a4,hh'])
     ·cases a4
    ·cases a3
   ·cases h
  ·rename_i p ds;split at h
   ·simp only [WaG,beq_iff_eq] at h;obtain ⟨rfl,a2⟩:=h;cases g with
    | bx _ cs vs hl hh=>have:=row a2 ⟨hl,hh⟩; exact .bx _ _ _ this.1 this.2
   ·cases h
end
section
variable {e f:Lin}{N:Nat}{fs:List Lin}
theorem W9{k:IntKind}{n:Int}(h1:k.min<=n)(h2:n<=k.max):k.wrap n=n:=by
 cases k <;> simp [Wcw,WcB,Wcj,Wcp] at h1 h2 <;> simp [IntKind.wrap,Wcj,Wcp] <;> omega
theorem Ms(k:IntKind)(n:Int):k.min<=k.wrap n/\k.wrap n<=k.max:=by
 cases k <;> simp [Wcw,WcB,IntKind.wrap,Wcj,Wcp] <;> omega
structure Sat (s:SS) (W:Nat->Int) (Z:St):Prop where
 bnd:Bnd s.iv W
 fct:Fct s.fs W
 fbd:∀ f∈s.fs,f.bd s.iv.length
 ts:All2 (G s.iv.length W) s.t Z.t
 bs:All2 (GB s.iv.length W) s.b Z.b
structure Ext (s s':SS) (W ρ':Nat->Int):Prop where
 le:s.iv.length<=s'.iv.length
 eq:∀ x,x<s.iv.length->ρ' x=W x
section
variable {s s' s1:SS} {W ρ' ρ1:Nat->Int} {Z:St}
theorem Ext.refl:Ext s s W W:=⟨Nat.le_refl _,λ_ _=>rfl⟩
theorem Ext.same(h:s'.iv.length=s.iv.length):Ext s s' W W:=⟨by omega,λ_ _=>rfl⟩
theorem Ext.trans(h:Ext s s1 W ρ1)(h':Ext s1 s' ρ1 ρ'):Ext s s' W ρ':=⟨Nat.le_trans h.le h'.le,λx hx=>by rw [h'.eq x (Wcs hx h.le),h.eq x hx]⟩
theorem Ext.g(h:Ext s s' W ρ'){a:A}{v:V}(g:G s.iv.length W a v):G s'.iv.length ρ' a v:=g.mono h.le h.eq
theorem Ext.gl(h:Ext s s' W ρ'){a:List A}{v:List V}(g:GL s.iv.length W a v):GL s'.iv.length ρ' a v:=g.imp λ_ _=>h.g
theorem Ext.ev(h:Ext s s' W ρ')(b:e.bd s.iv.length):e.ev ρ'=e.ev W:=zj h.eq b
theorem Ext.bd(h:Ext s s' W ρ')(b:e.bd s.iv.length):e.bd s'.iv.length:=L6 b h.le
theorem GB.mono{N M:Nat}(hN:N<=M)(H:∀ s,s<N->ρ' s=W s){a:BB}{v:B}(h:GB N W a v):GB M ρ' a v:=by
 cases h with
 | gone=>exact .gone
 | live p cs vs h=>exact .live p _ _ (h.imp λ_ _ g=>g.mono hN H)
 | fz cs vs h=>exact .fz _ _ (h.imp λ_ _ g=>g.mono hN H)
theorem Sat.le(S:Sat s W Z)(h:s.le e=true):e.ev W<=0:=ZT S.bnd S.fct h
def kN(W:Nat->Int)(N:Nat)(n:Int):Nat->Int:=λx=>if x=N then n else W x
theorem oP(N:Nat)(n:Int):kN W N n N=n:=by simp [kN]
theorem zcQ{x:Nat}(h:x<N)(n:Int):kN W N n x=W x:=by grind [kN]
theorem Sat.sym(S:Sat s W Z){lo hi n:Int}(h:lo<=n/\n<=hi):Sat (s.sym lo hi) (kN W s.iv.length n) Z/\Ext s (s.sym lo hi) W (kN W s.iv.length n):=by
 have hl:(s.sym lo hi).iv.length=s.iv.length+1:=by simp [SS.sym]
 have E:Ext s (s.sym lo hi) W (kN W s.iv.length n):=⟨by omega,λx hx=>zcQ hx n⟩;refine ⟨⟨λx q hq=>?_,λf hf=>?_,λf hf=>E.bd (S.fbd f hf),S.ts.imp λ_ _=>E.g,S.bs.imp λ_ _ g=>g.mono E.le E.eq⟩,E⟩
 ·have hq:(s.iv++[(lo,hi)])[x]?=some q:=hq;by_cases hx:x<s.iv.length
  ·rw [Wan hx] at hq;rw [zcQ hx]; exact S.bnd x q hq
  ·rw [Wal (by omega)] at hq;have hx0:x-s.iv.length=0:=by
    grind
   rw [hx0] at hq;cases hq;have:x=s.iv.length:=by omega
   subst this;rw [oP]; exact h
 ·rw [E.ev (S.fbd f hf)]; exact S.fct f hf
theorem Sat.env(S:Sat s W Z){iv:IV}(hl:iv.length=s.iv.length)(hb:Bnd iv W)(hf:Fct fs W)(hd:∀ f∈fs,f.bd s.iv.length):Sat { s with iv:=iv,fs:=fs } W Z:=
 ⟨hb,hf,λf h=>by rw [hl]; exact hd f h,by show All2 (G iv.length W) _ _; rw [hl]; exact S.ts,by show All2 (GB iv.length W) _ _; rw [hl]; exact S.bs⟩
theorem Sat.facts(S:Sat s W Z)(hf:Fct fs W)(hd:∀ f∈fs,f.bd s.iv.length):Sat { s with fs:=fs } W Z:=S.env rfl S.bnd hf hd
theorem tH(h:f.ev W<=0)(h':Fct fs W):Fct (f::fs) W:=λg hg=>by
 rcases WbL.1 hg with rfl | hg
 ·exact h
 ·exact h' g hg
theorem wZ(h:f.bd N)(h':∀ f∈fs,f.bd N):∀ g∈f::fs,g.bd N:=λg hg=>by
 grind
theorem Sat.fact(S:Sat s W Z){e:Lin}(h:e.ev W<=0)(hb:e.bd s.iv.length):Sat (s.fact e) W Z/\(s.fact e).iv.length=s.iv.length/\(s.fact e).t=s.t/\(s.fact e).b=s.b:=by
 have dflt:Sat { s with fs:=e::s.fs } W Z:=S.facts (tH h S.fct) (wZ hb S.fbd);have ab:∀ (x:Nat) (q q':Int × Int),s.iv[x]?=some q->(q'.1<=W x/\W x<=q'.2)->Sat { s with iv:=s.iv.set x q' } W Z:=by
  intro x q q' hq hx;refine S.env (by simp) (λy r hr=>?_) S.fct S.fbd;rw [WbB] at hr;split at hr
  ·grind
  ·exact S.bnd y r hr
 unfold SS.fact;split
 ·rename_i x a ht;have hev:e.ev W=e.c+a*W x:=by simp [Lin.ev,ht,evT]
  split
  ·rename_i ha;have ha:=Wc ha;split
   ·rename_i q hq;refine ⟨ab x q _ hq ?_,by simp,rfl,rfl⟩;have b:=S.bnd x q hq;have e1:a=1:=by omega
    rw [e1] at hev;show q.1<=W x/\W x<=m9 q.2 (-e.c);rcases (C0 q.2 (-e.c)).2.2 with m | m <;> rw [m] <;> constructor <;> omega
   ·exact ⟨dflt,rfl,rfl,rfl⟩
  ·split
   ·rename_i ha;have ha:=Wc ha;split
    ·rename_i q hq;refine ⟨ab x q _ hq ?_,by simp,rfl,rfl⟩;have b:=S.bnd x q hq;have e1:a=-1:=by omega
     rw [e1] at hev;show qE q.1 e.c<=W x/\W x<=q.2;rcases (GG q.1 e.c).2.2 with m | m <;> rw [m] <;> constructor <;> omega
    ·exact ⟨dflt,rfl,rfl,rfl⟩
   ·exact ⟨dflt,rfl,rfl,rfl⟩
 ·exact ⟨dflt,rfl,rfl,rfl⟩
theorem Sat.dec(S:Sat s W Z){c:Cnd}{b:Bool}(h:s.dec c=some b):c.ev W=b:=by
 cases c with
 | le e=>
  simp [SS.dec] at h;split at h
  ·rename_i h1; cases h; have:=S.le h1; grind [Cnd.ev]
  ·split at h
   ·rename_i h1; cases h; have:=S.le h1; grind [Cnd.ev,jN,pZ]
   ·cases h
 | eq e=>
  simp [SS.dec] at h;split at h
  ·rename_i h1; cases h;simp at h1;have:=S.le h1.1; have:=S.le h1.2; grind [Cnd.ev,pZ]
  ·split at h
   ·rename_i h1; cases h;simp at h1;simp only [Cnd.ev];refine decide_eq_false ?_;rcases h1 with h1 | h1
    ·have:=S.le h1; rw [jN] at this; omega
    ·have:=S.le h1; grind [jN,pZ]
   ·cases h
 | ne e=>
  simp [SS.dec] at h;split at h
  ·rename_i h1; cases h;simp at h1;have:=S.le h1.1; have:=S.le h1.2; grind [Cnd.ev,pZ]
  ·split at h
   ·rename_i h1; cases h;simp at h1;simp only [Cnd.ev];rw [decide_eq_false]
    ·rfl
    rcases h1 with h1 | h1
    ·have:=S.le h1; rw [jN] at this; omega
    ·have:=S.le h1; grind [jN,pZ]
   ·cases h
theorem Sat.assume(S:Sat s W Z){c:Cnd}{d:Option Bool}(hd:∀ b,d=some b->c.ev W=b)(hb:c.bd s.iv.length)(h:c.ev W=true):∃ s',s.assume d c=some s'/\Sat s' W Z/\s'.iv.length=s.iv.length/\s'.t=s.t/\s'.b=s.b:=by
 unfold SS.assume;split
 ·grind
 ·grind
 ·split
  ·rename_i e;simp [Cnd.ev] at h;obtain ⟨q1,q2⟩:=S.fact h hb;exact ⟨_,rfl,q1,q2⟩
  ·rename_i e;simp [Cnd.ev] at h;obtain ⟨q1,q2,q3,q4⟩:=S.fact (e:=e) (by omega) hb;obtain ⟨r1,r2,r3,r4⟩:=q1.fact (e:=e.neg) (by rw [pZ]; omega) (by rw [q2]; exact NQ hb)
   grind
  ·rename_i e;simp [Cnd.ev] at h;split
   ·rename_i h1;have:=S.le h1;obtain ⟨q1,q2⟩:=S.fact (e:=e.aw 1) (by rw [jN]; omega) (uy _ hb);exact ⟨_,rfl,q1,q2⟩
   ·rename_i h1 _;have:=S.le h1;rw [pZ] at this;obtain ⟨q1,q2⟩:=S.fact (e:=e.neg.aw 1) (by rw [jN,pZ]; omega) (uy _ (NQ hb));exact ⟨_,rfl,q1,q2⟩
   ·grind
theorem U1(v:V):G N W (pO v) v:=by
 unfold pO;split
 ·rename_i k n;have:=G.int (N:=N) (W:=W) k (.lit n) (nC n)
  rwa [iO] at this
 ·exact .am 1 _ [] [] rfl (λj row r h=>by simp at h) (λj row r h=>by simp at h)
 ·exact .am 0 _ [] [] rfl (λj row r h=>by simp at h) (λj row r h=>by simp at h)
 ·exact .ex _
theorem ti(cs:List V):GL N W (cs.map pO) cs:=by
 have:=All2.map (R:=λ(a b:V)=>a=b) (S:=G N W) (f:=pO) (g:=id) (λa b h=>by subst h; exact U1 a) (l:=cs) (m:=cs) ⟨rfl,λi a b h1 h2=>by grind⟩;simpa using this
theorem Yd(v:V):G N W (UK v) v:=by
 unfold UK;split
 ·have:=ti (N:=N) (W:=W) ‹_›;exact .agg _ _ this.1 this.2
 ·exact U1 v
theorem Sat.src(S:Sat s W Z)(x:Src):G s.iv.length W (s.src x) (x.get Z):=by
 cases x with
 | const v=>exact Yd v
 | tmp t=>
  show G _ _ (s.t.getD t _) (Z.t.getD t _);rw [Wak,Wak];by_cases ht:t<s.t.length
  ·obtain ⟨v,h1,h2⟩:=S.ts.get (Wac ht)
   grind
  ·rw [Wbu (by omega),Wbu (by rw [<- S.ts.1]; omega)]; exact .ex _
theorem Sat.put(S:Sat s W Z)(d:Option Nat){a:A}{v:V}(g:G s.iv.length W a v):Sat (s.put d a) W (Z.put d v):=by
 cases d with
 | none=>exact S
 | some d=>exact ⟨S.bnd,S.fct,S.fbd,S.ts.set d g,S.bs⟩
theorem pd(d:Option Nat)(a:A):(s.put d a).iv=s.iv:=by cases d <;> rfl
theorem Sat.retell(S:Sat s W Z){t:Nat}{a:A}(h:∀ v,Z.t[t]?=some v->G s.iv.length W a v):Sat { s with t:=s.t.set t a } W Z:=by
 refine ⟨S.bnd,S.fct,S.fbd,⟨by simp [S.ts.1],λi x v hx hv=>?_⟩,S.bs⟩;have hx:(s.t.set t a)[i]?=some x:=hx;rw [WbB] at hx;split at hx
 ·grind
 ·exact S.ts.2 i x v hx hv
theorem Sat.ab(S:Sat s W Z)(id:Nat){a:BB}{x:B}(g:GB s.iv.length W a x):Sat (s.ab id a) W (Z.ab id x):=⟨S.bnd,S.fct,S.fbd,S.ts,S.bs.set id g⟩
theorem Sat.int(S:Sat s W Z){x:Src}{k:IntKind}{e:Lin}(h:s.int x=some (s',k,e)):∃ ρ',Sat s' ρ' Z/\Ext s s' W ρ'/\x.get Z=.sc (.int k (e.ev ρ'))/\e.bd s'.iv.length:=by
 unfold SS.int at h;split at h
 ·split at h
  ·cases h; exact ⟨W,S,.refl,by simp [Src.get,iO],nC _⟩
  ·cases h
 ·rename_i t;split at h
  ·rename_i k' e' ht;cases h;obtain ⟨v,hv,g⟩:=S.ts.get ht;cases g;rename_i hb;exact ⟨W,S,.refl,by grind [Src.get],hb⟩
  ·rename_i k' lo hi ht;cases h;obtain ⟨v,hv,g⟩:=S.ts.get ht;cases g;rename_i n hn;obtain ⟨S1,E⟩:=S.sym hn;have hb:(Lin.sy s.iv.length).bd (s.sym lo hi).iv.length:=D2 (by simp [SS.sym]);have he:(Lin.sy s.iv.length).ev (kN W s.iv.length n)=n:=by rw [vc,oP]
   refine ⟨kN W s.iv.length n,?_,⟨E.le,E.eq⟩,by grind [Src.get],hb⟩;refine S1.retell (t:=t) (a:=.int k (.sy s.iv.length)) (λv' hv'=>?_);rw [hv] at hv'; cases hv';have:=G.int (W:=kN W s.iv.length n) k _ hb
   rwa [he] at this
  ·rename_i k' n ht;cases h;obtain ⟨v,hv,g⟩:=S.ts.get ht;cases g;exact ⟨W,S,.refl,by grind [Src.get,iO],nC _⟩
  ·cases h
end
end
section
variable {w N:Nat}{x:Int}{k:IntKind}{op:BinOp}{r:A}
theorem zjN(k:IntKind):k.min<=0:=by cases k <;> simp [Wcw,Wcj,Wcp]
theorem C9(h:0<=x):(BitVec.ofInt w x).toNat<=x.toNat:=by
 grind
theorem zkI{y:Int}(hx:0<=x)(hy:0<=y):((BitVec.ofInt w x &&& BitVec.ofInt w y).toNat:Int)<=x/\((BitVec.ofInt w x &&& BitVec.ofInt w y).toNat:Int)<=y:=by
 rw [BitVec.toNat_and];have h1:=Nat.and_le_left (n:=(BitVec.ofInt w x).toNat) (m:=(BitVec.ofInt w y).toNat);have h2:=Nat.and_le_right (n:=(BitVec.ofInt w x).toNat) (m:=(BitVec.ofInt w y).toNat)
 grind [C9]
theorem Mh{n:Int}(h0:0<=x)(h:x<=n):x.toNat<2 ^ (n.toNat.log2+1):=Wce (by omega) Nat.lt_log2_self
theorem zlX{y n:Int}(hx:0<=x)(hy:0<=y)(h1:x<=n)(h2:y<=n):((BitVec.ofInt w x ||| BitVec.ofInt w y).toNat:Int)<=UV n:=by
 rw [BitVec.toNat_or];have a1:=Wce (C9 (w:=w) hx) (Mh hx h1);have a2:=Wce (C9 (w:=w) hy) (Mh hy h2);have:=Nat.or_lt_two_pow a1 a2
 grind [UV]
theorem zlf{y n:Int}(hx:0<=x)(hy:0<=y)(h1:x<=n)(h2:y<=n):((BitVec.ofInt w x ^^^ BitVec.ofInt w y).toNat:Int)<=UV n:=by
 rw [BitVec.toNat_xor];have a1:=Wce (C9 (w:=w) hx) (Mh hx h1);have a2:=Wce (C9 (w:=w) hy) (Mh hy h2);have:=Nat.xor_lt_two_pow a1 a2
 grind [UV]
theorem zge(hx:0<=x)(b:BitVec w):((BitVec.ofInt w x &&& ~~~ b).toNat:Int)<=x:=by
 rw [BitVec.toNat_and];have h1:=Nat.and_le_left (n:=(BitVec.ofInt w x).toNat) (m:=(~~~ b).toNat)
 grind [C9]
section
variable {s s':SS} {W:Nat->Int} {Z:St}
theorem sK(k:IntKind)(n:Int):G N W (tP k) (.sc (.int k (k.wrap n))):=.iv _ _ _ _ (Ms k n)
theorem GO{l h n:Int}(h1:l<=n)(h2:n<=h):G N W (ivK k l h) (.sc (.int k (k.wrap n))):=by
 unfold ivK;split
 ·rename_i hk;simp at hk;have:=ja hk.1; have:=ja hk.2;rw [W9 (by omega) (by omega)]; exact .iv _ _ _ _ ⟨h1,h2⟩
 ·exact sK k n
theorem Sat.wrap(S:Sat s W Z){e:Lin}(hb:e.bd s.iv.length):G s.iv.length W (Jf s k e) (.sc (.int k (k.wrap (e.ev W)))):=by
 unfold Jf;split
 ·rename_i hk;unfold inK at hk;split at hk
  ·rename_i l h hl hh;simp at hk;have:=ja hk.1; have:=ja hk.2;have:=Mr S.bnd hl; have:=vl S.bnd hh;rw [W9 (by omega) (by omega)]; exact .int _ _ hb
  ·cases hk
 ·exact sK k _
theorem Sat.cmp(S:Sat s W Z){c:Cnd}{b:Bool}(hb:c.bd s.iv.length)(h:c.ev W=b):G s.iv.length W (N9 s c) (.sc (.bool b)):=by
 unfold N9;split
 ·rename_i b' hd; rw [<- h,S.dec hd]; exact .ex _
 ·rw [<- h]; exact .cmp c hb
def Num(s s':SS)(W:Nat->Int)(Z:St)(r:A)(v:Option Value):Prop:=∃ ρ' u,v=some u/\Sat s' ρ' Z/\Ext s s' W ρ'/\G s'.iv.length ρ' r (.sc u)
theorem zfp(S:Sat s W Z){a b:Lin}{la ha lb hb:Int}(ba:a.bd s.iv.length)(bb:b.bd s.iv.length)(h1:la<=a.ev W)(h2:a.ev W<=ha)(h3:lb<=b.ev W)(h4:b.ev W<=hb)
  (h:AU s op k a b la ha lb hb=some (s',r)):Num s s' W Z r (g8 op (.int k (a.ev W)) (.int k (b.ev W))):=by
 have pure:∀ {u:Value} {r':A},some (s,r')=some (s',r)->g8 op (.int k (a.ev W)) (.int k (b.ev W))=some u->G s.iv.length W r' (.sc u)->Num s s' W Z r (g8 op (.int k (a.ev W)) (.int k (b.ev W))):=by
  intro u r' e1 e2 g;cases e1; exact ⟨W,u,e2,S,.refl,g⟩
 have nnl:∀ {l x:Int},nn l=true->l<=x->0<=x:=λh1 h2=>by have:=D3 h1; omega
 cases op with
 | add=>exact pure h (by simp [g8] <;> rfl) (by rw [<- Ci]; exact S.wrap (Kv ba bb))
 | sub=>exact pure h (by simp [g8] <;> rfl) (by rw [<- hJ]; exact S.wrap (nW ba bb))
 | mul=>
  simp only [AU] at h;split at h
  ·rename_i n hn;exact pure h (by simp [g8] <;> rfl) (by rw [lit?_ok hn,<- ta]; exact S.wrap (xk _ bb))
  ·rename_i n hn _;exact pure h (by simp [g8] <;> rfl) (by rw [lit?_ok hn,Wcq,<- ta]; exact S.wrap (xk _ ba))
  ·split at h
   ·rename_i hk;simp only [WaG] at hk;have p1:=nnl hk.1 h1; have p2:=nnl hk.2 h3;exact pure h (by simp [g8] <;> rfl) (GO (Int.mul_nonneg p1 p2) (Int.mul_le_mul h2 h4 p2 (by omega)))
   ·exact pure h (by simp [g8] <;> rfl) (sK k _)
 | quo=>
  simp only [AU] at h;split at h
  ·rename_i hl;have hl:=ja hl;have hb0:b.ev W≠0:=by omega
   have hv:g8 .quo (.int k (a.ev W)) (.int k (b.ev W))=some (.int k (k.wrap ((a.ev W).tdiv (b.ev W)))):=by simp [g8,hb0]
   split at h
   ·rename_i hk;have p1:=nnl hk h1;have hd:(a.ev W).tdiv (b.ev W)=a.ev W / b.ev W:=Int.tdiv_eq_ediv_of_nonneg p1;have hd0:0<=a.ev W / b.ev W:=Wco p1 (by omega);have hd1:a.ev W / b.ev W<=a.ev W:=Int.ediv_le_self _ p1;split at h
    ·rename_i c hc;have hc:=lit?_ok (W:=W) hc;split at h
     ·rename_i hkm;have hkm:=ja hkm;cases h;rw [hv,hd];rw [hc] at hd0 hd1 h3 ⊢;have hq1:a.ev W / c<=ha / c:=Int.ediv_le_ediv (by omega) h2;obtain ⟨S1,E⟩:=S.sym (lo:=0) (hi:=ha / c) (n:=a.ev W / c) ⟨hd0,hq1⟩;have hsy:(Lin.sy s.iv.length).ev (kN W s.iv.length (a.ev W / c))=a.ev W / c:=by rw [vc,oP]
      have hae:a.ev (kN W s.iv.length (a.ev W / c))=a.ev W:=E.ev ba;have bs:(Lin.sy s.iv.length).bd (s.sym 0 (ha / c)).iv.length:=D2 (by simp [SS.sym]);have ba':=E.bd ba;have m1:c*(a.ev W / c)<=a.ev W:=Wcm (by omega);have m2:a.ev W<c*(a.ev W / c)+c:=Wcu (by omega);have f1:(((Lin.sy s.iv.length).mul c).sub a).ev (kN W s.iv.length (a.ev W / c))<=0:=by rw [hJ,ta,hsy,hae]; omega
      have f2:((a.sub ((Lin.sy s.iv.length).mul c)).aw (1-c)).ev (kN W s.iv.length (a.ev W / c))<=0:=by rw [jN,hJ,ta,hsy,hae]; omega
      have F:=tH f1 (tH f2 S1.fct);have D:=wZ (nW (xk c bs) ba') (wZ (uy (1-c) (nW ba' (xk c bs))) S1.fbd);refine ⟨kN W s.iv.length (a.ev W / c),_,rfl,?_,⟨E.le,E.eq⟩,?_⟩
      ·split
       ·rename_i h2c;simp only [WaG] at h2c;have l1:=ja h2c.1; have l2:=ja h2c.2;have l3:2*(a.ev W / c)<=c*(a.ev W / c):=Int.mul_le_mul_of_nonneg_right l2 hd0;exact S1.facts (tH (by rw [jN,hJ,hsy,hae]; omega) F) (wZ (uy 1 (nW bs ba')) D)
       ·exact S1.facts F D
      ·rw [W9 (by have:=zjN k; omega) (by omega)];have:=G.int (W:=kN W s.iv.length (a.ev W / c)) k _ bs;rw [hsy] at this; exact this
     ·exact pure h hv (sK k _)
    ·refine pure h hv ?_;rw [hd]; exact GO hd0 (by omega)
   ·exact pure h hv (sK k _)
  ·cases h
 | rem=>
  simp only [AU] at h;split at h
  ·rename_i hl;have hl:=ja hl;have hb0:b.ev W≠0:=by omega
   have hv:g8 .rem (.int k (a.ev W)) (.int k (b.ev W))=some (.int k ((a.ev W).tmod (b.ev W))):=by simp [g8,hb0]
   split at h
   ·rename_i hk;have p1:=nnl hk h1;have hd:(a.ev W).tmod (b.ev W)=a.ev W % b.ev W:=Int.tmod_eq_emod_of_nonneg p1;have r1:=Int.emod_nonneg (a.ev W) hb0;have r2:=Int.emod_lt_of_pos (a.ev W) (show 0<b.ev W by omega);have r3:a.ev W % b.ev W<=a.ev W:=by
     by_cases hx:a.ev W<b.ev W
     ·rw [Int.emod_eq_of_lt p1 hx]; exact WcA _
     ·omega
    split at h
    ·rename_i hlt;have hlt:=ja hlt;refine pure h hv ?_;rw [hd,Int.emod_eq_of_lt p1 (by omega)];exact .int _ _ ba
    ·cases h;rw [hv,hd];have hmin:a.ev W % b.ev W<=m9 ha (hb-1):=by rcases (C0 ha (hb-1)).2.2 with m | m <;> rw [m] <;> omega
     obtain ⟨S1,E⟩:=S.sym (lo:=0) (hi:=m9 ha (hb-1)) (n:=a.ev W % b.ev W) ⟨r1,hmin⟩;have hsy:(Lin.sy s.iv.length).ev (kN W s.iv.length (a.ev W % b.ev W))=a.ev W % b.ev W:=by rw [vc,oP]
     have hbe:b.ev (kN W s.iv.length (a.ev W % b.ev W))=b.ev W:=E.ev bb;have bs:(Lin.sy s.iv.length).bd (s.sym 0 (m9 ha (hb-1))).iv.length:=D2 (by simp [SS.sym]);refine ⟨kN W s.iv.length (a.ev W % b.ev W),_,rfl,S1.facts (tH (by rw [jN,hJ,hsy,hbe]; omega) S1.fct) (wZ (uy 1 (nW bs (E.bd bb))) S1.fbd),⟨E.le,E.eq⟩,?_⟩;have:=G.int (W:=kN W s.iv.length (a.ev W % b.ev W)) k _ bs;rw [hsy] at this; exact this
   ·refine pure h hv (.iv _ _ _ _ ?_);have m1:=Int.tmod_lt_of_pos (a.ev W) (show 0<b.ev W by omega);have m2:-(b.ev W)<(a.ev W).tmod (b.ev W):=by
     have:=Int.tmod_lt_of_pos (-(a.ev W)) (show 0<b.ev W by omega);rw [Int.neg_tmod] at this; omega
    omega
  ·cases h
 | and=>
  simp only [AU] at h;split at h
  ·rename_i hk1 hk2;have p1:=nnl hk1 h1; have p2:=nnl hk2 h3;obtain ⟨q1,q2⟩:=zkI (w:=k.bits) p1 p2;have hm:((BitVec.ofInt k.bits (a.ev W) &&& BitVec.ofInt k.bits (b.ev W)).toNat:Int)<=m9 ha hb:=by rcases (C0 ha hb).2.2 with m | m <;> rw [m] <;> omega
   exact pure h (by simp [g8] <;> rfl) (GO (Wcd _) hm)
  ·exact pure h (by simp [g8] <;> rfl) (sK k _)
 | or=>
  simp only [AU] at h;split at h
  ·rename_i hk;simp only [WaG] at hk;have p1:=nnl hk.1 h1; have p2:=nnl hk.2 h3;have:=GG ha hb;exact pure h (by simp [g8] <;> rfl) (GO (Wcd _) (zlX p1 p2 (by omega) (by omega)))
  ·exact pure h (by simp [g8] <;> rfl) (sK k _)
 | xor=>
  simp only [AU] at h;split at h
  ·rename_i hk;simp only [WaG] at hk;have p1:=nnl hk.1 h1; have p2:=nnl hk.2 h3;have:=GG ha hb;exact pure h (by simp [g8] <;> rfl) (GO (Wcd _) (zlf p1 p2 (by omega) (by omega)))
  ·exact pure h (by simp [g8] <;> rfl) (sK k _)
 | andNot=>
  simp only [AU] at h;split at h
  ·rename_i hk;simp only [WaG] at hk;have p1:=nnl hk.1 h1;have hm:=Int.le_trans (zge (w:=k.bits) p1 (BitVec.ofInt k.bits (b.ev W))) h2;exact pure h (by simp [g8] <;> rfl) (GO (Wcd _) hm)
  ·exact pure h (by simp [g8] <;> rfl) (sK k _)
 | eql=>
  refine pure (u:=.bool (a.ev W==b.ev W)) h (by simp [g8]) (S.cmp (c:=.eq (a.sub b)) (nW ba bb) ?_);simp only [Cnd.ev,hJ];rw [Bool.eq_iff_iff,decide_eq_true_iff,beq_iff_eq]; omega
 | neq=>
  refine pure (u:=.bool (a.ev W != b.ev W)) h (by simp [g8]) (S.cmp (c:=.ne (a.sub b)) (nW ba bb) ?_);simp only [Cnd.ev,hJ];rw [Bool.eq_iff_iff,Bool.not_eq_true',decide_eq_false_iff_not,bne_iff_ne]; omega
 | lss=>exact pure h (by simp [g8] <;> rfl) (S.cmp (c:=.le ((a.sub b).aw 1)) (uy 1 (nW ba bb)) (by simp only [Cnd.ev,jN,hJ]; grind))
 | leq=>exact pure h (by simp [g8] <;> rfl) (S.cmp (c:=.le (a.sub b)) (nW ba bb) (by simp only [Cnd.ev,hJ]; grind))
 | gtr=>exact pure h (by simp [g8] <;> rfl) (S.cmp (c:=.le ((b.sub a).aw 1)) (uy 1 (nW bb ba)) (by simp only [Cnd.ev,jN,hJ]; grind))
 | geq=>exact pure h (by simp [g8] <;> rfl) (S.cmp (c:=.le (b.sub a)) (nW bb ba) (by simp only [Cnd.ev,hJ]; grind))
 | _=>cases h
theorem zaW{a b:Nat}(h:a<=b):(2:Int) ^ a<=2 ^ b:=by
 have:=Nat.pow_le_pow_right (show 0<2 by decide) h;have e:∀ n:Nat,(2:Int) ^ n=((2 ^ n:Nat):Int):=λn=>by simp
 rw [e,e]; omega
theorem PR(a:Nat):(0:Int)<2 ^ a:=by
 have:=Nat.two_pow_pos a
 grind
theorem Yj(S:Sat s W Z){k':IntKind}{a b:Lin}{la ha lb hb:Int}(h1:la<=a.ev W)(h2:a.ev W<=ha)(h3:lb<=b.ev W)(h4:b.ev W<=hb)
  (h:V9 s op k a b la ha lb hb=some (s',r)):Num s s' W Z r (g8 op (.int k (a.ev W)) (.int k' (b.ev W))):=by
 unfold V9 at h;split at h
 ·cases h
 ·rename_i hb0;have hb0:=D3 hb0;have hn:¬ b.ev W<0:=by omega
  split at h
  ·have hv:g8 .shl (.int k (a.ev W)) (.int k' (b.ev W))=some (.int k (k.wrap (a.ev W*2 ^ (min (b.ev W).toNat k.bits)))):=by simp [g8,hn]
   rw [hv];split at h
   ·rename_i hk;have hk:=D3 hk;cases h;refine ⟨W,_,rfl,S,.refl,GO (Int.mul_nonneg (by omega) (Wch (PR _))) ?_⟩;exact Int.mul_le_mul h2 (zaW (by omega)) (Wch (PR _)) (by omega)
   ·cases h; exact ⟨W,_,rfl,S,.refl,sK k _⟩
  ·have hv:g8 .shr (.int k (a.ev W)) (.int k' (b.ev W))=some (.int k ((a.ev W).fdiv (2 ^ (min (b.ev W).toNat k.bits)))):=by simp [g8,hn]
   rw [hv];have hp:=PR (min (b.ev W).toNat k.bits);have hf:(a.ev W).fdiv (2 ^ (min (b.ev W).toNat k.bits))=a.ev W / (2 ^ (min (b.ev W).toNat k.bits)):=Wct _ (Wch hp);split at h
   ·rename_i hk;have hk:=D3 hk;cases h;refine ⟨W,_,rfl,S,.refl,.iv _ _ _ _ ?_⟩;have hp0:=PR (min lb.toNat k.bits);rw [hf,Wct _ (Wch hp0)];refine ⟨Wco (by omega) (Wch hp),?_⟩;have q1:a.ev W / (2 ^ (min (b.ev W).toNat k.bits))<=a.ev W / (2 ^ (min lb.toNat k.bits)):=by
     rw [Wcv hp0];have m1:=Wcm (x:=a.ev W) (k:=2 ^ (min (b.ev W).toNat k.bits)) (by omega);have m2:=Wcf (zaW (show min lb.toNat k.bits<=min (b.ev W).toNat k.bits by omega)) (Wco (show 0<=a.ev W by omega) (Wch hp));rw [Wcq] at m1;omega
    have q2:a.ev W / (2 ^ (min lb.toNat k.bits))<=ha / (2 ^ (min lb.toNat k.bits)):=Int.ediv_le_ediv hp0 h2;omega
   ·rename_i hk;have hk:=ziH hk;cases h;refine ⟨W,_,rfl,S,.refl,.iv _ _ _ _ ?_⟩;rw [hf];have m1:=Wcm (x:=a.ev W) (k:=2 ^ (min (b.ev W).toNat k.bits)) (by omega);have m2:=Wcu (x:=a.ev W) hp;have mx:=GG ha 0;by_cases h0:0<=a.ev W
    ·have:=Wco h0 (Wch hp);have:=Int.ediv_le_self (2 ^ (min (b.ev W).toNat k.bits)) h0;omega
    ·refine ⟨?_,?_⟩
     ·rw [Wcv hp];have:la*2 ^ (min (b.ev W).toNat k.bits)<=la*1:=Wcn (by omega) (by omega);omega
     ·have:a.ev W / 2 ^ (min (b.ev W).toNat k.bits)<0:=Int.ediv_neg_of_neg_of_pos (by omega) hp;omega
  ·cases h
end
end
section
variable {N:Nat}{v:V}{es:Ls}
section
variable {s s' s1:SS} {W ρ' ρ1:Nat->Int} {Z:St}
theorem zbe{e:Lin}(F:Fct s.fs W)(B:Bnd s.iv W):∀ (fs:List Lin) (acc:Option Int),(∀ f∈fs,f.ev W<=0)->(∀ h,acc=some h->e.ev W<=h)->∀ h,fs.foldl (λacc f=>match Wq e.t f.t with
  | some m=>match (match leI 0 m with | true=>(e.sub (f.mul m)).ub s.iv | false=>none),acc with
   | some h,some h'=>some (m9 h h')
   | some h,none=>some h
   | none,acc=>acc
  | none=>acc) acc=some h->e.ev W<=h
 | [],acc,_,ha,h,e=>ha h e
 | f::fs,acc,hf,ha,h,hh=>by
  rw [List.foldl_cons] at hh;refine zbe F B fs _ (λg hg=>hf g (by simp [hg])) (λh1 e1=>?_) h hh;split at e1
  ·rename_i m _;split at e1
   ·rename_i h2 h3 e2;cases e1;split at e2
    ·rename_i hm;have q1:=vl B e2;have q2:=zao (e:=e) (ja hm) (hf f (by simp));have q3:=ha _ rfl;rcases (C0 h2 h3).2.2 with m | m <;> rw [m] <;> omega
    ·cases e2
   ·rename_i h2 e2;cases e1;split at e2
    ·rename_i hm;have q1:=vl B e2;have q2:=zao (e:=e) (ja hm) (hf f (by simp));omega
    ·cases e2
   ·exact ha _ e1
  ·exact ha _ e1
theorem Sat.ubF(S:Sat s W Z){e:Lin}{h:Int}(hh:ubF s e=some h):e.ev W<=h:=zbe S.fct S.bnd s.fs _ S.fct (λh1 e1=>vl S.bnd e1) h hh
theorem Sat.lbF(S:Sat s W Z){e:Lin}{h:Int}(hh:lbF s e=some h):h<=e.ev W:=by
 simp [Go.Proofs.YtipklgbboecciaaGreat.lbF] at hh;obtain ⟨r,hh,rfl⟩:=hh;have:=S.ubF hh;rw [pZ] at this; omega
def D7(s s':SS)(W:Nat->Int)(Z:St)(a:A)(v:Option V):Prop:=∃ ρ' u,v=some u/\Sat s' ρ' Z/\Ext s s' W ρ'/\G s'.iv.length ρ' a u
theorem zcV(v:Value):G N W (zhQ (.sc v)) (.sc v):=by
 cases v with
 | int k n=>
  have:=G.int (N:=N) (W:=W) k (.lit n) (nC n)
  rwa [iO] at this
 | _=>exact .ex _
theorem zcp{x:Src}(S:Sat s W Z)(h:D9 (s.src x)=true):∃ b,x.get Z=.sc (.string b):=YC h (S.src x)
theorem zi3(S:Sat s W Z){op:BinOp}{x y:Src}{r:A}(h:zho s op x y=some (s',r)):D7 s s' W Z r (cJ Z (.bin op x y)):=by
 unfold zho at h;split at h
 ·rename_i s1 k a h1;obtain ⟨ρ1,S1,E1,g1,b1⟩:=S.int h1;split at h
  ·rename_i s2 k' b h2;obtain ⟨ρ2,S2,E2,g2,b2⟩:=S1.int h2;have e1:a.ev ρ2=a.ev ρ1:=E2.ev b1;have b1':=E2.bd b1;have hp:cJ Z (.bin op x y)=(g8 op (.int k (a.ev ρ2)) (.int k' (b.ev ρ2))).map .sc:=by
    simp [cJ,g1,g2,e1]
   rw [hp];split at h
   ·rename_i n m hn hm;simp only [Wag] at h;obtain ⟨v,hv,h⟩:=h;cases h;rw [lit?_ok (W:=ρ2) hn,lit?_ok (W:=ρ2) hm,hv];exact ⟨ρ2,_,rfl,S2,E1.trans E2,zcV v⟩
   ·split at h
    ·rename_i la ha lb hb q1 q2 q3 q4;have fin:Num s2 s' ρ2 Z r (g8 op (.int k (a.ev ρ2)) (.int k' (b.ev ρ2)))->D7 s s' W Z r ((g8 op (.int k (a.ev ρ2)) (.int k' (b.ev ρ2))).map .sc):=by
      rintro ⟨ρ3,u,e,S3,E3,g⟩
      rw [e];exact ⟨ρ3,_,rfl,S3,(E1.trans E2).trans E3,g⟩
     split at h
     ·exact fin (Yj S2 (S2.lbF q1) (S2.ubF q2) (S2.lbF q3) (S2.ubF q4) h)
     ·exact fin (Yj S2 (S2.lbF q1) (S2.ubF q2) (S2.lbF q3) (S2.ubF q4) h)
     ·split at h
      ·rename_i hk;obtain rfl:=of_decide_eq_true hk;exact fin (zfp S2 b1' b2 (S2.lbF q1) (S2.ubF q2) (S2.lbF q3) (S2.ubF q4) h)
      ·cases h
    ·cases h
  ·cases h
 ·split at h
  ·rename_i hs;simp only [WaG] at hs;obtain ⟨p,hp⟩:=zcp S hs.1;obtain ⟨q,hq⟩:=zcp S hs.2;split at h
   ·cases h;exact ⟨W,_,by simp only [cJ,hp,hq,g8]; rfl,S,.refl,.bool _⟩
   ·cases h;exact ⟨W,_,by simp only [cJ,hp,hq,g8]; rfl,S,.refl,.bool _⟩
   ·cases h;exact ⟨W,_,by simp only [cJ,hp,hq,g8]; rfl,S,.refl,.bool _⟩
   ·cases h
  ·cases h
theorem Sat.up(S:Sat s W Z){a j:A}(h:s.up a j=true)(g:G s.iv.length W a v):G N ρ' j v:=VB S.bnd S.fct (Thm.none W ρ' N) 12 h g
theorem Sat.upL(S:Sat s W Z){av js:List A}{vs:List V}(h:lY (leA 0 s [] 12) av js=true)(g:GL s.iv.length W av vs):GL N ρ' js vs:=
 All2.trans (S:=λa b=>leA 0 s [] 12 a b=true) (T:=G N ρ') (λa b c h3 h4=>VB S.bnd S.fct (Thm.none W ρ' N) 12 h4 h3) g (Dj h)
theorem wX{N:Nat}{sz:Nat}:∀ {n:Nat} {cs:List A} {vs:List V},GL N W cs vs->All2 (GL N W) (pP sz n cs) (bY sz n vs)
 | 0,_,_,_=>.nil
 | n+1,cs,vs,h=>.cons (h.take sz) (wX (h.drop sz))
theorem tc{q sz:Nat}{rows:List (List A)}(h:All2 (GL N W) rows es):G N W (.am q sz rows) (mkL q sz es):=
 .am _ _ _ _ h.1 (λj x y h1 h2=>(h.2 j x y h1 h2).1) (λj x y h1 h2=>(h.2 j x y h1 h2).2)
theorem NH{q sz:Nat}{n:Lin}{row:List A}(hn:n.bd N)(hl:(es.length:Int)=n.ev W)(h:∀ r∈es,GL N W row r):G N W (.ak q sz n row) (mkL q sz es):=
 .ak _ _ _ _ _ hn hl (λr hr=>(h r hr).1) (λr hr=>(h r hr).2)
theorem TF{sz:Nat}:∀ {n:Nat} {vs:List V} {r:List V},r∈bY sz n vs->∃ i,i<n/\r=(vs.drop (i*sz)).take sz
 | 0,_,_,h=>by cases h
 | n+1,vs,r,h=>by
  rcases WbL.1 h with rfl | h
  ·exact ⟨0,by omega,by simp⟩
  ·obtain ⟨i,hi,rfl⟩:=TF h;refine ⟨i+1,by omega,?_⟩;rw [Wcr]
   grind
theorem T4(sz:Nat):∀ (n:Nat) (vs:List V),(bY sz n vs).length=n
 | 0,_=>rfl
 | n+1,vs=>by simp [bY,T4 sz n]
theorem G9(S:Sat s W Z){a b:A}(g:G s.iv.length W a v)(h:Iu s a=some b):∃ u,i4 Z.b v=some u/\G s.iv.length W b u:=by
 have ax:∀ {id:Nat} {p:Bool} {cs:List A},(s.b[id]?=some (.live true cs)∨s.b[id]?=some (.fz cs))->∃ vs,((Z.b[id]?).getD .gone).cs?=some vs/\GL s.iv.length W cs vs:=by
  intro id p cs hb;rcases hb with hb | hb
  ·obtain ⟨x,hx,gx⟩:=S.bs.get hb;cases gx with
   | live p cs vs h=>exact ⟨vs,by rw [hx]; rfl,h⟩
  ·obtain ⟨x,hx,gx⟩:=S.bs.get hb;cases gx with
   | fz cs vs h=>exact ⟨vs,by rw [hx]; rfl,h⟩
 unfold Iu at h;split at h
 ·rename_i id o m sz;cases g with
  | own _ _ _ off len _ ho hm hh hh'=>
   have key:∀ {cs:List A} {o' n':Int},o.lit?=some o'->m.lit?=some n'->(∃ vs,((Z.b[id]?).getD .gone).cs?=some vs/\GL s.iv.length W cs vs)->b=.am 0 sz (pP sz n'.toNat (cs.drop o'.toNat))->∃ u,i4 Z.b (.own id off len sz)=some u/\G s.iv.length W b u:=by
    rintro cs o' n' e1 e2 ⟨vs,q1,q2⟩ rfl
    have e1:=lit?_ok (W:=W) e1; have e2:=lit?_ok (W:=W) e2;have f1:o'.toNat=off:=by omega
    have f2:n'.toNat=len:=by omega
    refine ⟨.sl sz (bY sz len (vs.drop off)),by grind [i4],?_⟩;rw [f1,f2];exact tc (q:=0) (wX (q2.drop off))
   have key2:∀ {cs:List A} {o' h':Int},Nat.beq sz 1=true->o.lb s.iv=some o'->(o.add m).ub s.iv=some h'->leI h' cs.length=true->lm (λc=>s.up c (wy s cs)) cs=true->(∃ vs,((Z.b[id]?).getD .gone).cs?=some vs/\GL s.iv.length W cs vs)->b=.ak 0 1 m [wy s cs]->∃ u,i4 Z.b (.own id off len sz)=some u/\G s.iv.length W b u:=by
    rintro cs o' h' e1 e2 e3 e4 e5 ⟨vs,q1,q2⟩ rfl
    obtain rfl:=Wao e1;have e3:=vl S.bnd e3;have e4:=ja e4;rw [Ci,hh,hh'] at e3;refine ⟨.sl 1 (bY 1 len (vs.drop off)),by grind [i4],?_⟩;refine NH (q:=0) hm (by rw [T4,hh']) (λr hr=>?_);obtain ⟨i,hi,rfl⟩:=TF hr;have hlt:off+i<vs.length:=by rw [<- q2.1]; omega
    have e6:((vs.drop off).drop (i*1)).take 1=[vs[off+i]]:=by
     rw [Wcr,Nat.mul_one,List.drop_eq_getElem_cons hlt]; rfl
    rw [e6];have hlt':off+i<cs.length:=by rw [q2.1]; exact hlt
    refine .cons (S.up (lQ e5 _ (WaV hlt')) (q2.2 (off+i) _ _ (Wac hlt') (Wac hlt))) .nil
   split at h
   ·rename_i o' n' e1 e2;split at h
    ·rename_i cs hb;split at h
     ·cases h; exact key e1 e2 (ax (p:=true) (.inl hb)) rfl
     ·cases h
    ·rename_i cs hb;split at h
     ·cases h; exact key e1 e2 (ax (p:=true) (.inr hb)) rfl
     ·cases h
    ·cases h
   ·split at h
    ·rename_i cs hb;split at h
     ·rename_i l o' h' e1 e2 e3 e4;split at h
      ·rename_i hc;simp only [WaG] at hc;cases h; exact key2 e1 e3 e4 hc.2.2.1 hc.2.2.2 (ax (p:=true) (.inl hb)) rfl
      ·cases h
     ·cases h
    ·rename_i cs hb;split at h
     ·rename_i l o' h' e1 e2 e3 e4;split at h
      ·rename_i hc;simp only [WaG] at hc;cases h; exact key2 e1 e3 e4 hc.2.2.1 hc.2.2.2 (ax (p:=true) (.inr hb)) rfl
      ·cases h
     ·cases h
    ·cases h
 ·cases h;cases g with
  | ak _ _ _ _ es hn hl hr hh=>exact ⟨.sl _ es,rfl,.ak 0 _ _ _ es hn hl hr hh⟩
 ·cases h;cases g with
  | ai _ _ _ _ _ es hl hr hh=>exact ⟨.sl _ es,rfl,.ai 0 _ _ _ _ es hl hr hh⟩
 ·cases h;cases g with
  | am _ _ _ es hl hr hh=>exact ⟨.sl _ es,rfl,.am 0 _ _ es hl hr hh⟩
 ·split at h
  ·cases h
  ·cases h
  ·rename_i n1 n2;cases h;cases g;refine ⟨_,?_,.ex _⟩;cases v with
   | own id off len sz=>exact absurd rfl (n1 _ _ _ _)
   | gs sz es=>exact absurd rfl (n2 _ _)
   | _=>rfl
 ·cases h
 ·rename_i n1 n2 n3 n4 n5 n6;cases h;refine ⟨v,?_,g⟩;have qs:∀ {q sz:Nat} {es:Ls},q≠1->i4 Z.b (mkL q sz es)=some (mkL q sz es):=by
   intro q sz es hq;unfold mkL;split
   ·rfl
   ·exact absurd rfl hq
   ·rfl
  cases g with
  | ex v=>exact absurd rfl (n5 _)
  | any v=>exact absurd rfl n6
  | own=>exact absurd rfl (n1 _ _ _ _)
  | ak q sz n row es _ _ _ _=>exact qs (λe=>by subst e; exact n2 _ _ _ rfl)
  | ai q sz lo hi row es _ _ _=>exact qs (λe=>by subst e; exact n3 _ _ _ _ rfl)
  | am q sz rows es _ _ _=>exact qs (λe=>by subst e; exact n4 _ _ rfl)
  | _=>rfl
theorem Sat.intO(S:Sat s W Z){x:Option Src}{d e:Lin}(hd:d.bd s.iv.length)(h:s.intO x d=some (s',e)):∃ ρ',Sat s' ρ' Z/\Ext s s' W ρ'/\e.bd s'.iv.length/\((x=none/\e.ev ρ'=d.ev W)∨∃ y k,x=some y/\y.get Z=.sc (.int k (e.ev ρ'))):=by
 unfold SS.intO at h;split at h
 ·cases h; exact ⟨W,S,.refl,hd,.inl ⟨rfl,rfl⟩⟩
 ·split at h
  ·rename_i y _ s1 k e1 hi;cases h;obtain ⟨ρ1,S1,E1,g1,b1⟩:=S.int hi
   grind
  ·cases h
theorem Sw{x:Option Src}{d most:Nat}{e:Int}(h:(x=none/\e=d)∨∃ y k,x=some y/\y.get Z=.sc (.int k e))(h0:0<=e)(h1:e<=most):pp Z x d most=some e.toNat:=by
 rcases h with ⟨rfl,rfl⟩ | ⟨y,k,rfl,hy⟩
 ·rfl
 ·simp only [pp,hy,V.int?]; rw [if_pos ⟨h0,h1⟩]
theorem Sat.bounds(S:Sat s W Z){n l h m:Lin}{lo hi mx:Option Src}(hn:n.bd s.iv.length){len:Nat}(hlen:(len:Int)=n.ev W)(hh:s.bounds n lo hi mx=some (s',l,h,m)) :
  ∃ ρ' l' h' m',Sat s' ρ' Z/\Ext s s' W ρ'/\j1 Z len lo hi mx=some (l',h',m')/\l.ev ρ'=(l':Nat)/\h.ev ρ'=(h':Nat)/\m.ev ρ'=(m':Nat)/\l'<=h'/\h'<=m'/\m'<=len/\l.bd s'.iv.length/\h.bd s'.iv.length/\m.bd s'.iv.length:=by
 unfold SS.bounds at hh;split at hh
 ·cases hh
 rename_i s1 m1 e1;obtain ⟨ρ1,S1,E1,b1,c1⟩:=S.intO hn e1;split at hh
 ·cases hh
 rename_i s2 h2 e2;obtain ⟨ρ2,S2,E2,b2,c2⟩:=S1.intO (E1.bd hn) e2;split at hh
 ·cases hh
 rename_i s3 l3 e3;obtain ⟨ρ3,S3,E3,b3,c3⟩:=S2.intO (nC 0) e3;split at hh
 ·rename_i hc;cases hh;simp [SS.btw] at hc;obtain ⟨⟨q1,q2⟩,q3,q4⟩:=hc;have q1:=S3.le q1; have q2:=S3.le q2; have q3:=S3.le q3; have q4:=S3.le q4;rw [hJ] at q1 q2 q3 q4;rw [iO] at q1;have t2:h.ev ρ3=h.ev ρ2:=E3.ev b2;have b1':=E2.bd b1;have t1:m.ev ρ3=m.ev ρ1:=by rw [E3.ev b1',E2.ev b1]
  have tn:n.ev ρ3=len:=by rw [E3.ev (E2.bd (E1.bd hn)),E2.ev (E1.bd hn),E1.ev hn,hlen]
  have em:pp Z mx len len=some (m.ev ρ3).toNat:=by
   grind [Sw]
  have eh:pp Z hi len (m.ev ρ3).toNat=some (h.ev ρ3).toNat:=by
   grind [Ext.ev,Sw]
  have el:pp Z lo 0 (h.ev ρ3).toNat=some (l.ev ρ3).toNat:=by
   grind [Sw,iO]
  refine ⟨ρ3,(l.ev ρ3).toNat,(h.ev ρ3).toNat,(m.ev ρ3).toNat,S3,(E1.trans E2).trans E3,?_,by omega,by omega,by omega,by omega,by omega,by omega,b3,E3.bd b2,E3.bd b1'⟩;simp only [j1,em,eh,el,Wab,Wbz,Option.pure_def]
 ·cases hh
end
end
section
variable {a:A}{v:V}
section
variable {N:Nat} {W:Nat->Int}
theorem G.ag(g:G N W a v):G N W a.ag v.ag:=by
 cases g with
 | ex v=>exact .ex _
 | int k e h=>exact .int k e h
 | iv k lo hi n h=>exact .iv k lo hi n h
 | cmp c h=>exact .cmp c h
 | bool b=>exact .bool b
 | str s=>exact .str s
 | agg cs vs hl h=>exact .agg cs vs hl h
 | st cs vs hl h=>exact .st cs vs hl h
 | ae cs vs hl h=>
  cases cs with
  | nil=>cases vs with
   | nil=>exact .ex _
   | cons _ _=>simp at hl
  | cons c cs=>cases vs with
   | nil=>simp at hl
   | cons v vs=>exact .ex _
 | bx p cs vs hl h=>exact .ex _
 | fp cs n vs hn hl h=>exact .fp cs n vs hn hl h
 | ak q sz n row es hn hl hr h=>
  cases q with
  | zero=>exact .ak 0 _ _ _ es hn hl hr h
  | succ q=>cases q with
   | zero=>exact .ak 0 _ _ _ es hn hl hr h
   | succ q=>exact .ex _
 | ai q sz lo hi row es hl hr h=>
  cases q with
  | zero=>exact .ai 0 _ _ _ _ es hl hr h
  | succ q=>cases q with
   | zero=>exact .ai 0 _ _ _ _ es hl hr h
   | succ q=>exact .ex _
 | am q sz rows es hl hr h=>
  cases q with
  | zero=>exact .am 0 _ _ es hl hr h
  | succ q=>cases q with
   | zero=>exact .am 0 _ _ es hl hr h
   | succ q=>exact .ex _
 | ptr id o off ho h=>exact .ptr id o off ho h
 | own id o m off len sz ho hm h h'=>exact .own id o m off len sz ho hm h h'
 | any v=>exact .any _
theorem lV{b:A}(g:G N W a v)(h:a.plain=some b):∃ u,v.plain=some u/\G N W b u/\GL N W b.cells u.cells:=by
 have one:∀ {b:A} {u:V},(∀ cs,b≠.agg cs)->(∀ cs,u≠.agg cs)->G N W b u->GL N W b.cells u.cells:=by
  intro b u h1 h2 g;have e1:b.cells=[b]:=by unfold A.cells; grind
  have e2:u.cells=[u]:=by unfold V.cells; grind
  rw [e1,e2]; exact .cons g .nil
 have fin:∀ {u:V},some b=some b->v.plain=some u->(∀ cs,b≠.agg cs)->(∀ cs,u≠.agg cs)->G N W b u->∃ u,v.plain=some u/\G N W b u/\GL N W b.cells u.cells:=λ_ h1 h2 h3 h4=>⟨_,h1,h4,one h2 h3 h4⟩;cases g with
 | ex v=>
  simp only [A.plain] at h;split at h
  ·cases h; exact fin rfl rfl (λ_ h=>by cases h) (λ_ h=>by cases h) (.ex _)
  ·cases h
 | int k e hb=>cases h; exact fin rfl rfl (λ_ h=>by cases h) (λ_ h=>by cases h) (.int k e hb)
 | iv k lo hi n hb=>cases h; exact fin rfl rfl (λ_ h=>by cases h) (λ_ h=>by cases h) (.iv k lo hi n hb)
 | cmp c hb=>cases h; exact fin rfl rfl (λ_ h=>by cases h) (λ_ h=>by cases h) (.cmp c hb)
 | bool b=>cases h; exact fin rfl rfl (λ_ h=>by cases h) (λ_ h=>by cases h) (.bool b)
 | str s=>cases h; exact fin rfl rfl (λ_ h=>by cases h) (λ_ h=>by cases h) (.str s)
 | agg cs vs hl hh=>cases h; exact ⟨_,rfl,.agg cs vs hl hh,⟨hl,hh⟩⟩
 | ak q sz n row es hn hl hr hh=>
  simp only [A.plain] at h;split at h
  ·cases h; exact fin (u:=.sl sz es) rfl rfl (λ_ h=>by cases h) (λ_ h=>by cases h) (.ak 0 _ _ _ es hn hl hr hh)
  ·cases h; exact fin (u:=.sl sz es) rfl rfl (λ_ h=>by cases h) (λ_ h=>by cases h) (.ak 0 _ _ _ es hn hl hr hh)
  ·cases h
 | ai q sz lo hi row es hl hr hh=>
  simp only [A.plain] at h;split at h
  ·cases h; exact fin (u:=.sl sz es) rfl rfl (λ_ h=>by cases h) (λ_ h=>by cases h) (.ai 0 _ _ _ _ es hl hr hh)
  ·cases h; exact fin (u:=.sl sz es) rfl rfl (λ_ h=>by cases h) (λ_ h=>by cases h) (.ai 0 _ _ _ _ es hl hr hh)
  ·cases h
 | am q sz rows es hl hr hh=>
  simp only [A.plain] at h;split at h
  ·cases h; exact fin (u:=.sl sz es) rfl rfl (λ_ h=>by cases h) (λ_ h=>by cases h) (.am 0 _ _ es hl hr hh)
  ·cases h; exact fin (u:=.sl sz es) rfl rfl (λ_ h=>by cases h) (λ_ h=>by cases h) (.am 0 _ _ es hl hr hh)
  ·cases h
 | _=>cases h
theorem zi2{b:A}(g:G N W a v)(h:a.aN=some b):∃ u,v.aN=some u/\G N W b u/\GL N W b.cells u.cells:=by
 cases g with
 | own id o m off len sz ho hm h1 h2=>cases h; exact ⟨_,rfl,.own id o m off len sz ho hm h1 h2,.cons (.own id o m off len sz ho hm h1 h2) .nil⟩
 | ak q sz n row es hn hl hr hh=>
  obtain ⟨u,h1,h2⟩:=lV (.ak q sz n row es hn hl hr hh) h;refine ⟨u,?_,h2⟩;rw [<- h1]; unfold mkL; split <;> rfl
 | ai q sz lo hi row es hl hr hh=>
  obtain ⟨u,h1,h2⟩:=lV (.ai q sz lo hi row es hl hr hh) h;refine ⟨u,?_,h2⟩;rw [<- h1]; unfold mkL; split <;> rfl
 | am q sz rows es hl hr hh=>
  obtain ⟨u,h1,h2⟩:=lV (.am q sz rows es hl hr hh) h;refine ⟨u,?_,h2⟩;rw [<- h1]; unfold mkL; split <;> rfl
 | ex v=>
  obtain ⟨u,h1,h2⟩:=lV (N:=N) (W:=W) (.ex v) h;refine ⟨u,?_,h2⟩;simp [A.aN,A.plain] at h;split at h
  ·rw [<- h1]; rfl
  ·cases h
 | any v=>cases h
 | int k e hb=>exact lV (.int k e hb) h
 | iv k lo hi n hb=>exact lV (.iv k lo hi n hb) h
 | cmp c hb=>exact lV (.cmp c hb) h
 | bool b=>exact lV (.bool b) h
 | str s=>exact lV (.str s) h
 | agg cs vs hl hh=>exact lV (.agg cs vs hl hh) h
 | st cs vs hl hh=>cases h
 | ae cs vs hl hh=>cases h
 | bx p cs vs hl hh=>cases h
 | fp cs n vs hn hl hh=>cases h
 | ptr id o off ho hh=>cases h
theorem tp{cs:List A}{vs:List V}{new:List A}{nv:List V}(h:GL N W cs vs)(h':GL N W new nv)(off:Nat):GL N W (ui cs off new) (cq vs off nv):=by
 unfold ui cq;rw [<- h'.1];exact ((h.take off).append h').append (h.drop _)
end
section
variable {s s':SS} {W ρ':Nat->Int} {Z:St}
theorem Sat.fill(S:Sat s W Z):∀ {ps:List (Nat × Nat × Src)} {cs cs':List A} {vs:List V},GL s.iv.length W cs vs->Us s ps cs=some cs'->∃ vs',kF Z ps vs=some vs'/\GL s.iv.length W cs' vs'
 | [],cs,cs',vs,g,h=>by cases h; exact ⟨vs,rfl,g⟩
 | (off,n,x)::ps,cs,cs',vs,g,h=>by
  unfold Us at h;split at h
  ·rename_i b hb;obtain ⟨u,h1,h2,h3⟩:=lV (S.src x) hb;split at h
   ·rename_i hc;simp only [WaG] at hc;have c1:=Wao hc.1; have c2:=lR hc.2;obtain ⟨vs',h4,h5⟩:=S.fill (tp g h3 off) h;refine ⟨vs',?_,h5⟩;simp only [kF,h1,Wab,Wbz];rw [if_pos ⟨by rw [<- h3.1]; exact c1,by rw [<- g.1]; exact c2⟩]; exact h4
   ·cases h
  ·cases h
theorem Sat.fillR(S:Sat s W Z):∀ {ps:List (Nat × Nat × Src)} {cs cs':List A} {vs:List V},GL s.iv.length W cs vs->VJ s ps cs=some cs'->∃ vs',nj Z ps vs=some vs'/\GL s.iv.length W cs' vs'
 | [],cs,cs',vs,g,h=>by cases h; exact ⟨vs,rfl,g⟩
 | (off,n,x)::ps,cs,cs',vs,g,h=>by
  unfold VJ at h;split at h
  ·rename_i b hb;obtain ⟨u,h1,h2,h3⟩:=zi2 (S.src x) hb;split at h
   ·rename_i hc;simp only [WaG] at hc;have c1:=Wao hc.1; have c2:=lR hc.2;obtain ⟨vs',h4,h5⟩:=S.fillR (tp g h3 off) h;refine ⟨vs',?_,h5⟩;simp only [nj,h1,Wab,Wbz];rw [if_pos ⟨by rw [<- h3.1]; exact c1,by rw [<- g.1]; exact c2⟩]; exact h4
   ·cases h
  ·cases h
theorem Sat.ak(S:Sat s W Z){x:Src}{a:A}(h:s.ak x=some (s',a)):∃ ρ',Sat s' ρ' Z/\Ext s s' W ρ'/\G s'.iv.length ρ' a (x.get Z):=by
 unfold SS.ak at h;split at h
 ·cases h; exact ⟨W,S,.refl,Yd _⟩
 ·rename_i t;split at h
  ·rename_i q sz lo hi row ht;split at h
   ·cases h;obtain ⟨v,hv,g⟩:=S.ts.get ht;cases g;rename_i es hl hr hh;obtain ⟨S1,E⟩:=S.sym hl;have hb:(Lin.sy s.iv.length).bd (s.sym lo hi).iv.length:=D2 (by simp [SS.sym]);have he:(Lin.sy s.iv.length).ev (kN W s.iv.length es.length)=es.length:=by rw [vc,oP]
    have g':G (s.sym lo hi).iv.length (kN W s.iv.length es.length) (.ak q sz (.sy s.iv.length) row) (mkL q sz es):=.ak _ _ _ _ es hb he.symm hr (λr hr' i a v h1 h2=>E.g (hh r hr' i a v h1 h2));refine ⟨kN W s.iv.length es.length,?_,⟨E.le,E.eq⟩,by rw [show (Src.tmp t).get Z=mkL q sz es from by grind [Src.get]]; exact g'⟩;refine S1.retell (t:=t) (a:=.ak q sz (.sy s.iv.length) row) (λv' hv'=>?_);rw [hv] at hv'; cases hv'; exact g'
   ·cases h
  ·rename_i a' _ ht;cases h;obtain ⟨v,hv,g⟩:=S.ts.get ht;exact ⟨W,S,.refl,by rw [show (Src.tmp t).get Z=v from by grind [Src.get]]; exact g⟩
  ·cases h
theorem Sat.name(S:Sat s W Z)(x:Src):∃ ρ',Sat (s.name x) ρ' Z/\Ext s (s.name x) W ρ':=by
 unfold SS.name;split
 ·exact ⟨W,S,.refl⟩
 ·rename_i t;split
  ·rename_i k lo hi ht;obtain ⟨v,hv,g⟩:=S.ts.get ht;cases g;rename_i n hn;obtain ⟨S1,E⟩:=S.sym hn;have hb:(Lin.sy s.iv.length).bd (s.sym lo hi).iv.length:=D2 (by simp [SS.sym]);have he:(Lin.sy s.iv.length).ev (kN W s.iv.length n)=n:=by rw [vc,oP]
   refine ⟨kN W s.iv.length n,S1.retell (t:=t) (a:=.int k (.sy s.iv.length)) (λv' hv'=>?_),⟨E.le,E.eq⟩⟩;rw [hv] at hv'; cases hv';have:=G.int (W:=kN W s.iv.length n) k _ hb
   rwa [he] at this
  ·rename_i q sz lo hi row ht;split
   ·obtain ⟨v,hv,g⟩:=S.ts.get ht;cases g;rename_i es hl hr hh;obtain ⟨S1,E⟩:=S.sym hl;have hb:(Lin.sy s.iv.length).bd (s.sym lo hi).iv.length:=D2 (by simp [SS.sym]);have he:(Lin.sy s.iv.length).ev (kN W s.iv.length es.length)=es.length:=by rw [vc,oP]
    refine ⟨kN W s.iv.length es.length,S1.retell (t:=t) (a:=.ak q sz (.sy s.iv.length) row) (λv' hv'=>?_),⟨E.le,E.eq⟩⟩;rw [hv] at hv'; cases hv';exact .ak _ _ _ _ es hb he.symm hr (λr hr' i a v h1 h2=>E.g (hh r hr' i a v h1 h2))
   ·exact ⟨W,S,.refl⟩
  ·exact ⟨W,S,.refl⟩
theorem Sat.rowsUp(S:Sat s W Z){q sz:Nat}{l h:Int}{es:Ls}(i:IsL s.iv.length W a q sz l h es){row:List A}(hc:lm (λr'=>lY (leA 0 s [] 12) r' row) (lh a)=true){N:Nat}:∀ r∈es,GL N ρ' row r:=λr hr=>by
 obtain ⟨row',h1,h2⟩:=i.rows r hr
 grind [Sat.upL,lQ]
theorem NU:∀ {av bs:List A} {vs ws:List V} {N:Nat} {W:Nat->Int},IA av bs=true->GL N W av vs->GL N W bs ws->∃ r,j5 vs ws=some r
 | [],[],vs,ws,_,_,_,h1,h2=>by
  cases vs with
  | nil=>cases ws with
   | nil=>exact ⟨true,rfl⟩
   | cons _ _=>have:=h2.1; simp at this
  | cons _ _=>have:=h1.1; simp at this
 | a::av,b::bs,vs,ws,N,W,h,h1,h2=>by
  cases vs with
  | nil=>have:=h1.1; simp at this
  | cons v vs=>cases ws with
   | nil=>have:=h2.1; simp at this
   | cons w ws=>
    simp only [IA,WaG] at h;obtain ⟨r,hr⟩:=NU h.2 h1.tail h2.tail;have hk:=h.1;split at hk
    ·rename_i k k' e1 e2;obtain rfl:=of_decide_eq_true hk;obtain ⟨n,rfl⟩:=Lv e1 h1.head;obtain ⟨m,rfl⟩:=Lv e2 h2.head;exact ⟨_,by simp only [j5,if_true,hr,Option.map_some]; rfl⟩
    ·cases hk
 | [],_::_,_,_,_,_,h,_,_=>by cases h
 | _::_,[],_,_,_,_,h,_,_=>by cases h
end
end
section
variable {es:Ls}{N id:Nat}{a:A}{cs:List A}
section
variable {s s':SS} {W:Nat->Int} {Z:St}
theorem OJ:∀ {es:Ls},(∀ r∈es,∃ n,r=[.sc (.int .u8 n)])->∃ l,og es=some l
 | [],_=>⟨[],rfl⟩
 | r::es,h=>by
  obtain ⟨n,rfl⟩:=h r (by simp);obtain ⟨l,hl⟩:=OJ (es:=es) (λr hr=>h r (by simp [hr]))
  grind [og]
theorem LE{q sz:Nat}(h:Nat.beq q 0=true):mkL q sz es=.sl sz es:=by rw [Wao h]; rfl
theorem zbt{q sz:Nat}{p:A}{l h:Lin}(g:∀ {rows:List (List A)} {q sz:Nat},a=.am q sz rows->All2 (GL N W) rows es)(hp:Uf q sz a l h=some p){l' h':Nat}(hl:l.ev W=l')(hh:h.ev W=h'):G N W p (mkL q sz ((es.drop l').take (h'-l'))):=by
 unfold Uf at hp;split at hp
 ·split at hp
  ·rename_i rows n m e1 e2;cases hp;have e1:=lit?_ok (W:=W) e1; have e2:=lit?_ok (W:=W) e2;have f1:n.toNat=l':=by omega
   have f2:m.toNat=h':=by omega
   rw [f1,f2];exact tc (((g rfl).drop l').take (h'-l'))
  ·cases hp
 ·cases hp
theorem Dt{q sz:Nat}(g:G N W a (mkL q sz es)):∀ {rows:List (List A)} {q' sz':Nat},a=.am q' sz' rows->All2 (GL N W) rows es:=by
 intro rows q' sz' e;subst e;generalize hv:mkL q sz es=v at g;cases g with
 | am _ _ _ es' hl hr hh=>
  have:es=es':=by
   unfold mkL at hv
   grind
  subst this;exact ⟨hl,λj x y h1 h2=>⟨hr j x y h1 h2,hh j x y h1 h2⟩⟩
theorem ziD{vs:List V}(g:GL N W cs vs){m:Nat}(hn:cs.length<=m):G N W (.fp cs) (.fp m vs):=.fp _ _ _ hn (by rw [g.1]; exact Nat.le_refl _) g.2
theorem zjv{v:V}(g:G N W a v)(h:a.hard=false):v.isHard=false:=by
 cases g with
 | ex v=>exact h
 | bx p cs vs hl hh=>cases h
 | any v=>cases h
 | ak q sz n row es hn hl hr hh=>have:=NK h; exact (match q,this with | 0,_=>rfl | 1,_=>rfl)
 | ai q sz lo hi row es hl hr hh=>have:=NK h; exact (match q,this with | 0,_=>rfl | 1,_=>rfl)
 | am q sz rows es hl hr hh=>have:=NK h; exact (match q,this with | 0,_=>rfl | 1,_=>rfl)
 | _=>rfl
theorem pV(S:Sat s W Z){p:Bool}(h:s.b[id]?=some (.live p cs)):∃ vs,Z.b[id]?=some (.live p vs)/\GL s.iv.length W cs vs:=by
 obtain ⟨x,hx,g⟩:=S.bs.get h;cases g with
 | live p cs vs h=>exact ⟨vs,hx,h⟩
theorem zah(S:Sat s W Z)(h:s.b[id]?=some (.fz cs)):∃ vs,Z.b[id]?=some (.fz vs)/\GL s.iv.length W cs vs:=by
 obtain ⟨x,hx,g⟩:=S.bs.get h;cases g with
 | fz cs vs h=>exact ⟨vs,hx,h⟩
theorem jp{x:Src}(S:Sat s W Z)(h:s.src x=a):G s.iv.length W a (x.get Z):=by rw [<- h]; exact S.src x
theorem zik(S:Sat s W Z){k:K}(h:mf s k=some (s',a)):D7 s s' W Z a (cJ Z k):=by
 have ret:∀ {a':A} {u:V},some (s,a')=some (s',a)->cJ Z k=some u->G s.iv.length W a' u->D7 s s' W Z a (cJ Z k):=by
  intro a' u e1 e2 g; cases e1; exact ⟨W,u,e2,S,.refl,g⟩
 cases k with
 | pick c x y=>
  simp only [mf] at h;split at h
  ·rename_i t ht;have g:=jp S ht;generalize hv:c.get Z=v at g;cases g;cases t with
   | true=>exact ret h (u:=(x.get Z).ag) (by simp [cJ,hv,V.bool?]) (S.src x).ag
   | false=>exact ret h (u:=(y.get Z).ag) (by simp [cJ,hv,V.bool?]) (S.src y).ag
  ·split at h
   ·rename_i hb;obtain ⟨b,hb⟩:=Gt hb (S.src c);split at h
    ·rename_i hc;simp only [WaG] at hc;cases b with
     | true=>exact ret h (u:=(x.get Z).ag) (by simp [cJ,hb,V.bool?]) (S.up hc.1 (S.src x).ag)
     | false=>exact ret h (u:=(y.get Z).ag) (by simp [cJ,hb,V.bool?]) (S.up hc.2 (S.src y).ag)
    ·cases h
   ·cases h
 | build zero parts=>
  simp only [mf,Wag] at h;obtain ⟨cs,hcs,h⟩:=h;obtain ⟨vs,h1,h2⟩:=S.fill (ti zero) hcs;cases h;exact ⟨W,.agg vs,by simp [cJ,h1],S,.refl,.agg _ _ h2.1 h2.2⟩
 | az zero parts=>
  simp only [mf,Wag] at h;obtain ⟨cs,hcs,h⟩:=h;obtain ⟨vs,h1,h2⟩:=S.fillR (ti zero) hcs;cases h;exact ⟨W,.st vs,by simp [cJ,h1],S,.refl,.st _ _ h2.1 h2.2⟩
 | nilCheck x=>
  simp only [mf] at h;split at h
  ·rename_i id off hx;have g:=jp S hx;generalize hv:x.get Z=v at g;cases g with
   | ptr id off o ho hh=>exact ret h (by simp [cJ,hv]) (.ptr id off o ho hh)
  ·rename_i cs hx;have g:=jp S hx;generalize hv:x.get Z=v at g;cases g with
   | fp cs n vs hn hl hh=>exact ret h (by simp [cJ,hv]) (.fp cs n vs hn hl hh)
  ·cases h
 | bin op x y=>exact zi3 S h
 | aW neg n x y=>
  simp only [mf] at h;split at h
  ·rename_i av bs hx hy;have g:=jp S hx;have g':=jp S hy;generalize hv:x.get Z=v at g;generalize hw:y.get Z=w at g';cases g with
   | agg av vs hl hh=>cases g' with
    | agg bs ws hl' hh'=>
     split at h
     ·rename_i hc;simp only [WaG] at hc;have c1:=Wao hc.1; have c2:=Wao hc.2.1;obtain ⟨r,hr⟩:=NU hc.2.2 ⟨hl,hh⟩ ⟨hl',hh'⟩;refine ret h (by simp only [cJ,hv,hw]; rw [if_pos ⟨by omega,by omega⟩,hr]; rfl) (.bool _)
     ·cases h
  ·cases h
 | bH neg x y=>
  simp only [mf] at h;split at h
  ·rename_i p q hx hy;have g:=jp S hx;have g':=jp S hy;generalize hv:x.get Z=v at g;generalize hw:y.get Z=w at g';cases g; cases g';cases neg with
   | true=>exact ret h (by simp [cJ,hv,hw,V.bool?] <;> rfl) (.ex _)
   | false=>exact ret h (by simp [cJ,hv,hw,V.bool?] <;> rfl) (.ex _)
  ·split at h
   ·rename_i hc;simp only [WaG] at hc;obtain ⟨b,hb⟩:=Gt hc.1 (S.src x);obtain ⟨b',hb'⟩:=Gt hc.2 (S.src y);exact ret h (by simp only [cJ,hb,hb',V.bool?]; rfl) (.bool _)
   ·cases h
 | un op x=>
  cases op with
  | not=>
   simp only [mf] at h;split at h
   ·rename_i b hx;have g:=jp S hx;generalize hv:x.get Z=v at g;cases g;exact ret h (by grind [cJ,JM]) (.ex _)
   ·rename_i c hx;have g:=jp S hx;generalize hv:x.get Z=v at g;cases g with
    | cmp c hc=>exact ret h (by simp only [cJ,hv,JM]; rfl) (by rw [<- TV]; exact .cmp _ (ZB hc))
   ·rename_i hx;have g:=jp S hx;generalize hv:x.get Z=v at g;cases g with
    | bool b=>exact ret h (by simp only [cJ,hv,JM]; rfl) (.bool _)
   ·cases h
  | neg=>
   simp only [mf] at h;split at h
   ·rename_i s1 k e he;cases h;obtain ⟨ρ1,S1,E1,g1,b1⟩:=S.int he;refine ⟨ρ1,_,by simp only [cJ,g1,JM]; rfl,S1,E1,?_⟩;have:=S1.wrap (k:=k) (NQ b1);rw [pZ] at this;rw [show (0:Int)-e.ev ρ1=- e.ev ρ1 by omega]; exact this
   ·cases h
  | xor=>
   simp only [mf] at h;split at h
   ·rename_i k hk;obtain ⟨n,hn⟩:=Lv hk (S.src x);have dflt:some (s,tP k)=some (s',a)->D7 s s' W Z a (cJ Z (.un .xor x)):=λh=>ret h (by simp only [cJ,hn,JM]; rfl) (sK k _);split at h
    ·rename_i k' e hx;have g:=jp S hx;rw [hn] at g;cases g;split at h
     ·rename_i m hm;rw [lit?_ok hm] at hn;simp only [Wag] at h;obtain ⟨v,hv,h⟩:=h;exact ret (congrArg some h) (u:=.sc v) (by grind [cJ]) (zcV v)
     ·exact dflt h
    ·exact dflt h
   ·cases h
  | _=>cases h
 | conv k x=>
  simp only [mf] at h;split at h
  ·rename_i s1 k' e he;obtain ⟨ρ1,S1,E1,g1,b1⟩:=S.int he;have hv:cJ Z (.conv k x)=some (.sc (.int k (k.wrap (e.ev ρ1)))):=by simp [cJ,g1,V.int?]
   split at h
   ·rename_i n hn;cases h;refine ⟨ρ1,_,hv,S1,E1,?_⟩;rw [lit?_ok hn];have:=G.int (N:=s'.iv.length) (W:=ρ1) k (.lit (k.wrap n)) (nC _)
    rwa [iO] at this
   ·cases h;exact ⟨ρ1,_,hv,S1,E1,S1.wrap b1⟩
  ·cases h
 | toStr x=>
  simp only [mf] at h;split at h
  ·rename_i b hb;obtain ⟨u,hu,gu⟩:=G9 S (S.src x) hb;split at h
   ·rename_i q sz _ _ hl;obtain ⟨es,rfl,i⟩:=rU S.bnd hl gu;split at h
    ·rename_i hc;simp only [WaG] at hc;obtain ⟨l,hl⟩:=OJ (es:=es) (λr hr=>by
      obtain ⟨row,h1,h2⟩:=i.rows r hr;have h3:=lQ hc.2.2 row h1;split at h3
      ·rename_i c;split at h3
       ·rename_i hk;obtain ⟨v,rfl⟩:∃ v,r=[v]:=by
         have:=h2.1;cases r with
         | nil=>simp at this
         | cons v r=>cases r with
          | nil=>exact ⟨v,rfl⟩
          | cons _ _=>simp at this
        obtain ⟨n,rfl⟩:=Lv hk h2.head;exact ⟨n,rfl⟩
       ·cases h3
      ·cases h3)
     have e1:=Wao hc.2.1;rw [LE hc.1,e1] at hu;exact ret h (by simp only [cJ,hu,hl,Option.map_some]; rfl) (.str _)
    ·cases h
   ·cases h
  ·cases h
 | adc sub x y c=>
  simp only [mf] at h;split at h
  ·rename_i l1 k1 l2 k2 l hh h1 h2 h3;obtain ⟨n,hn,n1,n2⟩:=PD S.bnd h1 (S.src x);obtain ⟨m,hm,m1,m2⟩:=PD S.bnd h2 (S.src y);obtain ⟨d,hd,d1,d2⟩:=PD S.bnd h3 (S.src c);split at h
   ·rename_i hc;simp only [WaG] at hc;have c1:=ja hc.1.1; have c2:=ja hc.1.2;have c3:=ja hc.2.1.1; have c4:=ja hc.2.1.2;have c5:=ja hc.2.2.1; have c6:=ja hc.2.2.2;have hd01:d=0∨d=1:=by omega
    refine ret h (by simp only [cJ,hn,hm,hd]; rw [if_pos hd01]) (.ae _ _ rfl ?_);have q1:(0:Int)<=LT sub n m d/\LT sub n m d<=18446744073709551615:=by unfold LT; grind
    have q2:(0:Int)<=MK sub n m d/\MK sub n m d<=1:=by
     unfold MK
     grind
    have:GL s.iv.length W [tP .u64,.iv .u64 0 1] [.sc (.int .u64 (LT sub n m d)),.sc (.int .u64 (MK sub n m d))]:=.cons (.iv _ _ _ _ (by simpa [Wcw,WcB,Wcj,Wcp] using q1)) (.cons (.iv _ _ _ _ q2) .nil);exact this.2
   ·cases h
  ·cases h
 | ay n sz x lo hi mx=>
  simp only [mf] at h;split at h
  ·rename_i s1 l hh m hb;obtain ⟨ρ1,l',h',m',S1,E1,e1,e2,e3,e4,o1,o2,o3,b1,b2,b3⟩:=S.bounds (nC n) (len:=n) (by rw [iO]) hb;have ret1:∀ {a':A} {u:V},some (s1,a')=some (s',a)->cJ Z (.ay n sz x lo hi mx)=some u->G s1.iv.length ρ1 a' u->D7 s s' W Z a (cJ Z (.ay n sz x lo hi mx)):=by
    intro a' u q1 q2 g; cases q1; exact ⟨ρ1,u,q2,S1,E1,g⟩
   split at h
   ·rename_i id off hx;have g:=jp S1 hx;generalize hv:x.get Z=v at g;cases g with
    | ptr _ _ o ho hho=>
     split at h
     ·rename_i o' p cs ho' hcs;obtain ⟨vs,hvs,gv⟩:=pV S1 hcs;have ho':=lit?_ok (W:=ρ1) ho';split at h
      ·rename_i hc;simp only [WaG] at hc;have hc2:=lR hc.2;have hoe:o'.toNat=o:=by omega
       rw [hoe,gv.1] at hc2;split at h
       ·rename_i hlt;have hlt:=S1.le hlt;rw [jN,hJ] at hlt;refine ret1 h (u:=.own id (o+l'*sz) (h'-l') sz) (by grind [cJ]) ?_;refine .own _ _ _ _ _ _ (uy _ (xk _ b1)) (nW b2 b1) ?_ (by rw [hJ]; omega);rw [jN,ta,e2];have:((o+l'*sz:Nat):Int)=(sz:Int)*(l':Int)+(o:Int):=by grind
        omega
       ·split at h
        ·rename_i hlt;have hlt:=S1.le hlt;rw [hJ] at hlt;have:m'=l':=by omega
         exact ret1 h (u:=.gs sz []) (by grind [cJ]) (tc (q:=1) .nil)
        ·cases h
      ·cases h
     ·rename_i o' cs ho' hcs;obtain ⟨vs,hvs,gv⟩:=zah S1 hcs;have ho':=lit?_ok (W:=ρ1) ho';split at h
      ·rename_i ll hl mm f1 f2 f3;have f1:=lit?_ok (W:=ρ1) f1; have f2:=lit?_ok (W:=ρ1) f2; have f3:=lit?_ok (W:=ρ1) f3;split at h
       ·rename_i hc;simp only [WaG] at hc;have hc2:=lR hc.2;have hoe:o'.toNat=o:=by omega
        have hle:ll.toNat=l':=by omega
        have hhe:hl.toNat=h':=by omega
        rw [hoe] at hc2;rw [hoe,hle,hhe] at h;rw [gv.1] at hc2;split at h
        ·rename_i hml;have hml:=OD hml;have:m'=l':=by omega
         exact ret1 h (u:=.gs sz []) (by grind [cJ]) (tc (q:=1) .nil)
        ·rename_i hml;have:m'≠l':=λe=>by
          grind [zg2]
         exact ret1 h (u:=.sl sz (bY sz (h'-l') (vs.drop (o+l'*sz)))) (by grind [cJ]) (tc (q:=0) (wX (gv.drop _)))
       ·cases h
      ·cases h
     ·cases h
   ·rename_i cs hx;have g:=jp S1 hx;generalize hv:x.get Z=v at g;cases g with
    | fp _ q vs hn hl hhh=>
     split at h
     ·rename_i ll hl2 f1 f2;have f1:=lit?_ok (W:=ρ1) f1; have f2:=lit?_ok (W:=ρ1) f2;have hle:ll.toNat=l':=by omega
      have hhe:hl2.toNat=h':=by omega
      split at h
      ·rename_i hc;have hc:=lR hc;rw [hle,hhe] at h;refine ret1 h (u:=.sl sz (bY sz (h'-l') (vs.drop (l'*sz)))) (by grind [cJ]) ?_;have gv:GL s1.iv.length ρ1 cs (vs.take cs.length):=⟨by simp; omega,λi a v h1 h2=>by
        grind⟩
       have gg:=tc (q:=0) (sz:=sz) (wX (sz:=sz) (n:=h'-l') (gv.drop (l'*sz)));have hmul:l'*sz+(h'-l')*sz<=cs.length:=by
        have:l'*sz+(h'-l')*sz=h'*sz:=by rw [<- WaC]; congr 1; omega
        have:h'*sz<=n*sz:=WaA sz (by omega);omega
       have ee:bY sz (h'-l') ((vs.take cs.length).drop (l'*sz))=bY sz (h'-l') (vs.drop (l'*sz)):=by
        have key:∀ (n:Nat) (us:List V) (k:Nat),n*sz<=k->bY sz n (us.take k)=bY sz n us:=by
         intro n
         induction n with
         | zero=>intro us k _; rfl
         | succ n ih=>
          intro us k hk;rw [WaC,Nat.one_mul] at hk;simp only [bY];rw [List.take_take,Nat.min_eq_left (by omega),List.drop_take,ih _ _ (by omega)]
        rw [List.drop_take];exact key _ _ _ (by omega)
       rw [ee] at gg;exact gg
      ·cases h
     ·cases h
   ·cases h
  ·cases h
 | aT sz x lo hi mx=>
  simp only [mf] at h;split at h
  ·rename_i s0 a0 hl0;obtain ⟨ρ0,S0,E0,g0⟩:=S.ak hl0;have gd:=g0.ag;split at h
   ·rename_i id off len sz' hd;rw [hd] at gd;generalize hv:(x.get Z).ag=v at gd;cases gd with
    | own _ _ _ o n _ ho hn ho' hn'=>
     split at h
     ·rename_i hs;have hs:=Wao hs;split at h
      ·rename_i s1 l hh m hb;obtain ⟨ρ1,l',h',m',S1,E1,e1,e2,e3,e4,o1,o2,o3,b1,b2,b3⟩:=S0.bounds hn (len:=n) hn'.symm hb;cases h;refine ⟨ρ1,.own id (o+l'*sz) (h'-l') sz,by grind [cJ],S1,E0.trans E1,?_⟩;refine .own _ _ _ _ _ _ (Kv (E1.bd ho) (xk _ b1)) (nW b2 b1) ?_ (by rw [hJ]; omega);rw [Ci,ta,e2,E1.ev ho,ho']
       push_cast; rw [Wcq (l':Int)]
      ·cases h
     ·cases h
   ·rename_i a1 hno;split at h
    ·rename_i n q sz' _ _ hn hl;obtain ⟨es,hes,i⟩:=rU S0.bnd hl gd;obtain ⟨i1,i2⟩:=i.len _ hn;split at h
     ·rename_i hc;simp only [WaG] at hc;have hs:=Wao hc.2;rw [LE hc.1] at hes;split at h
      ·rename_i s1 l hh m hb;obtain ⟨ρ1,l',h',m',S1,E1,e1,e2,e3,e4,o1,o2,o3,b1,b2,b3⟩:=S0.bounds i2 (len:=es.length) i1 hb;have gd1:=E1.g gd;have i':IsL s1.iv.length ρ1 a0.ag q sz' _ _ es:=⟨i.lo,i.hi,λr hr=>by obtain ⟨row,h1,h2⟩:=i.rows r hr; exact ⟨row,h1,E1.gl h2⟩,λe he=>by grind [Ext.bd,Ext.ev]⟩;have res:lm (λr'=>lY (leA 0 s1 [] 12) r' (uz s1 (lh a0.ag))) (lh a0.ag)=true->G s1.iv.length ρ1 (match Uf 0 sz a0.ag l hh with | some p=>p | none=>.ak 0 sz (hh.sub l) (uz s1 (lh a0.ag))) (.sl sz ((es.drop l').take (h'-l'))):=by
        intro hq;split
        ·rename_i p hp;rw [hes,show V.sl sz' es=mkL 0 sz' es from rfl] at gd1;exact zbt (q:=0) (Dt gd1) hp e2 e3
        ·refine NH (q:=0) (nW b2 b1) ?_ (λr hr=>S1.rowsUp i' hq r (List.mem_of_mem_drop (WaI hr)));rw [hJ,e2,e3,Wci,Wcl]; omega
       split at h
       ·split at h
        ·rename_i hq;cases h;exact ⟨ρ1,_,by grind [cJ],S1,E0.trans E1,res hq⟩
        ·cases h
       ·split at h
        ·rename_i hlt;have hlt:=S1.le hlt;rw [hJ] at hlt;cases h;exact ⟨ρ1,.fr sz [],by grind [cJ],S1,E0.trans E1,tc (q:=2) .nil⟩
        ·split at h
         ·rename_i hq;simp only [WaG] at hq;have hlt:=S1.le hq.1;rw [jN,hJ] at hlt;cases h;exact ⟨ρ1,_,by grind [cJ],S1,E0.trans E1,res hq.2⟩
         ·cases h
      ·cases h
     ·cases h
    ·cases h
  ·cases h
 | aD sz x hi mx=>
  simp only [mf] at h;split at h
  ·rename_i s0 a0 hl0;obtain ⟨ρ0,S0,E0,g0⟩:=S.ak hl0;have gd:=g0.ag;split at h
   ·rename_i n q sz' _ _ s1 hh hn hl hi2;obtain ⟨es,hes,i⟩:=rU S0.bnd hl gd;obtain ⟨i1,i2⟩:=i.len _ hn;split at hi2
    ·rename_i s3 k3 h3 e3;obtain ⟨ρ3,S3,E3,g3,b3⟩:=S0.int e3;split at hi2
     ·rename_i s4 k4 m4 e4;obtain ⟨ρ4,S4,E4,g4,b4⟩:=S3.int e4;split at hi2
      ·rename_i hc4;cases hi2;simp only [WaG] at hc4;have d1:=S4.le hc4.1; have d2:=S4.le hc4.2;rw [hJ] at d1 d2;split at h
       ·rename_i hc;simp only [WaG,SS.btw] at hc;obtain ⟨c1,c2,⟨c3,c4⟩,c5,c6⟩:=hc;have c3:=S4.le c3; have c4:=S4.le c4;rw [hJ] at c3 c4;rw [iO] at c3;have E:=E0.trans (E3.trans E4);have i1':(es.length:Int)=n.ev ρ4:=by rw [E4.ev (E3.bd i2),E3.ev i2]; exact i1
        have hs:=Wao c2;rw [LE c1] at hes;have g3':(hi.get Z).int?=some (hh.ev ρ4):=by rw [g3,E4.ev b3]; rfl
        have g4':(mx.get Z).int?=some (m4.ev ρ4):=by rw [g4]; rfl
        have hv:cJ Z (.aD sz x hi mx)=some (.gs sz (es.take (hh.ev ρ4).toNat)):=by
         grind [cJ]
        cases h;have gd1:=(E3.trans E4).g gd;refine ⟨ρ4,_,hv,S4,E,?_⟩;split
        ·rename_i p hp;rw [hes,show V.sl sz' es=mkL 0 sz' es from rfl] at gd1;have:=zbt (q:=1) (sz:=sz) (l':=0) (h':=(hh.ev ρ4).toNat) (Dt gd1) hp (by rw [iO]; rfl) (by omega);rw [List.drop_zero,Nat.sub_zero] at this;exact this
        ·have i':IsL s'.iv.length ρ4 a0.ag q sz' _ _ es:=⟨i.lo,i.hi,λr hr=>by obtain ⟨row,h1,h2⟩:=i.rows r hr; exact ⟨row,h1,(E3.trans E4).gl h2⟩,λe he=>by obtain ⟨h1,h2⟩:=i.len e he; exact ⟨by grind,(E3.trans E4).bd h2⟩⟩;refine NH (q:=1) (E4.bd b3) ?_ (λr hr=>S4.rowsUp i' c6 r (WaI hr));rw [Wci]; omega
       ·cases h
      ·cases hi2
     ·cases hi2
    ·cases hi2
   ·cases h
  ·cases h
 | fieldAddr o x=>
  simp only [mf] at h;split at h
  ·rename_i id off hx;have g:=jp S hx;generalize hv:x.get Z=v at g;cases g with
   | ptr _ _ q ho hh=>exact ret h (u:=.ptr id (q+o)) (by simp [cJ,hv]) (.ptr _ _ _ (uy _ ho) (by rw [jN,hh]; omega))
  ·rename_i cs hx;have g:=jp S hx;generalize hv:x.get Z=v at g;cases g with
   | fp _ n vs hn hl hh=>
    split at h
    ·rename_i hc;have hc:=lR hc;refine ret h (u:=.fp (n-o) (vs.drop o)) (by grind [cJ]) (.fp _ _ _ (by simp; omega) (by simp; omega) (λi a v h1 h2=>?_));rw [Waj] at h1 h2;exact hh _ a v h1 h2
    ·cases h
  ·cases h
 | field agg o n x=>
  simp only [mf] at h;split at h
  ·rename_i cs hx;have g:=jp S hx;generalize hv:x.get Z=v at g;cases g with
   | agg _ vs hl hh=>
    have gl:GL s.iv.length W cs vs:=⟨hl,hh⟩;cases agg with
    | true=>
     have:=(gl.drop o).take n;exact ret h (by simp only [cJ,hv]; rfl) (.agg _ _ this.1 this.2)
    | false=>
     simp only [Wag] at h;obtain ⟨a',ha,h⟩:=h;obtain ⟨u,hu,gu⟩:=gl.get ha;exact ret (congrArg some h) (u:=u) (by grind [cJ]) gu
  ·cases h
 | al len sz x i=>
  simp only [mf] at h;split at h
  ·rename_i s1 k j hi;obtain ⟨ρ1,S1,E1,g1,b1⟩:=S.int hi;split at h
   ·rename_i hb;simp only [SS.btw,WaG] at hb;have c1:=S1.le hb.1; have c2:=S1.le hb.2;rw [hJ,iO] at c1 c2;have gi:(i.get Z).int?=some (j.ev ρ1):=by rw [g1]; rfl
    have hc:0<=j.ev ρ1/\j.ev ρ1<(len:Int):=⟨by omega,by omega⟩;have ret1:∀ {a':A} {u:V},some (s1,a')=some (s',a)->cJ Z (.al len sz x i)=some u->G s1.iv.length ρ1 a' u->D7 s s' W Z a (cJ Z (.al len sz x i)):=by
     intro a' u q1 q2 g; cases q1; exact ⟨ρ1,u,q2,S1,E1,g⟩
    split at h
    ·rename_i id off hx;have g:=jp S1 hx;generalize hv:x.get Z=v at g;cases g with
     | ptr _ _ o ho hh=>
      refine ret1 h (u:=.ptr id (o+(j.ev ρ1).toNat*sz)) (by grind [cJ]) (.ptr _ _ _ (Kv ho (xk _ b1)) ?_);rw [Ci,ta,hh];have:(((j.ev ρ1).toNat:Nat):Int)=j.ev ρ1:=Wcy (by omega)
      push_cast; rw [this,Wcq]
    ·rename_i cs hx;have g:=jp S1 hx;generalize hv:x.get Z=v at g;cases g with
     | fp _ n vs hn hl hh=>
      have hjs:((j.ev ρ1).toNat+1)*sz<=len*sz:=WaA sz (by omega);rw [WaC,Nat.one_mul] at hjs;have run:len*sz<=cs.length->cJ Z (.al len sz x i)=some (.fp (n-(j.ev ρ1).toNat*sz) (vs.drop ((j.ev ρ1).toNat*sz))):=λhq=>by
       grind [cJ]
      split at h
      ·rename_i j' hq hj;have hq:=lR hq;have hj:=lit?_ok (W:=ρ1) hj;rw [<- hj] at h;refine ret1 h (run hq) (.fp _ _ _ (by simp; omega) (by simp; omega) (λi a v h1 h2=>?_));rw [Waj] at h1 h2;exact hh _ a v h1 h2
      ·rename_i hq _;have hq:=lR hq;split at h
       ·rename_i hr;refine ret1 h (run hq) ?_;have gv:GL s1.iv.length ρ1 cs (vs.take cs.length):=⟨by simp; omega,λi a v h1 h2=>by
         grind⟩
        have hm:(cs.drop ((j.ev ρ1).toNat*sz)).take sz∈pP sz len cs:=by
         have key:∀ (n m:Nat) (us:List A),m<n->(us.drop (m*sz)).take sz∈pP sz n us:=by
          intro n
          induction n with
          | zero=>intro m us hm; omega
          | succ n ih=>
           intro m us hm;cases m with
           | zero=>simp [pP]
           | succ m=>
            refine List.mem_cons_of_mem _ ?_;have:=ih m (us.drop sz) (by omega);rw [Wcr] at this
            grind
         exact key _ _ _ (by omega)
        have gr:=S1.upL (lQ hr _ hm) ((gv.drop ((j.ev ρ1).toNat*sz)).take sz) (N:=s1.iv.length) (ρ':=ρ1);have hlen:=gr.1;rw [Wci,Wcl,Wci] at hlen;refine .fp _ _ _ (by omega) (by rw [Wcl]; omega) (λi a v h1 h2=>gr.2 i a v h1 ?_);have hi:=(Wam.1 h1).1;rw [Wai,if_pos (by omega),Waj,Wai,if_pos (by omega)];rw [Waj] at h2; exact h2
       ·cases h
      ·cases h
    ·cases h
   ·cases h
  ·cases h
 | aj sz x i=>
  simp only [mf] at h;split at h
  ·rename_i s0 a0 hl0;obtain ⟨ρ0,S0,E0,g0⟩:=S.ak hl0;split at h
   ·rename_i s1 k j hi;obtain ⟨ρ1,S1,E1,g1,b1⟩:=S0.int hi;have gd:=E1.g g0.ag;have gi:(i.get Z).int?=some (j.ev ρ1):=by rw [g1]; rfl
    have ret1:∀ {a':A} {u:V},some (s1,a')=some (s',a)->cJ Z (.aj sz x i)=some u->G s1.iv.length ρ1 a' u->D7 s s' W Z a (cJ Z (.aj sz x i)):=by
     intro a' u q1 q2 g; cases q1; exact ⟨ρ1,u,q2,S1,E0.trans E1,g⟩
    split at h
    ·rename_i id off len sz' hd;rw [hd] at gd;generalize hv:(x.get Z).ag=v at gd;cases gd with
     | own _ _ _ o n _ ho hn ho' hn'=>
      split at h
      ·rename_i hc;simp only [WaG] at hc;have hs:=Wao hc.1;have c1:=S1.le hc.2.1; have c2:=S1.le hc.2.2;rw [pZ] at c1; rw [jN,hJ] at c2;refine ret1 h (u:=.ptr id (o+(j.ev ρ1).toNat*sz)) (by grind [cJ]) (.ptr _ _ _ (Kv ho (xk _ b1)) ?_);rw [Ci,ta,ho'];have:(((j.ev ρ1).toNat:Nat):Int)=j.ev ρ1:=Wcy (by omega)
       push_cast; rw [this,Wcq]
      ·cases h
    ·split at h
     ·rename_i n q sz' _ _ hn hl;obtain ⟨es,hes,il⟩:=rU S1.bnd hl gd;obtain ⟨i1,i2⟩:=il.len _ hn;split at h
      ·rename_i hc;simp only [WaG] at hc;have hs:=Wao hc.2.1;have c1:=S1.le hc.2.2.1; have c2:=S1.le hc.2.2.2;rw [pZ] at c1; rw [jN,hJ] at c2;rw [LE hc.1] at hes;have hlt:(j.ev ρ1).toNat<es.length:=by omega
       have run:cJ Z (.aj sz x i)=some (.fp sz es[(j.ev ρ1).toNat]):=by
        grind [cJ]
       split at h
       ·rename_i _ _ rows m ha hm;have hm:=lit?_ok (W:=ρ1) hm;split at h
        ·rename_i r hr;split at h
         ·rename_i hle;rw [hes,show V.sl sz' es=mkL 0 sz' es from rfl] at gd;have gr:=(Dt gd ha).2 _ r _ hr (by rw [<- hm]; exact Wac hlt);exact ret1 h run (ziD gr (lR hle))
         ·cases h
        ·cases h
       ·split at h
        ·rename_i hq;simp only [WaG] at hq;exact ret1 h run (ziD (S1.rowsUp il hq.2 _ (WaV hlt)) (lR hq.1))
        ·cases h
      ·cases h
     ·cases h
   ·cases h
  ·cases h
 | aR agg len sz x i=>
  simp only [mf] at h;split at h
  ·rename_i s1 k j cs hi hx;obtain ⟨ρ1,S1,E1,g1,b1⟩:=S.int hi;have g:=E1.g (jp S hx);have gi:(i.get Z).int?=some (j.ev ρ1):=by rw [g1]; rfl
   generalize hv:x.get Z=v at g;cases g with
   | agg _ vs hl hh=>
    have gl:GL s1.iv.length ρ1 cs vs:=⟨hl,hh⟩;split at h
    ·rename_i m hb hm;simp only [SS.btw,WaG] at hb;have c1:=S1.le hb.1; have c2:=S1.le hb.2;rw [hJ,iO] at c1 c2;have hm:=lit?_ok (W:=ρ1) hm;rw [<- hm] at h;have hc:0<=j.ev ρ1/\j.ev ρ1<(len:Int):=⟨by omega,by omega⟩;cases agg with
     | true=>
      have:=(gl.drop ((j.ev ρ1).toNat*sz)).take sz;cases h;exact ⟨ρ1,_,by grind [cJ],S1,E1,.agg _ _ this.1 this.2⟩
     | false=>
      simp only [Wag] at h;obtain ⟨a',ha,h⟩:=h;obtain ⟨u,hu,gu⟩:=gl.get ha;cases h;exact ⟨ρ1,u,by grind [cJ],S1,E1,gu⟩
    ·rename_i hb _;simp only [SS.btw,WaG] at hb;have c1:=S1.le hb.1; have c2:=S1.le hb.2;rw [hJ,iO] at c1 c2;have hc:0<=j.ev ρ1/\j.ev ρ1<(len:Int):=⟨by omega,by omega⟩;split at h
     ·rename_i hq;simp only [WaG] at hq;have q1:=Wao hq.1; have q2:=lR hq.2;split at h
      ·rename_i hu;cases h;have hlt:(j.ev ρ1).toNat<cs.length:=by omega
       have hlt':(j.ev ρ1).toNat<vs.length:=by rw [<- gl.1]; exact hlt
       have hmem:cs[(j.ev ρ1).toNat]∈cs.take len:=by
        rw [List.mem_take_iff_getElem]
        grind
       refine ⟨ρ1,vs[(j.ev ρ1).toNat],?_,S1,E1,S1.up (lQ hu _ hmem) (gl.2 _ _ _ (Wac hlt) (Wac hlt'))⟩;simp only [cJ,gi,hv]; rw [if_pos hc,q1,Nat.mul_one,if_neg (by simp)]; exact Wac hlt'
      ·cases h
     ·cases h
    ·cases h
  ·cases h
 | bi x=>
  simp only [mf] at h;split at h
  ·rename_i s0 a0 hl0;obtain ⟨ρ0,S0,E0,g0⟩:=S.ak hl0;have gd:=g0.ag;split at h
   ·rename_i id off len sz' hd;rw [hd] at gd;generalize hv:(x.get Z).ag=v at gd;cases gd with
    | own _ _ _ o n _ ho hn ho' hn'=>
     cases h;refine ⟨ρ0,.sc (.int .i64 n),by simp [cJ,hv],S0,E0,?_⟩;have:=G.int (W:=ρ0) .i64 _ hn
     rwa [hn'] at this
   ·split at h
    ·rename_i n q sz' _ _ hn hl;obtain ⟨es,hes,i⟩:=rU S0.bnd hl gd;obtain ⟨i1,i2⟩:=i.len _ hn;split at h
     ·rename_i hq;cases h;rw [LE hq] at hes;refine ⟨ρ0,.sc (.int .i64 es.length),by simp [cJ,hes],S0,E0,?_⟩;have:=G.int (W:=ρ0) .i64 _ i2
      rwa [<- i1] at this
     ·cases h
    ·cases h
  ·cases h
 | aJ n=>
  refine ret h (u:=.sc (.int .i64 n)) rfl ?_;have:=G.int (N:=s.iv.length) (W:=W) .i64 (.lit n) (nC _)
  rwa [iO] at this
 | mm b x y=>
  simp only [mf] at h;split at h
  ·rename_i s1 k p h1;obtain ⟨ρ1,S1,E1,g1,b1⟩:=S.int h1;split at h
   ·rename_i s2 k' q h2;obtain ⟨ρ2,S2,E2,g2,b2⟩:=S1.int h2;have e1:p.ev ρ2=p.ev ρ1:=E2.ev b1;have b1':=E2.bd b1;split at h
    ·rename_i la ha lb hb q1 q2 q3 q4;have q1:=Mr S2.bnd q1; have q2:=vl S2.bnd q2; have q3:=Mr S2.bnd q3; have q4:=vl S2.bnd q4;cases b with
     | true=>
      cases h;have m1:=GG la lb; have m2:=GG ha hb;have hr:qE la lb<=(if q.ev ρ2>p.ev ρ2 then q.ev ρ2 else p.ev ρ2)/\(if q.ev ρ2>p.ev ρ2 then q.ev ρ2 else p.ev ρ2)<=qE ha hb:=by
       grind
      obtain ⟨S3,E3⟩:=S2.sym hr;have bs:(Lin.sy s2.iv.length).bd (s2.sym (qE la lb) (qE ha hb)).iv.length:=D2 (by simp [SS.sym]);have hsy:(Lin.sy s2.iv.length).ev (kN ρ2 s2.iv.length (if q.ev ρ2>p.ev ρ2 then q.ev ρ2 else p.ev ρ2))=(if q.ev ρ2>p.ev ρ2 then q.ev ρ2 else p.ev ρ2):=by rw [vc,oP]
      refine ⟨_,.sc (.int k (if q.ev ρ2>p.ev ρ2 then q.ev ρ2 else p.ev ρ2)),by grind [cJ],S3.facts (tH (by rw [hJ,hsy,E3.ev b1']; split <;> omega) (tH (by rw [hJ,hsy,E3.ev b2]; split <;> omega) S3.fct)) (wZ (nW (E3.bd b1') bs) (wZ (nW (E3.bd b2) bs) S3.fbd)),(E1.trans E2).trans ⟨E3.le,E3.eq⟩,?_⟩;have:=G.int (W:=kN ρ2 s2.iv.length (if q.ev ρ2>p.ev ρ2 then q.ev ρ2 else p.ev ρ2)) k _ bs;rw [hsy] at this; exact this
     | false=>
      cases h;have m1:=C0 la lb; have m2:=C0 ha hb;have hr:m9 la lb<=(if q.ev ρ2<p.ev ρ2 then q.ev ρ2 else p.ev ρ2)/\(if q.ev ρ2<p.ev ρ2 then q.ev ρ2 else p.ev ρ2)<=m9 ha hb:=by
       grind
      obtain ⟨S3,E3⟩:=S2.sym hr;have bs:(Lin.sy s2.iv.length).bd (s2.sym (m9 la lb) (m9 ha hb)).iv.length:=D2 (by simp [SS.sym]);have hsy:(Lin.sy s2.iv.length).ev (kN ρ2 s2.iv.length (if q.ev ρ2<p.ev ρ2 then q.ev ρ2 else p.ev ρ2))=(if q.ev ρ2<p.ev ρ2 then q.ev ρ2 else p.ev ρ2):=by rw [vc,oP]
      refine ⟨_,.sc (.int k (if q.ev ρ2<p.ev ρ2 then q.ev ρ2 else p.ev ρ2)),by grind [cJ],S3.facts (tH (by rw [hJ,hsy,E3.ev b1']; split <;> omega) (tH (by rw [hJ,hsy,E3.ev b2]; split <;> omega) S3.fct)) (wZ (nW bs (E3.bd b1')) (wZ (nW bs (E3.bd b2)) S3.fbd)),(E1.trans E2).trans ⟨E3.le,E3.eq⟩,?_⟩;have:=G.int (W:=kN ρ2 s2.iv.length (if q.ev ρ2<p.ev ρ2 then q.ev ρ2 else p.ev ρ2)) k _ bs;rw [hsy] at this; exact this
    ·cases h
   ·cases h
  ·cases h
 | pull x i=>
  simp only [mf] at h;split at h
  ·rename_i ts hx;have g:=jp S hx;generalize hv:x.get Z=v at g;cases g with
   | ae _ vs hl hh=>
    split at h
    ·rename_i a' ha;obtain ⟨u,hu,gu⟩:=All2.get (R:=G s.iv.length W) ⟨hl,hh⟩ ha;split at h
     ·cases h
     ·rename_i hd;exact ret h (u:=u.ag) (by grind [zjv,cJ]) gu.ag
    ·cases h
  ·cases h
 | _=>cases h
end
end
section
variable {d:Option Nat}{a:A}{v:V}{ah:Bool}
section
variable {s s':SS} {W:Nat->Int} {Z:St}
theorem C7(S:Sat s W Z){x:BB}{X:B}{a:Nat->A}{f:Nat->V}(hx:GB s.iv.length W x X)(ha:∀ id,G s.iv.length W (a id) (f id))(h:s.ao d x a=some s'):∃ σ',Z.ao 0 d X f=some σ'/\Sat s' W σ'/\s'.iv=s.iv:=by
 unfold SS.ao at h;split at h
 ·rename_i d;split at h
  ·rename_i hb;cases h;obtain ⟨y,hy,gy⟩:=S.bs.get hb;cases gy;refine ⟨_,by simp only [St.ao,Nat.zero_add,hy]; rfl,?_,rfl⟩;have S1:Sat { s with b:=s.b.set d x } W (Z.ab d X):=⟨S.bnd,S.fct,S.fbd,S.ts,S.bs.set d hx⟩;exact S1.put (some d) (ha d)
  ·cases h
 ·cases h
theorem Xr(S:Sat s W Z)(d:Option Nat)(g:G s.iv.length W a v):Sat (s.put d a) W (Z.put d v)/\(s.put d a).iv=s.iv:=⟨S.put d g,pd d a⟩
theorem KM{N:Nat}:∀ {rows:List (List A)} {es:Ls},All2 (GL N W) rows es->GL N W rows.flatten es.flatten
 | [],[],_=>.nil
 | [],_::_,h=>by have:=h.1; simp at this
 | _::_,[],h=>by have:=h.1; simp at this
 | r::rows,e::es,h=>by
  rw [List.flatten_cons,List.flatten_cons];exact All2.append h.head (KM h.tail)
theorem HP(S:Sat s W Z){sz q:Nat}{es:Ls}(g:G s.iv.length W a (mkL q sz es))(h:s.aq d ah sz a=some s'):∃ σ',Z.aq 0 d ah sz es=some σ'/\Sat s' W σ'/\s'.iv=s.iv:=by
 generalize hv:mkL q sz es=v at g;unfold SS.aq at h;have same:∀ {q' sz':Nat} {es':Ls},mkL q sz es=mkL q' sz' es'->es'=es/\sz'=sz:=by
  intro q' sz' es' e;unfold mkL at e
  grind
 cases ah with
 | false=>
  simp only at h;have fin:∀ {a':A},some (s.put d a')=some s'->G s.iv.length W a' (.gs sz es)->∃ σ',Z.aq 0 d false sz es=some σ'/\Sat s' W σ'/\s'.iv=s.iv:=by
   intro a' e g; cases e; exact ⟨_,by grind [St.aq],Xr S d g⟩
  split at h
  ·cases g with
   | ak q' sz' n row es' hn hl hr hh=>
    obtain ⟨rfl,rfl⟩:=same hv;exact fin h (.ak 1 _ _ _ _ hn hl hr hh)
  ·cases g with
   | ai q' sz' lo hi row es' hl hr hh=>
    obtain ⟨rfl,rfl⟩:=same hv;exact fin h (.ai 1 _ _ _ _ _ hl hr hh)
  ·cases g with
   | am q' sz' rows es' hl hr hh=>
    obtain ⟨rfl,rfl⟩:=same hv;exact fin h (.am 1 _ _ _ hl hr hh)
  ·cases h
 | true=>
  simp only at h;split at h
  ·rename_i q' sz' rows;cases g with
   | am _ _ _ es' hl hr hh=>
    obtain ⟨rfl,rfl⟩:=same hv;have r:All2 (GL s.iv.length W) rows es':=⟨hl,λj x y h1 h2=>⟨hr j x y h1 h2,hh j x y h1 h2⟩⟩;obtain ⟨σ',h1,h2,h3⟩:=C7 S (X:=.live true es'.flatten) (f:=λid=>.own id 0 es'.length sz') (.live true _ _ (KM r)) (λid=>.own _ _ _ _ _ _ (nC _) (nC _) (by rw [iO]; rfl) (by rw [iO,hl])) h;exact ⟨σ',by grind [St.aq],h2,h3⟩
  ·cases h
theorem L5(S:Sat s W Z)(x:Src):Sat (s.ac x) W (Z.ac x)/\(s.ac x).iv=s.iv/\(s.ac x).b=s.b:=by
 cases x with
 | const v=>exact ⟨S,rfl,rfl⟩
 | tmp t=>
  unfold SS.ac;simp only;split
  ·rename_i a ht;obtain ⟨v,hv,g⟩:=S.ts.get ht;refine ⟨⟨S.bnd,S.fct,S.fbd,?_,S.bs⟩,rfl,rfl⟩;have:(Z.ac (.tmp t)).t=Z.t.set t v.ag:=by
    show Z.t.modify t V.ag=_;have hlt:=(Wam.1 hv).1;apply List.ext_getElem?;intro i;rw [WaJ,WbB];split
    ·rename_i e; subst e; simp [hv]
    ·simp
   rw [this];exact S.ts.set t g.ag
  ·rename_i ht;have hle:s.t.length<=t:=List.getElem?_eq_none_iff.1 ht;refine ⟨⟨S.bnd,S.fct,S.fbd,?_,S.bs⟩,rfl,rfl⟩;have:(Z.ac (.tmp t)).t=Z.t:=by
    show Z.t.modify t V.ag=_;apply List.ext_getElem?;intro i;rw [WaJ];split
    ·rename_i e; subst e; rw [Wbu (by rw [<- S.ts.1]; omega)]; simp
    ·simp
   rw [this]; exact S.ts
theorem G.tk{N:Nat}{a:A}{v:V}(g:G N W a v):G N W a.tk v.tk:=by
 cases g with
 | ak q sz n row es hn hl hr h=>
  have e:(mkL q sz es).tk=mkL q sz es:=by unfold mkL; split <;> rfl
  rw [e]; exact .ak q sz n row es hn hl hr h
 | ai q sz lo hi row es hl hr h=>
  have e:(mkL q sz es).tk=mkL q sz es:=by unfold mkL; split <;> rfl
  rw [e]; exact .ai q sz lo hi row es hl hr h
 | am q sz rows es hl hr h=>
  have e:(mkL q sz es).tk=mkL q sz es:=by unfold mkL; split <;> rfl
  rw [e]; exact .am q sz rows es hl hr h
 | ex v=>exact .ex _
 | any v=>exact .any _
 | int k e h=>exact .int k e h
 | iv k lo hi n h=>exact .iv k lo hi n h
 | cmp c h=>exact .cmp c h
 | bool b=>exact .bool b
 | str s=>exact .str s
 | agg cs vs hl h=>exact .agg cs vs hl h
 | st cs vs hl h=>exact .st cs vs hl h
 | ae cs vs hl h=>exact G.ag (.ae cs vs hl h)
 | bx p cs vs hl h=>exact .ex _
 | fp cs n vs hn hl h=>exact .fp cs n vs hn hl h
 | ptr id o off ho h=>exact .ptr id o off ho h
 | own id o m off len sz ho hm h h'=>exact .own id o m off len sz ho hm h h'
theorem G.mv{N:Nat}{a:A}{v:V}(g:G N W a v):G N W a.mv v.mv:=by
 cases g with
 | ae cs vs hl h=>exact .ae cs vs hl h
 | ex v=>exact .ex _
 | any v=>exact .any _
 | ak q sz n row es hn hl hr h=>
  have e:(mkL q sz es).mv=(mkL q sz es).tk:=by unfold mkL; split <;> rfl
  rw [e]; exact G.tk (.ak q sz n row es hn hl hr h)
 | ai q sz lo hi row es hl hr h=>
  have e:(mkL q sz es).mv=(mkL q sz es).tk:=by unfold mkL; split <;> rfl
  rw [e]; exact G.tk (.ai q sz lo hi row es hl hr h)
 | am q sz rows es hl hr h=>
  have e:(mkL q sz es).mv=(mkL q sz es).tk:=by unfold mkL; split <;> rfl
  rw [e]; exact G.tk (.am q sz rows es hl hr h)
 | int k e h=>exact .int k e h
 | iv k lo hi n h=>exact .iv k lo hi n h
 | cmp c h=>exact .cmp c h
 | bool b=>exact .bool b
 | str s=>exact .str s
 | agg cs vs hl h=>exact .agg cs vs hl h
 | st cs vs hl h=>exact .st cs vs hl h
 | bx p cs vs hl h=>exact .ex _
 | fp cs n vs hn hl h=>exact .fp cs n vs hn hl h
 | ptr id o off ho h=>exact .ptr id o off ho h
 | own id o m off len sz ho hm h h'=>exact .own id o m off len sz ho hm h h'
theorem zbs(S:Sat s W Z)(g:G s.iv.length W a v)(h:s.au d ah a=some s'):∃ σ',Z.au 0 d ah v=some σ'/\Sat s' W σ'/\s'.iv=s.iv:=by
 have dfl:∀ {a':A},some (s.put d a')=some s'->G s.iv.length W a' v->(∀ sz es,v≠.gs sz es)->(∀ sz es,v≠.fr sz es)->(∀ p cs,v≠.bx p cs)->∃ σ',Z.au 0 d ah v=some σ'/\Sat s' W σ'/\s'.iv=s.iv:=by
  intro a' e g h1 h2 h3;cases e;refine ⟨Z.put d v,?_,Xr S d g⟩;unfold St.au
  grind
 have gs:∀ {a':A} {sz:Nat} {es:Ls},v=.gs sz es->ah=false->some (s.put d a')=some s'->G s.iv.length W a' (.gs sz es)->∃ σ',Z.au 0 d ah v=some σ'/\Sat s' W σ'/\s'.iv=s.iv:=by
  intro a' sz es e e2 h9 g9;subst e; subst e2;cases h9; exact ⟨_,rfl,Xr S d g9⟩
 cases g with
 | ak q sz n row es hn hl hr hh=>
  cases q with
  | zero=>exact dfl h (.ak 0 _ _ _ es hn hl hr hh) (λ_ _ e=>by cases e) (λ_ _ e=>by cases e) (λ_ _ e=>by cases e)
  | succ q=>cases q with
   | zero=>cases ah with
    | true=>cases (show (none:Option SS)=some s' from h)
    | false=>exact gs rfl rfl h (.ak 1 _ _ _ es hn hl hr hh)
   | succ q=>exact HP S (q:=2) (.ak 2 _ _ _ es hn hl hr hh) h
 | ai q sz lo hi row es hl hr hh=>
  cases q with
  | zero=>exact dfl h (.ai 0 _ _ _ _ es hl hr hh) (λ_ _ e=>by cases e) (λ_ _ e=>by cases e) (λ_ _ e=>by cases e)
  | succ q=>cases q with
   | zero=>cases ah with
    | true=>cases (show (none:Option SS)=some s' from h)
    | false=>exact gs rfl rfl h (.ai 1 _ _ _ _ es hl hr hh)
   | succ q=>exact HP S (q:=2) (.ai 2 _ _ _ _ es hl hr hh) h
 | am q sz rows es hl hr hh=>
  cases q with
  | zero=>exact dfl h (.am 0 _ _ es hl hr hh) (λ_ _ e=>by cases e) (λ_ _ e=>by cases e) (λ_ _ e=>by cases e)
  | succ q=>cases q with
   | zero=>cases ah with
    | true=>cases (show (none:Option SS)=some s' from h)
    | false=>exact gs rfl rfl h (.am 1 _ _ es hl hr hh)
   | succ q=>exact HP S (q:=2) (.am 2 _ _ es hl hr hh) h
 | bx p cs vs hl hh=>
  exact C7 S (X:=.live p vs) (f:=λid=>.ptr id 0) (.live p _ _ ⟨hl,hh⟩) (λid=>.ptr _ _ _ (nC _) (by rw [iO]; rfl)) h
 | ex v=>
  simp only [SS.au] at h;split at h
  ·cases h
  ·cases h
  ·cases h
  ·rename_i n1 n2 n3;exact dfl h (.ex _) (λa b e=>n1 a b e) (λa b e=>n2 a b e) (λa b e=>n3 a b e)
 | any v=>cases h
 | int k e hb=>exact dfl h (.int k e hb) (λ_ _ e=>by cases e) (λ_ _ e=>by cases e) (λ_ _ e=>by cases e)
 | iv k lo hi n hb=>exact dfl h (.iv k lo hi n hb) (λ_ _ e=>by cases e) (λ_ _ e=>by cases e) (λ_ _ e=>by cases e)
 | cmp c hb=>exact dfl h (.cmp c hb) (λ_ _ e=>by cases e) (λ_ _ e=>by cases e) (λ_ _ e=>by cases e)
 | bool b=>exact dfl h (.bool b) (λ_ _ e=>by cases e) (λ_ _ e=>by cases e) (λ_ _ e=>by cases e)
 | str b=>exact dfl h (.str b) (λ_ _ e=>by cases e) (λ_ _ e=>by cases e) (λ_ _ e=>by cases e)
 | agg cs vs hl hh=>exact dfl h (.agg cs vs hl hh) (λ_ _ e=>by cases e) (λ_ _ e=>by cases e) (λ_ _ e=>by cases e)
 | st cs vs hl hh=>exact dfl h (.st cs vs hl hh) (λ_ _ e=>by cases e) (λ_ _ e=>by cases e) (λ_ _ e=>by cases e)
 | ae cs vs hl hh=>exact dfl h (.ae cs vs hl hh) (λ_ _ e=>by cases e) (λ_ _ e=>by cases e) (λ_ _ e=>by cases e)
 | fp cs n vs hn hl hh=>exact dfl h (.fp cs n vs hn hl hh) (λ_ _ e=>by cases e) (λ_ _ e=>by cases e) (λ_ _ e=>by cases e)
 | ptr id o off ho hh=>exact dfl h (.ptr id o off ho hh) (λ_ _ e=>by cases e) (λ_ _ e=>by cases e) (λ_ _ e=>by cases e)
 | own id o m off len sz ho hm h1 h2=>exact dfl h (.own id o m off len sz ho hm h1 h2) (λ_ _ e=>by cases e) (λ_ _ e=>by cases e) (λ_ _ e=>by cases e)
theorem ze7(S:Sat s W Z){cs cs' new:List A}{vs nv:List V}{off:Lin}{o:Nat}(g:GL s.iv.length W cs vs)(gn:GL s.iv.length W new nv)(ho:off.ev W=o)(h:ZG s cs off new=some cs'):GL s.iv.length W cs' (cq vs o nv)/\o+nv.length<=vs.length:=by
 unfold ZG at h;split at h
 ·rename_i o' ho';have ho':=lit?_ok (W:=W) ho';split at h
  ·rename_i hc;simp only [WaG] at hc;have hc2:=lR hc.2;have e:o'.toNat=o:=by omega
   rw [e] at h hc2;cases h;exact ⟨tp g gn o,by rw [<- g.1,<- gn.1]; exact hc2⟩
  ·cases h
 ·split at h
  ·rename_i v lo hi hlo hhi;have hlo:=Mr S.bnd hlo; have hhi:=vl S.bnd hhi;split at h
   ·rename_i hc;simp only [WaG] at hc;have c1:=D3 hc.1; have c2:=ja hc.2;simp only at h;split at h
    ·rename_i hq;simp only [WaG] at hq;cases h;obtain ⟨w,rfl⟩:∃ w,nv=[w]:=by
      have:=gn.1;cases nv with
      | nil=>simp at this
      | cons w nv=>cases nv with
       | nil=>exact ⟨w,rfl⟩
       | cons _ _=>simp at this
     have gw:=gn.head;have hol:o<vs.length:=by rw [<- g.1]; omega
     refine ⟨?_,by simp; omega⟩;generalize hseg:(cs.drop lo.toNat).take (hi.toNat+1-lo.toNat)=seg at hq ⊢;generalize hseg2:seg.map (λc=>qH 12 s.iv c s.iv v)=seg2 at hq ⊢;have hl2:seg2.length=seg.length:=by rw [<- hseg2]; simp
     have hl1:seg.length=hi.toNat+1-lo.toNat:=by rw [<- hseg]; simp; omega
     have gs:GL s.iv.length W seg ((vs.drop lo.toNat).take (hi.toNat+1-lo.toNat)):=by rw [<- hseg]; exact (g.drop _).take _
     have gs2:GL s.iv.length W seg2 ((vs.drop lo.toNat).take (hi.toNat+1-lo.toNat)):=S.upL hq.1 gs;have gall:=tp g gs2 lo.toNat;have hsame:cq vs lo.toNat ((vs.drop lo.toNat).take (hi.toNat+1-lo.toNat))=vs:=by
      unfold cq;rw [Wci,Wcl,Nat.min_eq_left (by rw [<- g.1]; omega)];rw [<- Wcr,List.append_assoc,Wcx,Wcx]
     rw [hsame] at gall;refine ⟨by rw [gall.1]; simp [cq]; omega,λi a u h1 h2=>?_⟩;by_cases hio:i=o
     ·subst hio;have hu:u=w:=by
       grind [cq]
      subst hu;have ha:a∈seg2:=by
       grind [ui]
      exact S.up (lQ hq.2 a ha) gw
     ·have:vs[i]?=some u:=by
       unfold cq at h2;by_cases hlt:i<o
       ·grind
       ·rw [Wal (by simp; omega)] at h2
        grind
      exact gall.2 i a u h1 this
    ·cases h
   ·cases h
  ·cases h
end
end
section
variable {T:Nat->Option CF}{D N:Nat}{P:CB->Prop}{x:Src × Nat}{a:A}{v:V}
def Evt(T:Nat->Option CF)(D:Nat)(P:CB->Prop):Prop:=∃ L0,∀ L,L0<=L->∀ n,D<=n->P (wR (evF T C4 L n))
theorem Evt.all(h:∀ c,P c):Evt T D P:=⟨0,λL _ n _=>h _⟩
theorem Evt.imp{Q:CB->Prop}(H:∀ c,P c->Q c)(h:Evt T D P):Evt T D Q:=by
 obtain ⟨L0,h⟩:=h; exact ⟨L0,λL hL n hn=>H _ (h L hL n hn)⟩
theorem Evt.and{Q:CB->Prop}(h:Evt T D P)(h':Evt T D Q):Evt T D (λc=>P c/\Q c):=by
 obtain ⟨L0,h⟩:=h; obtain ⟨L1,h'⟩:=h';exact ⟨L0+L1,λL hL n hn=>⟨h L (by omega) n hn,h' L (by omega) n hn⟩⟩
def S7(T:Nat->Option CF)(D:Nat)(cb:ACB):Prop:=∀ g args r,cb g args=some r->∀ ws,(∀ N W,GL N W args ws)->∃ v,(∀ N W,G N W r v)/\Evt T D (λc=>c g ws []=some (v,[]))
section
variable {s s':SS} {W:Nat->Int} {Z:St} {T:Nat->Option CF} {D:Nat}
def Pl(v:V):Prop:=eg v=[]/\∀ g,lr g v=v
theorem zce(S:Sat s W Z)(h:ER s x=some a):∃ v,jh Z x=some v/\G s.iv.length W a v/\Pl v/\x.2<2:=by
 unfold ER at h;split at h
 ·cases h
 ·rename_i hm;have hm:=NK hm;have e1:BU x=none:=by
   grind [BU]
  have e2:∀ v,wK x.2 v=none:=λv=>by unfold wK; rw [if_neg (by omega)]
  have e3:jh Z x=wF Z x:=by unfold jh; rw [e1]
  split at h
  ·rename_i cs hv;obtain ⟨u,hu,gu⟩:=G9 S (S.src x.1) hv;cases h;cases gu with
   | agg _ vs hl hh=>
    have gl:GL s.iv.length W cs vs:=⟨hl,hh⟩;refine ⟨.agg (if x.2 % 2=1 then vs.map V.ag else vs),by grind [wF],?_,⟨rfl,λg=>rfl⟩,hm⟩;split
    ·rename_i hq;rw [if_pos (Wao hq)];have:=gl.map (S:=G s.iv.length W) (λa b h=>G.ag h);exact .agg _ _ this.1 this.2
    ·rename_i hq;rw [if_neg (λe=>by rw [e] at hq; cases hq)];exact .agg _ _ hl hh
  ·cases h
  ·cases h
  ·rename_i a' n1 n2 n3 hv;obtain ⟨u,hu,gu⟩:=G9 S (S.src x.1) hv;obtain ⟨w,hw,gw,_⟩:=lV gu h;have fin:wF Z x=u.plain->Pl w->∃ v,jh Z x=some v/\G s.iv.length W a v/\Pl v/\x.2<2:=λq1 q2=>⟨w,by rw [e3,q1,hw],gw,q2,hm⟩;have pl:∀ {v:Value},Pl (.sc v):=⟨rfl,λg=>rfl⟩;have go:wF Z x=(match some u with
  | some (.ptr id off)=>some (.ptr id off)
  | some (.fp n cs)=>some (.fp n cs)
  | some (.fn f caps)=>some (.fn f caps)
  | some (.mp id)=>some (.mp id)
  | some (.agg cs)=>some (.agg (if x.2 % 2=1 then cs.map V.ag else cs))
  | some v=>v.plain
  | none=>none):=by grind [wF]
   cases gu with
   | agg cs vs hl hh=>exact absurd hv (by intro h; exact n1 _ rfl)
   | ex v=>
    simp only [A.plain] at h;split at h
    ·cases hw; exact fin go pl
    ·cases h
   | int k e hb=>cases hw; exact fin go pl
   | iv k lo hi n hb=>cases hw; exact fin go pl
   | cmp c hb=>cases hw; exact fin go pl
   | bool b=>cases hw; exact fin go pl
   | str b=>cases hw; exact fin go pl
   | ak q sz n row es hn hl hr hh=>
    cases q with
    | zero=>cases hw; exact fin go ⟨rfl,λg=>rfl⟩
    | succ q=>cases q with
     | zero=>cases hw; exact fin go ⟨rfl,λg=>rfl⟩
     | succ q=>cases hw
   | ai q sz lo hi row es hl hr hh=>
    cases q with
    | zero=>cases hw; exact fin go ⟨rfl,λg=>rfl⟩
    | succ q=>cases q with
     | zero=>cases hw; exact fin go ⟨rfl,λg=>rfl⟩
     | succ q=>cases hw
   | am q sz rows es hl hr hh=>
    cases q with
    | zero=>cases hw; exact fin go ⟨rfl,λg=>rfl⟩
    | succ q=>cases q with
     | zero=>cases hw; exact fin go ⟨rfl,λg=>rfl⟩
     | succ q=>cases hw
   | _=>cases h
  ·cases h
theorem RP(S:Sat s W Z):∀ {args:List (Src × Nat)} {av:List A},qI (ER s) args=some av->∃ vs,args.mapM (jh Z)=some vs/\GL s.iv.length W av vs/\(∀ v∈vs,Pl v)/\∀ x∈args,x.2<2
 | [],av,h=>by cases h; exact ⟨[],rfl,.nil,λ_ h=>(by cases h),λ_ h=>(by cases h)⟩
 | x::args,av,h=>by
  unfold qI at h;split at h
  ·rename_i a av' h1 h2;cases h;obtain ⟨v,q1,q2,q3,q4⟩:=zce S h1;obtain ⟨vs,r1,r2,r3,r4⟩:=RP S h2;refine ⟨v::vs,by grind,.cons q2 r2,λw hw=>?_,λy hy=>?_⟩
   ·grind
   ·grind
  ·cases h
theorem zi0(g:G N W a v){id:Nat}(h:JK a=some id):gS v=some id:=by
 cases g with
 | own id o m off len sz ho hm h1 h2=>cases h; rfl
 | _=>cases h
theorem zci(g:G N W a v)(h:JK a=none)(hx:∀ v,a≠.ex v)(hy:a≠.any):gS v=none:=by
 cases g with
 | own id o m off len sz ho hm h1 h2=>cases h
 | ex v=>exact absurd rfl (hx v)
 | any v=>exact absurd rfl hy
 | ak q sz n row es hn hl hr hh=>unfold mkL; split <;> rfl
 | ai q sz lo hi row es hl hr hh=>unfold mkL; split <;> rfl
 | am q sz rows es hl hr hh=>unfold mkL; split <;> rfl
 | _=>rfl
theorem za3(S:Sat s W Z)(h:ER s x=some a):gS (x.1.get Z)=JK (s.src x.1):=by
 have g:=S.src x.1;generalize hs:s.src x.1=b at g;generalize x.1.get Z=v at g ⊢;cases hb:JK b with
 | some id=>exact zi0 g hb
 | none=>
  by_cases hx:(∃ v,b=.ex v)∨b=.any
  ·rcases hx with ⟨w,rfl⟩ | rfl
   ·cases g;unfold ER at h;rw [hs] at h;split at h
    ·cases h
    ·cases v with
     | own id off len sz=>simp [Iu] at h
     | _=>rfl
   ·grind [ER,Iu]
  ·grind [zci]
theorem AZ(S:Sat s W Z):∀ {args:List (Src × Nat)} {av:List A} {b b':List BB} {c:List B},qI (ER s) args=some av->All2 (GB s.iv.length W) b c->CZ s args b=some b'->All2 (GB s.iv.length W) b' (dG Z args c)
 | [],av,b,b',c,_,g,h=>by cases h; exact g
 | x::args,av,b,b',c,h1,g,h=>by
  unfold qI at h1;split at h1
  ·rename_i a av' q1 q2;obtain ⟨_,_,_,_,q4⟩:=zce S q1;have ho:=za3 S q1;unfold dG;rw [if_neg (by omega),ho];unfold CZ at h;split at h
   ·rename_i id hid;rw [hid];simp only;split at h
    ·rename_i a0 cs0 hb;obtain ⟨y,hy,gy⟩:=g.get hb;cases gy with
     | live _ _ vs hvs=>
      cases vs with
      | nil=>have:=hvs.1; simp at this
      | cons v vs=>
       refine AZ S q2 ?_ h;unfold fQ;rw [hy];exact g.set id (.fz _ _ hvs)
    ·rename_i hb;obtain ⟨y,hy,gy⟩:=g.get hb;cases gy with
     | live _ _ vs hvs=>
      cases vs with
      | cons v vs=>have:=hvs.1; simp at this
      | nil=>
       refine AZ S q2 ?_ h
       grind [fQ]
    ·rename_i cs0 hb;obtain ⟨y,hy,gy⟩:=g.get hb;cases gy with
     | fz _ vs hvs=>
      refine AZ S q2 ?_ h
      grind [fQ]
    ·cases h
   ·rename_i hid;rw [hid];exact AZ S q2 g h
  ·cases h1
theorem Up(g:G N W a v)(h:Kj a=true):yU v=true/\eg v=[]/\∀ g,lr g v=v:=by
 cases g with
 | ex v=>
  simp [Kj] at h;split at h
  ·exact ⟨rfl,rfl,λ_=>rfl⟩
  ·cases h
 | ak q sz n row es hn hl hr hh=>unfold mkL; split <;> exact ⟨rfl,rfl,λ_=>rfl⟩
 | ai q sz lo hi row es hl hr hh=>unfold mkL; split <;> exact ⟨rfl,rfl,λ_=>rfl⟩
 | am q sz rows es hl hr hh=>unfold mkL; split <;> exact ⟨rfl,rfl,λ_=>rfl⟩
 | int k e hb=>exact ⟨rfl,rfl,λ_=>rfl⟩
 | iv k lo hi n hb=>exact ⟨rfl,rfl,λ_=>rfl⟩
 | cmp c hb=>exact ⟨rfl,rfl,λ_=>rfl⟩
 | bool b=>exact ⟨rfl,rfl,λ_=>rfl⟩
 | str b=>exact ⟨rfl,rfl,λ_=>rfl⟩
 | agg cs vs hl hh=>exact ⟨rfl,rfl,λ_=>rfl⟩
 | bx p cs vs hl hh=>exact ⟨rfl,rfl,λ_=>rfl⟩
 | _=>cases h
end
end
end Go.Proofs.YtipklgbboecciaaGreat
