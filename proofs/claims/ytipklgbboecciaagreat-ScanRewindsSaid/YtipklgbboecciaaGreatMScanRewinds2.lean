/- Part 2 of the proof of ScanRewinds: an abstract machine over plain values, its soundness, and the functions of the program on plain values. -/
import Derived.Laws.Externs
import Derived.Laws.StructEq
import Derived.ChangeKeysEq
import Derived.Test.YtipklgbboecciaaGreatMScanRewinds1
namespace Go.Proofs.YtipklgbboecciaaGreat
set_option maxRecDepth 100000
set_option linter.unusedVariables false
set_option linter.unusedSimpArgs false
open Option renaming bind_eq_some_iff->Waa,bind_eq_bind->Wab,isNone_iff_eq_none->WaB,map_eq_some_iff->Wag,isSome_iff_exists->WaN
open Option.some renaming injEq->Waf
open List renaming getElem?_eq_some_iff->Wam,getElem?_set_ne->Waw,getElem?_set_self->Wax,getElem?_drop->Waj,getElem?_take->Wai,drop_of_length_le->WaD,getD_eq_getElem?_getD->Wak,getElem?_eq_getElem->Wac,flatten_cons->WaF,mem_of_mem_take->WaI,getElem?_modify->WaJ,drop_eq_getElem_cons->WaM,mem_of_mem_drop->WaP,mem_of_getElem?->WaQ
open Nat renaming le_refl->Wah,mul_le_mul_right->WaA,add_mul->WaC,add_assoc->WaH,zero_le->WaK,sub_self->WaO
open Result renaming andThen_ok->Waz
open _root_.Array renaming getElem?_eq_none->WaE,getElem?_eq_some_iff->WaL,ext'->WaS
open Bool renaming and_eq_true->WaG,false_eq_true->WaR
section
variable {es:Ls}{sz i n:Nat}{v:V}{u:Value}{o:Oper}{op:BinOp}{t t1 t2 e:TypeId}{x:Operand}{sx sy:Src}{s b:Bool}{fn:Func}{f:FuncId}{args:Array Operand}{ats:Array TypeId}{fs:Array Field}
variable {aa:Rn} {we:World} {ωe:Nat->Ow} {U:Nat->Nat->Prop} {O:Nat->Prop} {Z:St} {a:Act} {w:World} {ω:Nat->Ow} {μ:Nat->Nat} {P:Program}
theorem Ze(h:∀ e∈es,e.length=sz)(l:Nat):(es.drop l).flatten=es.flatten.drop (l*sz):=by
 induction es generalizing l with
 | nil=>simp
 | cons e es ih=>
  cases l with
  | zero=>simp
  | succ l=>
   have h1:=h e (by simp);have hm:(l+1)*sz=e.length+l*sz:=by rw [h1,WaC]; omega
   rw [List.drop_succ_cons,ih (λx hx=>h x (by simp [hx])),WaF,hm,List.drop_append];simp
theorem M4(h:∀ e∈es,e.length=sz)(n:Nat):(es.take n).flatten=es.flatten.take (n*sz):=by
 induction es generalizing n with
 | nil=>simp
 | cons e es ih=>
  cases n with
  | zero=>simp
  | succ n=>
   have h1:=h e (by simp);have hm:(n+1)*sz=e.length+n*sz:=by rw [h1,WaC]; omega
   rw [List.take_succ_cons,WaF,WaF,ih (λx hx=>h x (by simp [hx])),hm,List.take_append];rw [List.take_of_length_le (by omega:e.length<=e.length+n*sz)];simp
theorem H4(h:∀ e∈es,e.length=sz)(l n i:Nat)(hv:((es.drop l).take n).flatten[i]?=some v):es.flatten[l*sz+i]?=some v:=by
 have h':∀ e∈es.drop l,e.length=sz:=λe he=>h e (WaP he);rw [M4 h',Ze h] at hv;rw [Wai] at hv;split at hv
 ·rwa [Waj] at hv
 ·cases hv
theorem WT(h:∀ e∈es,e.length=sz){j:Nat}{c:List V}(hj:es[j]?=some c)(i:Nat)(hv:c[i]?=some v):es.flatten[j*sz+i]?=some v:=by
 apply H4 h j 1;have hlt:j<es.length:=(Wam.1 hj).1;have e:(es.drop j).take 1=[c]:=by
  rw [WaM hlt]
  grind
 rw [e]; simpa using hv
theorem eo(sz:Nat):∀ (n:Nat) (cs:List V),(bY sz n cs).length=n
 | 0,_=>rfl
 | n+1,cs=>by simp [bY,eo sz n]
theorem jF(sz:Nat):∀ (n:Nat) (cs:List V),n*sz<=cs.length->∀ e∈bY sz n cs,e.length=sz
 | 0,_,_,e,he=>by simp [bY] at he
 | n+1,cs,h,e,he=>by
  rw [WaC] at h;simp [bY] at he;rcases he with rfl | he
  ·simp; omega
  ·exact jF sz n _ (by simp; omega) e he
theorem ig(sz:Nat):∀ (n:Nat) (cs:List V),(bY sz n cs).flatten=cs.take (n*sz)
 | 0,_=>by simp [bY]
 | n+1,cs=>by
  have hm:(n+1)*sz=sz+n*sz:=by rw [WaC]; omega
  rw [bY,WaF,ig sz n,hm,List.take_add]
def ziG(aa:Rn)(w:World)(Wr:Nat->Nat->Prop)(sz:Nat)(es:Ls)(u:Value):Prop:=
 ∃ (A:Option Addr) (c:Nat) (f:Nat->Value) (k o:Nat),u=.slice A es.length c/\es.length<=c/\(∀ e∈es,e.length=sz)/\(es≠[]->A=some ⟨k,o,none⟩) /\
  (∀ (i:Nat) (v:V),es.flatten[i]?=some v->w.cell? ⟨k,o+i,none⟩=some (f i)/\(f i).oneCell'=true/\RepP aa w Wr v (f i))
theorem RepP.reads{Wr:Nat->Nat->Prop}(h:RepP aa w Wr (.sl sz es) u):ziG aa w Wr sz es u:=by
 obtain ⟨A,c,f,k,o,e,hc,hsz,hA,hcell,h1,h⟩:=h.aV;exact ⟨A,c,f,k,o,e,hc,hsz,hA,λi v hv=>⟨(hcell i v hv).2,h1 i v hv,h i v hv⟩⟩
theorem Rel.ax(R:Rel aa we ωe U O Z a w ω μ){id:Nat}{cs:List V}(h:((Z.b[id]?).getD .gone).cs?=some cs):dS Z.b id=some cs.length/\∃ arr:Array Value,(cs≠[]->∃ T fr,w.heap[μ id]?=some (.cells arr T fr))/\cs.length<=arr.size /\
  ∀ (j:Nat) (c:V),cs[j]?=some c->∃ u,arr[j]?=some u/\u.oneCell'=true/\RepP aa w (wr U ω) c u:=by
 cases hb:Z.b[id]? with
 | none=>simp [hb,B.cs?] at h
 | some x=>
  cases x with
  | gone=>simp [hb,B.cs?] at h
  | live p cs'=>
   cases p with
   | false=>simp [hb,B.cs?] at h
   | true=>
    simp [hb,B.cs?] at h; subst h;rcases R.bs id true _ hb with h0 | ⟨_,arr,T,g1,g2,g3⟩
    ·subst h0;exact ⟨by simp [dS,hb],#[],λh=>absurd rfl h,by simp,λj c hc=>by simp at hc⟩
    refine ⟨by simp [dS,hb],arr,λ_=>⟨T,_,g1⟩,g2,λj c hc=>?_⟩
    grind
  | fz cs'=>
   simp [hb,B.cs?] at h; subst h;obtain ⟨_,arr,T,fr,g1,g2,g3⟩:=R.fs id _ hb;exact ⟨by simp [dS,hb],arr,λ_=>⟨T,fr,g1⟩,g2,g3⟩
  | mp es=>simp [hb,B.cs?] at h
  | dead n=>simp [hb,B.cs?] at h
theorem Rel.view(R:Rel aa we ωe U O Z a w ω μ){l:Loc}(h:Rep aa (env U Z w ω μ) l v u)(hv:i4 Z.b v=some (.sl sz es)):ziG aa w (wr U ω) sz es u:=by
 cases v with
 | sl sz' es'=>cases hv; exact RepP.reads h.aK
 | gs sz' es'=>
  cases hv;exact RepP.reads (Rep.aK (h.ag R.hU l))
 | own id off len sz'=>
  simp [i4,Waa] at hv;obtain ⟨cs,hcs,rfl,rfl⟩:=hv;obtain ⟨hbl,arr,g1,g2,g3⟩:=R.ax hcs;obtain ⟨c,L,A,e,hL,hl,hc,hA⟩:=h.own_inv;have hL':dS Z.b id=some L:=hL;rw [hbl] at hL'; cases hL';refine ⟨A,c,λi=>arr.toList.getD (off+i) undef,μ id,off,by rw [eo]; exact e,by grind [eo],jF _ _ _ (by simp; omega),?_,?_⟩
  ·intro hne;rcases hA with ⟨h1,_⟩ | ⟨h1,_⟩
   ·exact h1
   ·grind [bY]
  ·intro i v hv;rw [ig,Wai] at hv;split at hv
   ·rw [Waj] at hv;obtain ⟨x,hx,h1,h2⟩:=g3 _ _ hv;have hx':arr.toList[off+i]?=some x:=by simpa using hx
    have hd:arr.toList.getD (off+i) undef=x:=by rw [Wak,hx']; rfl
    show _=some (arr.toList.getD (off+i) undef)/\(arr.toList.getD (off+i) undef).oneCell'=true/\RepP aa w (wr U ω) v (arr.toList.getD (off+i) undef);rw [hd];obtain ⟨T,fr,g1⟩:=g1 (by rintro rfl; simp at hv);exact ⟨by rw [cell_of_row _ _ _ _ _ _ g1]; exact hx,h1,h2⟩
   ·cases hv
 | _=>simp [i4] at hv
theorem zeM(R:Rel aa we ωe U O Z a w ω μ){t':TypeId}{y:Operand}(hop:o.op=.binOp op t x y t')(h1:du P aa t1 x=some sx)(h2:du P aa t2 y=some sy)
   (hp:cJ Z (.bin op sx sy)=some v):jC P aa (env U Z w ω μ) a o v:=by
 simp [cJ] at hp;split at hp
 ·rename_i p q hx hy;have ex:=R.opnd h1; rw [hx] at ex;have ey:=R.opnd h2; rw [hy] at ey;simp at hp;obtain ⟨r,hr,rfl⟩:=hp;obtain ⟨g1,g2,g3⟩:=zeR (P:=P) (w:=w) t x y hr;refine ⟨r,?_,λl=>.pure (.sc r g3)⟩;show (execOp a.eval o).run P w=_;simp [execOp,hop,ex.aA.1,ey.aA.1,g1,g2];rfl
 ·cases hp
theorem Wh(w:World)(n:Nat)(t e:TypeId)(A:Option Addr)(b c:Nat)(ht:P.underlying t=some (.slice e)):(Op.equalIn (n+1) t (.slice A b c) (.slice none 0 0)).run P w=.ok A.isNone w:=by
 unfold Op.equalIn;cases A <;> simp [run_underlying ht]
theorem zj7(R:Rel aa we ωe U O Z a w ω μ){t':TypeId}(hop:o.op=.binOp op t x (.const (.slice none 0 0)) t')(ht:P.underlying t=some (.slice e))(ho:op=.eql∨op=.neq)(h1:du P aa t1 x=some sx)
   (hp:cJ Z (.bo (op==.neq) sx)=some v):jC P aa (env U Z w ω μ) a o v:=by
 simp only [cJ] at hp;split at hp
 ·rename_i sz es hx;cases hp;have hr:=(R.opnd h1).ag R.hU (.slot 0 0);rw [hx] at hr;obtain ⟨A,c,f,k,q,ex,hc,hsz,hA,hcell⟩:=(hr.aK).aV;have hq:=Wh (P:=P) w 9999 t e A es.length c ht;have hy:a.eval (.const (.slice none 0 0))=.slice none 0 0:=rfl;refine ⟨.bool (if (op==.neq) then !A.isNone else A.isNone),?_,λl=>?_⟩
  ·show (execOp a.eval o).run P w=_;rcases ho with rfl | rfl
   ·simp [execOp,hop,ex,hy,eqGuard,binOp,Op.equal,Op.maxDepth,hq]; rfl
   ·simp [execOp,hop,ex,hy,eqGuard,binOp,Op.equal,Op.maxDepth,hq]; rfl
  ·by_cases he:es=[]
   ·subst he;exact .ub _
   ·have hA':=hA he;have:es.isEmpty=false:=by grind
    rw [this,hA'];rcases ho with rfl | rfl <;> exact .pure (.sc _ rfl)
 ·cases hp
theorem zkz(R:Rel aa we ωe U O Z a w ω μ){t':TypeId}{y:Operand}(hop:o.op=.binOp op t x y t')(ht:P.underlying t=some .bool)(ho:op=.eql∨op=.neq)(h1:du P aa t1 x=some sx)(h2:du P aa t2 y=some sy)
   (hp:cJ Z (.bH (op==.neq) sx sy)=some v):jC P aa (env U Z w ω μ) a o v:=by
 simp only [cJ] at hp;split at hp
 ·rename_i p q hx hy;cases hp;have ex:=(R.opnd h1).bool hx;have ey:=(R.opnd h2).bool hy;have hq:=run_equalIn_bool' (P:=P) w 9999 t p q ht;rcases ho with rfl | rfl
  ·refine ⟨.bool (p==q),?_,λl=>.pure (.sc _ rfl)⟩;show (execOp a.eval o).run P w=_;simp [execOp,hop,ex,ey,eqGuard,binOp,Op.equal,Op.maxDepth,hq];rfl
  ·refine ⟨.bool (!(p==q)),?_,λl=>.pure (.sc _ rfl)⟩;show (execOp a.eval o).run P w=_;simp [execOp,hop,ex,ey,eqGuard,binOp,Op.equal,Op.maxDepth,hq];rfl
 ·cases hp
theorem zmp(R:Rel aa we ωe U O Z a w ω μ){op:UnOp}(hop:o.op=.unOp op t x)(h1:du P aa t1 x=some sx)
   (hp:cJ Z (.un op sx)=some v):jC P aa (env U Z w ω μ) a o v:=by
 simp [cJ] at hp;split at hp
 ·rename_i p hx;have ex:=R.opnd h1; rw [hx] at ex;simp at hp;obtain ⟨r,hr,rfl⟩:=hp;obtain ⟨g2,g3⟩:=zh1 (P:=P) (w:=w) hr;refine ⟨r,?_,λl=>.pure (.sc r g3)⟩;show (execOp a.eval o).run P w=_;simp [execOp,hop,ex.aA.1,g2];rfl
 ·cases hp
theorem zi8(R:Rel aa we ωe U O Z a w ω μ){s d:TypeId}(hop:o.op=.convert s d x){k' k:IntKind}(hs:P.underlying s=some (.int k'))(hd:P.underlying d=some (.int k))(h1:du P aa t1 x=some sx)
   (hp:cJ Z (.conv k sx)=some v):jC P aa (env U Z w ω μ) a o v:=by
 simp [cJ] at hp;split at hp
 ·rename_i n hx;cases hp;obtain ⟨k2,ex⟩:=(R.opnd h1).int hx;refine ⟨.int k (k.wrap n),?_,λl=>.pure (.sc _ rfl)⟩;show (execOp a.eval o).run P w=_;simp [execOp,hop,ex,convert,run_underlying hs,run_underlying hd,Conv.intToInt];rfl
 ·cases hp
theorem zdk(ns:List Int)(s:ByteArray):ns.foldl (λr n=>r.push (UInt8.ofNat n.toNat)) s=⟨s.data++(ns.map λn=>UInt8.ofNat n.toNat).toArray⟩:=by
 induction ns generalizing s with
 | nil=>simp
 | cons n ns ih=>
  simp_all
theorem HM:∀ {es:Ls} {l:List UInt8},og es=some l->∃ ns:List Int,es.flatten=ns.map (λn=>V.sc (.int .u8 n))/\l=ns.map (λn=>UInt8.ofNat n.toNat)/\es.length=ns.length
 | [],l,h=>by cases h; exact ⟨[],rfl,rfl,rfl⟩
 | e::es,l,h=>by
  unfold og at h;split at h
  ·rename_i heq; cases heq
  ·rename_i n es' heq;cases heq;simp at h;obtain ⟨l',h1,rfl⟩:=h;obtain ⟨ns,e1,e2,e3⟩:=HM h1;exact ⟨n::ns,by simp [e1],by simp [e2],by simp [e3]⟩
  ·cases h
theorem zhI(R:Rel aa we ωe U O Z a w ω μ){s d:TypeId}(hop:o.op=.convert s d x)(hs:P.underlying s=some (.slice e))(hd:P.underlying d=some .string)(he:P.underlying e=some (.int .u8))(h1:du P aa t1 x=some sx)
   (hp:cJ Z (.toStr sx)=some v):jC P aa (env U Z w ω μ) a o v:=by
 simp [cJ] at hp;split at hp
 ·rename_i es hv;simp at hp;obtain ⟨bs,hb,rfl⟩:=hp;obtain ⟨ns,e1,e2,e3⟩:=HM hb;obtain ⟨A,c,f,k,o',eu,hc,hsz,hA,hcell⟩:=R.view (R.opnd h1) hv;refine ⟨.string ⟨bs.toArray⟩,?_,λl=>.pure (.sc _ rfl)⟩;show (execOp a.eval o).run P w=_;have hr:(Conv.bytesToString (.slice A es.length c)).run P w=.ok (.string ⟨bs.toArray⟩) w:=by
   have key:∀ ad:Addr,A=some ad->(loadCells ad es.length).run P w=.ok (ns.map (Value.int .u8)).toArray w->(Conv.bytesToString (.slice A es.length c)).run P w=.ok (.string ⟨bs.toArray⟩) w:=by
    intro ad e h;subst e;rw [run_bytesToString w ad es.length c ns h,zdk];simp [e2]
   have hz:es=[]->∀ ad,(loadCells ad es.length).run P w=.ok (ns.map (Value.int .u8)).toArray w:=by
    intro he0 ad;subst he0;have:ns=[]:=by grind
    subst this;rfl
   by_cases hne:es=[]
   ·cases A with
    | none=>
     subst hne;have:ns=[]:=by grind
     subst this;simp [e2,Conv.bytesToString];rfl
    | some ad=>exact key ad rfl (hz hne ad)
   ·refine key _ (hA hne) ?_;have hl:=run_loadCells_list (P:=P) w ⟨k,o',none⟩ (ns.map (Value.int .u8)) (λj u hu=>by
     rw [mB];rw [List.getElem?_map] at hu;cases hn:ns[j]? with
     | none=>simp [hn] at hu
     | some n=>
      simp [hn] at hu;obtain ⟨g1,g2,g3⟩:=hcell j (.sc (.int .u8 n)) (by grind);have:=(Rep.pure (E:=env U Z w ω μ) (l:=.slot 0 0) g3).aA.1;rw [g1,this,<- hu])
    simpa [e3] using hl
  simp [execOp,hop,eu,run_convert_bytes_string w s d e _ _ _ hs he hd,hr];rfl
 ·cases hp
theorem Uh(R:Rel aa we ωe U O Z a w ω μ)(h1:du P aa t1 x=some sx)(hv:i4 Z.b (sx.get Z)=some (.sl 1 es)){bs:List UInt8}(hb:og es=some bs):(Extern.Bytes.bytesOf (a.eval x)).run P w=.ok ⟨bs.toArray⟩ w:=by
 obtain ⟨ns,e1,e2,e3⟩:=HM hb;obtain ⟨A,c,f,k,o',eu,hc,hsz,hA,hcell⟩:=R.view (R.opnd h1) hv;rw [eu];by_cases hne:es=[]
 ·have:ns=[]:=by grind
  subst this;subst hne;cases A with
  | none=>simp [e2,Extern.Bytes.bytesOf]; rfl
  | some ad=>simp [e2,Extern.Bytes.bytesOf,Extern.Bytes.loadBytes]; rfl
 ·rw [hA hne];have hl:=Lib.run_loadBytesX (P:=P) w ns ⟨k,o',none⟩ .empty (λj n hn=>by
   rw [mB];obtain ⟨g1,g2,g3⟩:=hcell j (.sc (.int .u8 n)) (by grind);have:=(Rep.pure (E:=env U Z w ω μ) (l:=.slot 0 0) g3).aA.1;rw [g1,this])
  show (Extern.Bytes.loadBytes _ es.length .empty).run P w=_;rw [e3,hl,e2];have:Lib.bytesOf ns=ns.map λn=>UInt8.ofNat n.toNat:=rfl;rw [this];congr 2;simp
theorem zhq(h:fn.name="internal/bytealg.Compare"):Extern.find fn=some Extern.BytealgCompare.compare:=by
 have e1:(Extern.allGenericRows.lookup "internal/bytealg.Compare").isNone=true:=by kernel_rfl
 have e2:(Extern.allTypedRows.lookup "internal/bytealg.Compare").isNone=true:=by kernel_rfl
 have e3:Extern.allRows.lookup "internal/bytealg.Compare"=some Extern.BytealgCompare.compare:=by kernel_rfl
 rw [WaB] at e1 e2;simp [Extern.find,h,e1,e2,e3]
theorem zj5(R:Rel aa we ωe U O Z a w ω μ)(hop:o.op=.call { callee:=.value (.func f),args:=args,argTypes:=ats })(hf:zeg P f=true){y:Operand}(hargs:args.toList=[x,y])(h1:du P aa t1 x=some sx)(h2:du P aa t2 y=some sy)
   (hp:cJ Z (.bk sx sy)=some v):jC P aa (env U Z w ω μ) a o v:=by
 simp [cJ] at hp;split at hp
 ·rename_i es fs hv1 hv2;split at hp
  ·rename_i b1 b2 hb1 hb2;cases hp;refine ⟨.int .i64 (Lib.compareBytes b1 b2),?_,λl=>.pure (.sc _ rfl)⟩;show (execOp a.eval o).run P w=.ok _ w;unfold zeg at hf;cases hfn:P.funcs[f]? with
   | none=>simp [hfn] at hf
   | some fn=>
    simp only [hfn,WaG,beq_iff_eq] at hf;obtain ⟨⟨hb,hname⟩,hnx⟩:=hf;have ef:a.eval (.func f)=.func (.func f) #[] #[]:=rfl;simp only [execOp,hop,resolve,ef,Deferred.ofValue,Sem.run_bind,Sem.run_pure,Waz,invoke];rw [show #[]++args.map a.eval++#[]=#[a.eval x,a.eval y] by apply WaS; simp [hargs]];rw [run_callFunc_extern hfn (by rw [hname]; rfl) hb (WaB.1 hnx) (zhq hname)];rw [show Extern.BytealgCompare.compare #[a.eval x,a.eval y]=(do pure (goInt (Extern.BytealgCompare.cmp (<- Extern.Bytes.bytesOf (a.eval x)) (<- Extern.Bytes.bytesOf (a.eval y)))):Sem Value) from rfl];simp only [Sem.run_bind,Uh R h1 hv1 hb1,Uh R h2 hv2 hb2,Waz,Sem.run_pure,Lib.cmp_eq,goInt]
  ·cases hp
 ·cases hp
def UR:Array Value->Sem Value:=λargs=>do
 let (x,y,b) <- Extern.MathBitsCarry.three "Sub64" args
 pure (Extern.MathBitsCarry.pair ((x+Extern.MathBitsCarry.m64-y-b) % Extern.MathBitsCarry.m64) (if x<y+b then 1 else 0))
def zhJ(s:Bool):Array Value->Sem Value:=if s then UR else add64Entry
theorem zhe(h:fn.name=if s then "math/bits.Sub64" else "math/bits.Add64"):Extern.find fn=some (zhJ s):=by
 have e1:(Extern.allGenericRows.lookup "math/bits.Add64").isNone=true:=by kernel_rfl
 have e2:(Extern.allTypedRows.lookup "math/bits.Add64").isNone=true:=by kernel_rfl
 have e3:Extern.allRows.lookup "math/bits.Add64"=some add64Entry:=by kernel_rfl
 have f1:(Extern.allGenericRows.lookup "math/bits.Sub64").isNone=true:=by kernel_rfl
 have f2:(Extern.allTypedRows.lookup "math/bits.Sub64").isNone=true:=by kernel_rfl
 have f3:Extern.allRows.lookup "math/bits.Sub64"=some UR:=by kernel_rfl
 rw [WaB] at e1 e2 f1 f2;cases s <;> simp [Extern.find,h,e1,e2,e3,f1,f2,f3,zhJ]
theorem zjO(s:Bool)(x y c:Int)(hc:c=0∨c=1):(zhJ s #[.int .u64 x,.int .u64 y,.int .u64 c]).run P w=.ok (.tuple #[.int .u64 (LT s x y c),.int .u64 (MK s x y c)]) w:=by
 rcases hc with rfl | rfl <;> cases s <;> rfl
theorem zlE(R:Rel aa we ωe U O Z a w ω μ)(hop:o.op=.call { callee:=.value (.func f),args:=args,argTypes:=ats })(hf:Zz P f=some s){y z:Operand}(hargs:args.toList=[x,y,z]){sz:Src}{t3:TypeId}(h1:du P aa t1 x=some sx)(h2:du P aa t2 y=some sy)(h3:du P aa t3 z=some sz)
   (hp:cJ Z (.adc s sx sy sz)=some v):jC P aa (env U Z w ω μ) a o v:=by
 simp [cJ] at hp;split at hp
 ·rename_i x0 y0 z0 hx hy hz;split at hp
  ·rename_i hc;cases hp;have ex:=R.opnd h1; rw [hx] at ex; have ex:=ex.aA.1;have ey:=R.opnd h2; rw [hy] at ey; have ey:=ey.aA.1;have ez:=R.opnd h3; rw [hz] at ez; have ez:=ez.aA.1;refine ⟨.tuple #[.int .u64 (LT s x0 y0 z0),.int .u64 (MK s x0 y0 z0)],?_,λl=>.ae _ [.int .u64 (LT s x0 y0 z0),.int .u64 (MK s x0 y0 z0)] rfl (λj v u hv hu=>?_)⟩
   ·show (execOp a.eval o).run P w=.ok _ w;unfold Zz at hf;cases hfn:P.funcs[f]? with
    | none=>simp [hfn] at hf
    | some fn=>
     simp only [hfn] at hf;split at hf
     ·rename_i hb;simp only [WaG] at hb;obtain ⟨hb,hnx⟩:=hb;have hname:fn.name=if s then "math/bits.Sub64" else "math/bits.Add64":=by
       grind
      have ef:a.eval (.func f)=.func (.func f) #[] #[]:=rfl;simp only [execOp,hop,resolve,ef,Deferred.ofValue,Sem.run_bind,Sem.run_pure,Waz,invoke];rw [show #[]++args.map a.eval++#[]=#[a.eval x,a.eval y,a.eval z] by apply WaS; simp [hargs]];rw [run_callFunc_extern hfn (by rw [hname]; cases s <;> rfl) hb (WaB.1 hnx) (zhe hname)];simp only [ex,ey,ez,zjO s _ _ _ hc,Waz,Sem.run_pure]
     ·cases hf
   ·match j,hv,hu with
    | 0,hv,hu=>cases hv; cases hu; exact .pure (.sc _ rfl)
    | 1,hv,hu=>cases hv; cases hu; exact .pure (.sc _ rfl)
    | j+2,hv,hu=>simp at hv
  ·cases hp
 ·cases hp
theorem ZR(R:Rel aa we ωe U O Z a w ω μ)(hop:o.op=.fieldAddr t x i){f:Field}(ht:P.underlying t=some (.struct fs))(hf:fs[i]?=some f)(hn:eJ P f.type=some n)(hn0:n≠0)
    (h1:du P aa t1 x=some sx)  (hp:cJ Z (.fieldAddr f.offset sx)=some v):jC P aa (env U Z w ω μ) a o v:=by
 have hr:=R.opnd h1;have run:∀ k q,a.eval x=.pointer (some ⟨k,q,none⟩)->(execOp a.eval o).run P w=.ok (.value (.pointer (some ⟨k,q+f.offset,none⟩))) w:=by
  intro k q e;simp [execOp,hop,e,Instr.fieldAt,run_underlying ht,hf,Instr.sureAddr,fieldPlace,hH hn,hn0,mB]
 simp only [cJ] at hp;split at hp
 ·rename_i id off hg;cases hp;rw [hg] at hr;obtain ⟨L,hL,e⟩:=hr.ar;exact ⟨_,run _ _ e,λl=>.ptr id _ L hL⟩
 ·rename_i m cs hg;split at hp
  ·cases hp;rw [hg] at hr;obtain ⟨k,q,g,e,hl,hcell,h1,h⟩:=hr.a6;refine ⟨_,run _ _ e,λl=>.fp _ _ k (q+f.offset) (λi=>g (f.offset+i)) (by simp [hl]) (λi v hv=>?_) (λi v hv=>?_) (λi v hv=>?_)⟩ <;> rw [Waj] at hv
   ·have:=hcell _ _ hv; rw [WaH]; exact this
   ·exact h1 _ _ hv
   ·exact h _ _ hv
  ·cases hp
 ·cases hp
theorem Do(h1:iC P t=some b)(h2:eJ P t=some n)(us:List Value)(off:Nat)(w:World):(part t us.toArray off).run P w=if b then .ok (.agg ((us.drop off).take n).toArray) w else match us[off]? with | some v=>.ok v w | none=>(stuck "part: no such cell":Sem Value).run P w:=by
 unfold part;rw [Sem.run_bind,Pa h1];cases b
 ·simp only [Waz,WaR,if_false];have:us.toArray[off]?=us[off]?:=by simp
  rw [this];cases us[off]? <;> rfl
 ·simp [hH h2,List.drop_take]
theorem zhG(R:Rel aa we ωe U O Z a w ω μ)(hop:o.op=.field t x i){f:Field}(ht:P.underlying t=some (.struct fs))(hf:fs[i]?=some f)(hb:iC P f.type=some b)(hn:eJ P f.type=some n)
    (h1:du P aa t1 x=some sx)  (hp:cJ Z (.field b f.offset n sx)=some v):jC P aa (env U Z w ω μ) a o v:=by
 have hr:=R.opnd h1;simp [cJ] at hp;split at hp
 ·rename_i cs hg;rw [hg] at hr;obtain ⟨us,eu,hc⟩:=CellsP.of_agg hr.aZ;cases b with
  | true=>
   simp at hp; subst hp;refine ⟨.agg ((us.drop f.offset).take n).toArray,?_,λl=>.pure (hc.dropTake f.offset n).agg⟩;show (execOp a.eval o).run P w=_;simp [execOp,hop,eu,Instr.field,run_underlying ht,hf,asAgg,Do hb hn];rfl
  | false=>
   simp at hp;obtain ⟨u,g1,g2,g3⟩:=hc.2 _ _ hp;refine ⟨u,?_,λl=>.pure g3⟩;show (execOp a.eval o).run P w=_;simp [execOp,hop,eu,Instr.field,run_underlying ht,hf,asAgg,Do hb hn,g1];rfl
 ·rename_i cs hg;rw [hg] at hr;obtain ⟨us,eu,hl,hc,h1⟩:=hr.st_inv;cases b with
  | true=>simp at hp
  | false=>
   simp at hp;have hlt:f.offset<us.length:=by grind
   have g1:us[f.offset]?=some us[f.offset]:=Wac hlt;refine ⟨us[f.offset],?_,λl=>?_⟩
   ·show (execOp a.eval o).run P w=_;simp [execOp,hop,eu,Instr.field,run_underlying ht,hf,asAgg,Do hb hn,g1];rfl
   ·rcases hc _ _ _ hp g1 with h | h
    ·exact .pure h
    ·exact h.rep l
 ·cases hp
theorem zgE(R:Rel aa we ωe U O Z a w ω μ){i:Operand}(hop:o.op=.index t x i){len:Nat}(ht:P.underlying t=some (.array len e))(hb:iC P e=some b)(hn:eJ P e=some n)
  {si:Src}  (h1:du P aa t1 x=some sx) (h2:du P aa t2 i=some si)  (hp:cJ Z (.aR b len n sx si)=some v):jC P aa (env U Z w ω μ) a o v:=by
 have hr:=R.opnd h1;simp [cJ] at hp;split at hp
 ·rename_i j hj;obtain ⟨k,ei⟩:=(R.opnd h2).int hj;split at hp
  ·rename_i hb';split at hp
   ·rename_i cs hg;rw [hg] at hr;obtain ⟨us,eu,hc⟩:=CellsP.of_agg hr.aZ;cases b with
    | true=>
     simp at hp; subst hp;refine ⟨.agg ((us.drop (j.toNat*n)).take n).toArray,?_,λl=>.pure (hc.dropTake _ n).agg⟩;show (execOp a.eval o).run P w=_;simp [execOp,hop,eu,ei,Instr.index,asIntOf,run_underlying ht,hb',hH hn,Do hb hn];rfl
    | false=>
     simp at hp;obtain ⟨u,g1,g2,g3⟩:=hc.2 _ _ hp;refine ⟨u,?_,λl=>.pure g3⟩;show (execOp a.eval o).run P w=_;simp [execOp,hop,eu,ei,Instr.index,asIntOf,run_underlying ht,hb',hH hn,Do hb hn,g1];rfl
   ·cases hp
  ·cases hp
 ·cases hp
end
section
variable {ty t e t1 t2:TypeId}{x:Operand}{n sz:Nat}{hi:Option Operand}{shi:Option Src}{o:Oper}{sx:Src}{v:V}
variable {aa:Rn} {we:World} {ωe:Nat->Ow} {U:Nat->Nat->Prop} {O:Nat->Prop} {Z:St} {a:Act} {w:World} {ω:Nat->Ow} {μ:Nat->Nat} {P:Program}
theorem Ay(R:Rel aa we ωe U O Z a w ω μ){x:Option Operand}{s:Option Src}(h:lg P aa ty x=some s){d most:Nat}(hb:pp Z s d most=some n)(code:BoundsCode)(most':Nat)(hm:most<=most') :
  (x=none/\s=none/\n=d)∨(∃ y v,x=some y/\s.isSome=true/\a.eval y=v/\n<=most/\(Instr.sliceBound v most' code).run P w=.ok n w):=by
 cases x with
 | none=>cases h; cases hb; exact .inl ⟨rfl,rfl,rfl⟩
 | some y=>
  cases hc:du P aa ty y with
  | none=>simp [lg,hc] at h
  | some s'=>
   simp [lg,hc] at h; subst h;simp [pp] at hb;split at hb
   ·rename_i i hi;split at hb
    ·rename_i hr;cases hb;obtain ⟨k,e⟩:=(R.opnd hc).int hi;refine .inr ⟨y,_,rfl,rfl,rfl,by omega,?_⟩;rw [e];exact run_sliceBound w k i most' code hr.1 (by omega)
    ·cases hb
   ·cases hb
theorem w6(R:Rel aa we ωe U O Z a w ω μ){lo mx:Option Operand}{slo smx:Option Src}(h1:lg P aa ty lo=some slo)(h2:lg P aa ty hi=some shi)(h3:lg P aa ty mx=some smx)(hmx:(mx.isSome&&hi.isNone)=false)
  {len l h m:Nat} (hb:j1 Z len slo shi smx=some (l,h,m)) (isS:Bool) (cap:Nat) (hc:len<=cap) :
  ∃ m',(Instr.sliceBounds isS len cap (lo.map a.eval) (hi.map a.eval) (mx.map a.eval)).run P w=.ok (l,h,m') w/\l<=h/\h<=m/\m<=len/\h<=m'/\m'<=cap/\(smx.isSome=true->m'=m)/\(smx.isSome=false->m'=cap/\m=len):=by
 simp [j1,Waa] at hb;obtain ⟨m0,hm,h0,hh,l0,hl,rfl,rfl,rfl⟩:=hb;rcases Ay R h3 hm (if isS then .slice3Acap else .slice3Alen) cap hc with ⟨rfl,rfl,rfl⟩ | ⟨my,mv,rfl,hms,rfl,hml,hmr⟩
 ·rcases Ay R h2 hh (if isS then .sliceAcap else .sliceAlen) cap hc with ⟨rfl,rfl,rfl⟩ | ⟨hy,hv,rfl,hhs,rfl,hhl,hhr⟩
  ·rcases Ay R h1 hl .sliceB _ (Wah _) with ⟨rfl,rfl,rfl⟩ | ⟨ly,lv,rfl,hls,rfl,hll,hlr⟩
   ·exact ⟨cap,by simp [Instr.sliceBounds],by omega,by omega,by omega,by omega,by omega,by simp,by simp⟩
   ·exact ⟨cap,by simp [Instr.sliceBounds,hlr],by omega,by omega,by omega,by omega,by omega,by simp,by simp⟩
  ·rcases Ay R h1 hl .sliceB h0 (Wah _) with ⟨rfl,rfl,rfl⟩ | ⟨ly,lv,rfl,hls,rfl,hll,hlr⟩
   ·exact ⟨cap,by simp [Instr.sliceBounds,hhr],by omega,by omega,by omega,by omega,by omega,by simp,by simp⟩
   ·exact ⟨cap,by simp [Instr.sliceBounds,hhr,hlr],by omega,by omega,by omega,by omega,by omega,by simp,by simp⟩
 ·rcases Ay R h2 hh .slice3B m0 (Wah _) with ⟨rfl,rfl,rfl⟩ | ⟨hy,hv,rfl,hhs,rfl,hhl,hhr⟩
  ·simp at hmx
  ·rcases Ay R h1 hl .slice3C h0 (Wah _) with ⟨rfl,rfl,rfl⟩ | ⟨ly,lv,rfl,hls,rfl,hll,hlr⟩
   ·exact ⟨m0,by simp [Instr.sliceBounds,hmr,hhr],by omega,by omega,by omega,by omega,by omega,by simp,by simp [hms]⟩
   ·exact ⟨m0,by simp [Instr.sliceBounds,hmr,hhr,hlr],by omega,by omega,by omega,by omega,by omega,by simp,by simp [hms]⟩
theorem zfF(R:Rel aa we ωe U O Z a w ω μ){lo mx:Option Operand}(hop:o.op=.slice t x lo hi mx)(hmx:(mx.isSome&&hi.isNone)=false)(ht:P.underlying t=some (.slice e))(hn:eJ P e=some sz)
   {slo smx:Option Src}  (h0:du P aa t1 x=some sx) (h1:lg P aa t2 lo=some slo) (h2:lg P aa t2 hi=some shi) (h3:lg P aa t2 mx=some smx)
   (hp:cJ Z (.aT sz sx slo shi smx)=some v):jC P aa (env U Z w ω μ) a o v:=by
 have hr:=(R.opnd h0).ag R.hU (.slot 0 0);have run:∀ A len c l h m',a.eval x=.slice A len c->(Instr.sliceBounds true len c (lo.map a.eval) (hi.map a.eval) (mx.map a.eval)).run P w=.ok (l,h,m') w ->
   (execOp a.eval o).run P w=.ok (.value (.slice (if m'=l then A else A.map (·.add (l*sz))) (h-l) (m'-l))) w:=by
  intro A len c l h m' e1 e2;simp [execOp,hop,e1,Instr.sliceAt,Instr.slice,run_underlying ht,hH hn,e2]
 simp only [cJ] at hp;split at hp
 ·rename_i sz' es hg;rw [hg] at hr;simp only [Wab,Waa] at hp;obtain ⟨⟨l,h,m⟩,hb,hp⟩:=hp;simp only at hp;split at hp
  ·rename_i hs;cases hp;subst hs;obtain ⟨A,c,f,k,q,eu,hc,hsz,hA,hcell,g1,g2⟩:=hr.aK.aV;obtain ⟨m',hrun,b1,b2,b3,b4,b5,b6,b7⟩:=w6 R h1 h2 h3 hmx hb true c hc;refine ⟨_,run A es.length c l h m' eu hrun,λlo'=>?_⟩;split
   ·rename_i hm;have:=b6 hm.1;obtain rfl:m'=l:=by omega
    obtain rfl:h=m':=by omega
    simp only [if_pos,WaO];exact .aU _ _
   ·have hlen:((es.drop l).take (h-l)).length=h-l:=by simp; omega
    have key:=RepP.sl (aa:=aa) (w:=w) (Wr:=wr U ω) sz ((es.drop l).take (h-l)) (if m'=l then A else A.map (·.add (l*sz))) (m'-l) (λi=>f (l*sz+i)) (by omega)
     (λe he=>hsz e (WaP (WaI he))) k (q+l*sz)
     (λhne=>by
      have h1:0<h-l:=by grind
      have h2:es≠[]:=by rintro rfl; simp at hne
      grind [mB])
     (λi v hv=>by have:=hcell _ _ (H4 hsz _ _ _ hv); rw [WaH]; exact this)
     (λi v hv=>g1 _ _ (H4 hsz _ _ _ hv)) (λi v hv=>g2 _ _ (H4 hsz _ _ _ hv))
    rw [hlen] at key;exact .pure key
  ·cases hp
 ·rename_i id off len sz' hg;rw [hg] at hr;simp only [Wab,Waa] at hp;obtain ⟨⟨l,h,m⟩,hb,hp⟩:=hp;simp only at hp;split at hp
  ·rename_i hs;cases hp;subst hs;obtain ⟨c,L,A,eu,hL,hl,hc,hA⟩:=hr.own_inv;obtain ⟨hc,hz⟩:=hc;obtain ⟨m',hrun,b1,b2,b3,b4,b5,b6,b7⟩:=w6 R h1 h2 h3 hmx hb true c hc;refine ⟨_,run A len c l h m' eu hrun,λlo'=>?_⟩;cases hsm:smx.isSome with
   | true=>
    have hmm:=b6 hsm;simp only [if_true];by_cases hml:m=l
    ·rw [if_pos hml];obtain rfl:m'=l:=by omega
     obtain rfl:h=m':=by omega
     simp only [if_pos,WaO];exact .aU _ _
    ·rw [if_neg hml]; exact .af
   | false=>
   simp only [WaR,if_false];have hmul:l*sz+(h-l)*sz=h*sz:=by rw [<- WaC]; congr 1; omega
   have hle:h*sz<=len*sz:=WaA sz (by omega);refine .own id (off+l*sz) (h-l) sz (m'-l) L _ hL (by omega) ⟨by omega,λh0=>by grind⟩ ?_;rcases hA with ⟨e1,e2⟩ | ⟨e1,e2⟩
   ·by_cases hml:m'=l
    ·exact .inr ⟨by omega,by omega⟩
    ·refine .inl ⟨by grind [mB],?_⟩;have hmul2:l*sz+(m'-l)*sz=m'*sz:=by rw [<- WaC]; congr 1; omega
     have hle2:m'*sz<=c*sz:=WaA sz (by omega);omega
   ·exact .inr ⟨by omega,by omega⟩
  ·cases hp
 ·rename_i id off len cap sz' hg;rw [hg] at hr;split at hp
  ·rename_i hcd;obtain ⟨hhi,hmn⟩:=hcd;obtain rfl:smx=none:=by cases smx <;> simp_all
   simp only [Wab,Waa] at hp;obtain ⟨⟨l,h,m⟩,hb,hp⟩:=hp;simp only at hp;split at hp
   ·rename_i hs;cases hp;subst hs;obtain ⟨c,L,A,eu,hL,hl,hc,hA⟩:=hr.cut_inv;obtain ⟨hlc,hc,hz⟩:=hc;obtain ⟨m',hrun,b1,b2,b3,b4,b5,b6,b7⟩:=w6 R h1 h2 h3 hmx hb true c hc;have hrun':(Instr.sliceBounds true len c (lo.map a.eval) (hi.map a.eval) (mx.map a.eval)).run P w=.ok (l,h,m') w:=by
     cases hi with
     | none=>cases h2; simp at hhi
     | some y=>
      cases mx with
      | none=>exact hrun
      | some y=>cases hq:du P aa t2 y <;> simp [lg,hq] at h3
    refine ⟨_,run A len c l h m' eu hrun',λlo'=>?_⟩;have hmul:l*sz+(h-l)*sz=h*sz:=by rw [<- WaC]; congr 1; omega
    have hle:h*sz<=cap*sz:=WaA sz (by omega);refine .own id (off+l*sz) (h-l) sz (m'-l) L _ hL (by omega) ⟨by omega,λh0=>by grind⟩ ?_;rcases hA with ⟨e1,e2⟩ | ⟨e1,e2⟩
    ·by_cases hml:m'=l
     ·exact .inr ⟨by omega,by omega⟩
     ·refine .inl ⟨by grind [mB],?_⟩;have hmul2:l*sz+(m'-l)*sz=m'*sz:=by rw [<- WaC]; congr 1; omega
      have hle2:m'*sz<=c*sz:=WaA sz (by omega);omega
    ·exact .inr ⟨by omega,by omega⟩
   ·cases hp
  ·cases hp
 ·cases hp
theorem Rt{es:Ls}(hsz:∀ e∈es,e.length=sz)(i:Nat)(v:V)(hv:(es.take n).flatten[i]?=some v):es.flatten[i]?=some v:=by
 have:=H4 hsz 0 n i (v:=v) (by simpa using hv);simpa using this
theorem zeT(R:Rel aa we ωe U O Z a w ω μ){y z:Operand}(hop:o.op=.slice t x none (some y) (some z))(ht:P.underlying t=some (.slice e))(hn:eJ P e=some sz)
  {sy sw:Src}  (h0:du P aa t1 x=some sx) (h2:du P aa t2 y=some sy) (h2':du P aa t2 z=some sw)
   (hp:cJ Z (.aD sz sx sy sw)=some v):jC P aa (env U Z w ω μ) a o v:=by
 have hr:=(R.opnd h0).ag R.hU (.slot 0 0);simp [cJ] at hp;split at hp
 ·rename_i sz' es i i2 hg hi hi2;rw [hg] at hr;split at hp
  ·rename_i hc;obtain ⟨hc0,hc1,rfl,rfl,hful⟩:=hc;cases hp;obtain ⟨A,c,f,k,q,eu,hc,hsz,hA,hcell,g1,g2⟩:=hr.aK.aV;have h3:lg P aa t2 (some y)=some (some sy):=by simp [lg,h2]
   have h3':lg P aa t2 (some z)=some (some sw):=by simp [lg,h2']
   have hb:j1 Z es.length none (some sy) (some sw)=some (0,i.toNat,i.toNat):=by
    have e1:pp Z (some sw) es.length es.length=some i.toNat:=by simp only [pp,hi2]; rw [if_pos ⟨hc0,hc1⟩]
    grind [pp,j1]
   obtain ⟨m',hrun,b1,b2,b3,b4,b5,b6,b7⟩:=w6 (P:=P) R (show lg P aa t2 none=some none from rfl) h3 h3' rfl hb true c hc;obtain rfl:=b6 rfl;have run:(execOp a.eval o).run P w=.ok (.value (.slice (if i.toNat=0 then A else A.map (·.add (0*sz))) (i.toNat-0) (i.toNat-0))) w:=by
    simp at hrun;simp [execOp,hop,eu,Instr.sliceAt,Instr.slice,run_underlying ht,hH hn,hrun]
   refine ⟨_,run,λlo'=>?_⟩;have hle:i.toNat<=es.length:=by omega
   have hlen:(es.take i.toNat).length=i.toNat:=by simp; omega
   have key:=RepP.bv (aa:=aa) (w:=w) (Wr:=wr U ω) sz (es.take i.toNat) (if i.toNat=0 then A else A.map (·.add (0*sz))) f
    (λe he=>hsz e (WaI he)) k q
    (λhne=>by
     have h1:0<i.toNat:=by grind
     have h2:es≠[]:=by rintro rfl; simp at hne
     grind [mB])
    (λj v hv=>hcell _ _ (Rt hsz _ _ hv))
    (λj v hv=>g1 _ _ (Rt hsz _ _ hv)) (λj v hv=>g2 _ _ (Rt hsz _ _ hv)) (.inr hful)
   rw [hlen] at key;exact .pure key
  ·cases hp
 ·cases hp
theorem zfl(R:Rel aa we ωe U O Z a w ω μ)(hop:o.op=.slice t x none hi none)(ht:P.underlying t=some (.slice e))(hn:eJ P e=some sz)
     (h0:du P aa t1 x=some sx) (h2:lg P aa t2 hi=some shi)
   (hp:cJ Z (.aY sz sx shi)=some v):jC P aa (env U Z w ω μ) a o v:=by
 have hr:=R.opnd h0;simp only [cJ] at hp;split at hp
 ·rename_i id off len sz' hg;rw [hg] at hr;simp only [Wab,Waa] at hp;obtain ⟨⟨l,h,m⟩,hb,hp⟩:=hp;simp only at hp;split at hp
  ·rename_i hs;obtain ⟨rfl,_⟩:=hs;cases hp;obtain ⟨c,L,A,eu,hL,hl,hc,hA⟩:=hr.own_inv;obtain ⟨hc,hz⟩:=hc;obtain ⟨m',hrun,b1,b2,b3,b4,b5,b6,b7⟩:=w6 (P:=P) (lo:=none) (mx:=none) R (show lg P aa t2 none=some none from rfl) h2 (show lg P aa t2 none=some none from rfl) rfl hb true c hc;have hm':=(b7 rfl).1;have hl0:l=0:=by
    simp only [j1,pp,Wab,Waa,Option.pure_def,Waf,Prod.mk.injEq] at hb
    grind
   subst hl0;have run:(execOp a.eval o).run P w=.ok (.value (.slice (if m'=0 then A else A.map (·.add (0*sz))) (h-0) (m'-0))) w:=by
    simp [execOp,hop,eu,Instr.sliceAt,Instr.slice,run_underlying ht,hH hn] at hrun ⊢;simp [hrun]
   refine ⟨_,run,λlo'=>?_⟩;refine .cut id off h len sz (m'-0) L _ hL hl ⟨by omega,by omega,λh0=>by grind⟩ ?_;rcases hA with ⟨e1,e2⟩ | ⟨e1,e2⟩
   ·by_cases hml:m'=0
    ·exact .inr ⟨by omega,by omega⟩
    ·refine .inl ⟨by grind [mB],?_⟩;rw [Nat.sub_zero,hm']; exact e2
   ·exact .inr ⟨by omega,by omega⟩
  ·cases hp
 ·cases hp
theorem Rel.live_size(R:Rel aa we ωe U O Z a w ω μ){id:Nat}{p:Bool}{cs:List V}(h:Z.b[id]?=some (.live p cs)):dS Z.b id=some cs.length/\cs.length<=eR w (μ id):=by
 rcases R.bs id p cs h with h0 | ⟨_,arr,T,g1,g2,_⟩
 ·grind [dS]
 ·grind [dS,eR]
theorem ze5(R:Rel aa we ωe U O Z a w ω μ){lo mx:Option Operand}(hop:o.op=.slice t x lo hi mx)(hmx:(mx.isSome&&hi.isNone)=false)(ht:P.underlying t=some (.array n e))(hn:eJ P e=some sz)(hpos:0<sz)
   {slo smx:Option Src}  (h0:du P aa t1 x=some sx) (h1:lg P aa t2 lo=some slo) (h2:lg P aa t2 hi=some shi) (h3:lg P aa t2 mx=some smx)
   (hp:cJ Z (.ay n sz sx slo shi smx)=some v):jC P aa (env U Z w ω μ) a o v:=by
 have hr:=R.opnd h0;simp only [cJ,Wab,Waa] at hp;obtain ⟨⟨l,h,m⟩,hb,hp⟩:=hp;simp only at hp;obtain ⟨m',hrun,b1,b2,b3,b4,b5,b6,b7⟩:=w6 R h1 h2 h3 hmx hb false n (Wah n);have hmm:m'=m:=by
  cases hs:smx.isSome with
  | true=>exact b6 hs
  | false=>have:=b7 hs; omega
 subst hmm;have run:∀ k q,a.eval x=.pointer (some ⟨k,q,none⟩)->(execOp a.eval o).run P w=.ok (.value (.slice (some (if m'=l then ⟨k,q,none⟩ else ⟨k,q+l*sz,none⟩)) (h-l) (m'-l))) w:=by
  intro k q e1;simp [execOp,hop,e1,Instr.sliceAt,run_underlying ht,hH hn,hrun,Instr.sureAddr,mB]
 have hmul:l*sz+(h-l)*sz=h*sz:=by rw [<- WaC]; congr 1; omega
 have hle:h*sz<=n*sz:=WaA sz (by omega);have hmul2:l*sz+(m'-l)*sz=m'*sz:=by rw [<- WaC]; congr 1; omega
 have hle2:m'*sz<=n*sz:=WaA sz (by omega);have own:∀ id off L,sx.get Z=.ptr id off->dS Z.b id=some L->L<=eR w (μ id)->off+n*sz<=L->(if m'=l then V.gs sz [] else .own id (off+l*sz) (h-l) sz)=v->jC P aa (env U Z w ω μ) a o v:=by
  intro id off L e1 e2 e3 e4 e5;rw [e1] at hr;obtain ⟨_,_,ex⟩:=hr.ar;refine ⟨_,run _ _ ex,λl'=>?_⟩;subst e5;by_cases hml:m'=l
  ·obtain rfl:h=l:=by omega
   subst hml;simp only [if_true,WaO];exact .pure (.nil _ _)
  ·rw [if_neg hml,if_neg hml];have hn0:sz<=n*sz:=Nat.le_mul_of_pos_left sz (by omega);exact .own id (off+l*sz) (h-l) sz (m'-l) L _ e2 (by omega) ⟨by omega,λh0=>by omega⟩ (.inl ⟨rfl,by show _<=eR w (μ id); omega⟩)
 split at hp
 ·rename_i id off hg;split at hp
  ·rename_i p cs hbk;split at hp
   ·rename_i hfit;obtain ⟨q1,q2⟩:=R.live_size hbk;exact own id off _ hg q1 q2 hfit (by simpa using hp)
   ·cases hp
  ·rename_i cs hbk;split at hp
   ·rename_i hfit;rw [hg] at hr;obtain ⟨_,_,ex⟩:=hr.ar;refine ⟨_,run _ _ ex,λl'=>?_⟩;have e5:(if m'=l then V.gs sz [] else .sl sz (bY sz (h-l) (cs.drop (off+l*sz))))=v:=by simpa using hp
    subst e5;by_cases hml:m'=l
    ·obtain rfl:h=l:=by omega
     subst hml;simp only [if_true,WaO];exact .pure (.nil _ _)
    ·rw [if_neg hml,if_neg hml];obtain ⟨q0,arr,T,fr,q1,q2,q3⟩:=R.fs id cs hbk;have key:=RepP.sl (aa:=aa) (w:=w) (Wr:=wr U ω) sz (bY sz (h-l) (cs.drop (off+l*sz))) (some ⟨μ id,off+l*sz,none⟩) (m'-l) (λi=>arr.toList.getD (off+l*sz+i) undef) (by rw [eo]; omega)
      (jF _ _ _ (by simp; omega)) (μ id) (off+l*sz) (λ_=>rfl)
     have seg:∀ (i:Nat) (v:V),(bY sz (h-l) (cs.drop (off+l*sz))).flatten[i]?=some v->∃ u,arr.toList.getD (off+l*sz+i) undef=u/\arr[off+l*sz+i]?=some u/\u.oneCell'=true/\RepP aa w (wr U ω) v u:=by
      intro i v hv;rw [ig,Wai] at hv;split at hv
      ·rw [Waj] at hv;obtain ⟨u,g1,g2,g3⟩:=q3 _ _ hv;have g1':arr.toList[off+l*sz+i]?=some u:=by simpa using g1
       exact ⟨u,by rw [Wak,g1']; rfl,g1,g2,g3⟩
      ·cases hv
     have key:=key (λi v hv=>by obtain ⟨u,e,g1,g2,g3⟩:=seg i v hv; exact ⟨q0 _,by rw [cell_of_row _ _ _ _ _ _ q1,e]; exact g1⟩)
      (λi v hv=>by obtain ⟨u,e,g1,g2,g3⟩:=seg i v hv; rw [e]; exact g2) (λi v hv=>by obtain ⟨u,e,g1,g2,g3⟩:=seg i v hv; rw [e]; exact g3)
     rw [eo] at key;exact .pure key
   ·cases hp
  ·cases hp
 ·rename_i q cs hg;rw [hg] at hr;split at hp
  ·rename_i hq;cases hp;obtain ⟨k,q',f,ex,hl,hcell,g1,g2⟩:=hr.a6;refine ⟨_,run _ _ ex,λl'=>?_⟩;have key:=RepP.sl (aa:=aa) (w:=w) (Wr:=wr U ω) sz (bY sz (h-l) (cs.drop (l*sz))) (some (if m'=l then (⟨k,q',none⟩:Addr) else ⟨k,q'+l*sz,none⟩)) (m'-l) (λi=>f (l*sz+i)) (by rw [eo]; omega)
    (jF _ _ _ (by simp; omega)) k (q'+l*sz)
    (λhne=>by
     have h1:0<h-l:=by rw [<- eo sz (h-l) (cs.drop (l*sz))]; exact List.length_pos_iff.2 hne
     rw [if_neg (by omega)])
   have seg:∀ (i:Nat) (v:V),(bY sz (h-l) (cs.drop (l*sz))).flatten[i]?=some v->cs[l*sz+i]?=some v:=by
    intro i v hv;rw [ig,Wai] at hv;split at hv
    ·rwa [Waj] at hv
    ·cases hv
   have key:=key (λi v hv=>by have:=hcell _ _ (seg i v hv); rw [WaH]; exact this) (λi v hv=>g1 _ _ (seg i v hv)) (λi v hv=>g2 _ _ (seg i v hv));rw [eo] at key;exact .pure key
  ·cases hp
 ·cases hp
theorem Zh(R:Rel aa we ωe U O Z a w ω μ){i:Operand}(hop:o.op=.indexAddr t x i)(ht:P.underlying t=some (.array n e))(hn:eJ P e=some sz)
  {si:Src}  (h1:du P aa t1 x=some sx) (h2:du P aa t2 i=some si)  (hp:cJ Z (.al n sz sx si)=some v):jC P aa (env U Z w ω μ) a o v:=by
 have hr:=R.opnd h1;simp [cJ] at hp;split at hp
 ·rename_i j hj;obtain ⟨k,ei⟩:=(R.opnd h2).int hj;split at hp
  ·rename_i hb;have run:∀ k' q,a.eval x=.pointer (some ⟨k',q,none⟩)->(execOp a.eval o).run P w=.ok (.value (.pointer (some ⟨k',q+j.toNat*sz,none⟩))) w:=by
    intro k' q e1;simp [execOp,hop,e1,ei,Instr.indexAt,asIntOf,run_underlying ht,Instr.sureAddr,hb,hH hn,mB]
   split at hp
   ·rename_i id off hg;cases hp;rw [hg] at hr;obtain ⟨L,hL,ex⟩:=hr.ar;exact ⟨_,run _ _ ex,λl=>.ptr id _ L hL⟩
   ·rename_i m cs hg;split at hp
    ·cases hp;rw [hg] at hr;obtain ⟨k',q,g,ex,hl,hcell,g1,g2⟩:=hr.a6;refine ⟨_,run _ _ ex,λl=>.fp _ _ k' (q+j.toNat*sz) (λi=>g (j.toNat*sz+i)) (by simp [hl]) (λi v hv=>?_) (λi v hv=>?_) (λi v hv=>?_)⟩ <;> rw [Waj] at hv
     ·have:=hcell _ _ hv; rw [WaH]; exact this
     ·exact g1 _ _ hv
     ·exact g2 _ _ hv
    ·cases hp
   ·cases hp
  ·cases hp
 ·cases hp
theorem YU(R:Rel aa we ωe U O Z a w ω μ){i:Operand}(hop:o.op=.indexAddr t x i)(ht:P.underlying t=some (.slice e))(hn:eJ P e=some sz)
  {si:Src}  (h1:du P aa t1 x=some sx) (h2:du P aa t2 i=some si)  (hp:cJ Z (.aj sz sx si)=some v):jC P aa (env U Z w ω μ) a o v:=by
 have hr:=(R.opnd h1).ag R.hU (.slot 0 0);simp [cJ] at hp;split at hp
 ·rename_i j hj;obtain ⟨k,ei⟩:=(R.opnd h2).int hj;split at hp
  ·rename_i hb;have run:∀ k' q len c,a.eval x=.slice (some ⟨k',q,none⟩) len c->j<len->(execOp a.eval o).run P w=.ok (.value (.pointer (some ⟨k',q+j.toNat*sz,none⟩))) w:=by
    intro k' q len c e1 e2;simp [execOp,hop,e1,ei,Instr.indexAt,asIntOf,run_underlying ht,hb,e2,hH hn,mB]
   split at hp
   ·rename_i sz' es hg;split at hp
    ·rename_i hs;subst hs;simp only [Wag] at hp;obtain ⟨c,hc,rfl⟩:=hp;rw [hg] at hr;obtain ⟨A,cp,f,k',q,eu,hcp,hsz,hA,hcell,g1,g2⟩:=hr.aK.aV;have hlt:j.toNat<es.length:=(Wam.1 hc).1;have hne:es≠[]:=by rintro rfl; simp at hlt
     rw [hA hne] at eu;refine ⟨_,run _ _ _ _ eu (by omega),λl=>.fp sz c k' (q+j.toNat*sz) (λi=>f (j.toNat*sz+i)) (hsz c (WaQ hc)) (λi v hv=>?_) (λi v hv=>?_) (λi v hv=>?_)⟩
     ·have:=hcell _ _ (WT hsz hc i hv); rw [WaH]; exact this
     ·exact g1 _ _ (WT hsz hc i hv)
     ·exact g2 _ _ (WT hsz hc i hv)
    ·cases hp
   ·rename_i id off len sz' hg;split at hp
    ·rename_i hs;cases hp;obtain ⟨rfl,hlt⟩:=hs;rw [hg] at hr;obtain ⟨c,L,A,eu,hL,hl,hc,hA⟩:=hr.own_inv;rcases hA with ⟨e1,_⟩ | ⟨e1,_⟩
     ·rw [e1] at eu;exact ⟨_,run _ _ _ _ eu hlt,λl=>.ptr id _ L hL⟩
     ·omega
    ·cases hp
   ·cases hp
  ·cases hp
 ·cases hp
theorem zjR(R:Rel aa we ωe U O Z a w ω μ)(hop:o.op=.call { callee:=.builtin .len,args:=#[x],argTypes:=#[t] })(ht:P.underlying t=some (.slice e))
    (h1:du P aa t1 x=some sx)  (hp:cJ Z (.bi sx)=some v):jC P aa (env U Z w ω μ) a o v:=by
 have hr:=(R.opnd h1).ag R.hU (.slot 0 0);simp [cJ] at hp;split at hp
 ·rename_i sz es hg;cases hp;rw [hg] at hr;obtain ⟨A,c,f,k,q,eu,_⟩:=hr.aK.aV;refine ⟨_,?_,λl=>.pure (.sc _ rfl)⟩;show (execOp a.eval o).run P w=_;simp [execOp,hop,resolve,invoke,builtin,Builtin.len_,run_underlying ht,eu,goInt];rfl
 ·rename_i id off len sz hg;cases hp;rw [hg] at hr;obtain ⟨c,L,A,eu,_⟩:=hr.own_inv;refine ⟨_,?_,λl=>.pure (.sc _ rfl)⟩;show (execOp a.eval o).run P w=_;simp [execOp,hop,resolve,invoke,builtin,Builtin.len_,run_underlying ht,eu,goInt];rfl
 ·rename_i id off len cap sz hg;cases hp;rw [hg] at hr;obtain ⟨c,L,A,eu,_⟩:=hr.cut_inv;refine ⟨_,?_,λl=>.pure (.sc _ rfl)⟩;show (execOp a.eval o).run P w=_;simp [execOp,hop,resolve,invoke,builtin,Builtin.len_,run_underlying ht,eu,goInt];rfl
 ·cases hp
theorem zjW(R:Rel aa we ωe U O Z a w ω μ)(hop:o.op=.call { callee:=.builtin .len,args:=#[x],argTypes:=#[t] })(ht:P.underlying t=some .string)
    (h1:du P aa t1 x=some sx)  (hp:cJ Z (.bF sx)=some v):jC P aa (env U Z w ω μ) a o v:=by
 have hr:=R.opnd h1;simp [cJ] at hp;split at hp
 ·rename_i s hg;cases hp;rw [hg] at hr;refine ⟨_,?_,λl=>.pure (.sc _ rfl)⟩;show (execOp a.eval o).run P w=_;simp [execOp,hop,resolve,invoke,builtin,Builtin.len_,run_underlying ht,hr.aA.1,goInt];rfl
 ·cases hp
theorem zjk(hop:o.op=.call { callee:=.builtin .len,args:=#[x],argTypes:=#[t] })(ht:P.underlying t=some (.array n e))(hp:cJ Z (.aJ n)=some v):jC P aa (env U Z w ω μ) a o v:=by
 cases hp;refine ⟨_,?_,λl=>.pure (.sc _ rfl)⟩;show (execOp a.eval o).run P w=_;simp [execOp,hop,resolve,invoke,builtin,Builtin.len_,run_underlying ht,goInt];rfl
theorem ziB(R:Rel aa we ωe U O Z a w ω μ){y:Operand}{ts:Array TypeId}{isMax:Bool}(hop:o.op=.call { callee:=.builtin (if isMax then .max else .min),args:=#[x,y],argTypes:=ts })
  {sy:Src}  (h1:du P aa t1 x=some sx) (h2:du P aa t2 y=some sy)  (hp:cJ Z (.mm isMax sx sy)=some v):jC P aa (env U Z w ω μ) a o v:=by
 simp only [cJ] at hp;split at hp
 ·rename_i k p k' q hx hy;cases hp;have ex:=R.opnd h1; rw [hx] at ex;have ey:=R.opnd h2; rw [hy] at ey;refine ⟨_,?_,λl=>.pure (.sc _ rfl)⟩;show (execOp a.eval o).run P w=_;cases isMax
  ·simp at hop ⊢;simp [execOp,hop,resolve,invoke,builtin,Builtin.min_,Builtin.min2,ex.aA.1,ey.aA.1];rfl
  ·simp only [if_true] at hop ⊢;simp [execOp,hop,resolve,invoke,builtin,Builtin.max_,Builtin.max2,ex.aA.1,ey.aA.1];rfl
 ·cases hp
theorem zjU(R:Rel aa we ωe U O Z a w ω μ)(hop:o.op=.sliceToArrayPointer t x)(ht:P.underlying t=some (.array n e))
    (h1:du P aa t1 x=some sx)  (hp:cJ Z (.bq n sz sx)=some v):jC P aa (env U Z w ω μ) a o v:=by
 have hr:=(R.opnd h1).ag R.hU (.slot 0 0);simp [cJ] at hp;have run:∀ A len c,a.eval x=.slice A len c->n<=len->(execOp a.eval o).run P w=.ok (.value (.pointer A)) w:=by
  intro A len c e1 e2;simp [execOp,hop,e1,Instr.arrayAt,run_underlying ht,show ¬ len<n by omega]
 split at hp
 ·rename_i sz' es hg;split at hp
  ·rename_i hs;obtain ⟨rfl,hpos,hle⟩:=hs;cases hp;rw [hg] at hr;obtain ⟨A,cp,f,k',q,eu,hcp,hsz,hA,hcell,g1,g2⟩:=hr.aK.aV;have hne:es≠[]:=by grind
   rw [hA hne] at eu;have hpre:∀ (i:Nat) (v:V),(es.take n).flatten[i]?=some v->es.flatten[i]?=some v:=by
    intro i v hv;have e2:es.flatten=(es.take n).flatten++(es.drop n).flatten:=by rw [<- List.flatten_append,List.take_append_drop]
    grind
   refine ⟨_,run _ _ _ eu hle,λl=>.fp (n*sz) _ k' q f ?_ (λi v hv=>hcell _ _ (hpre i v hv)) (λi v hv=>g1 _ _ (hpre i v hv)) (λi v hv=>g2 _ _ (hpre i v hv))⟩;rw [gY (λy hy=>hsz y (WaI hy)),List.length_take,Nat.min_eq_left hle]
  ·cases hp
 ·rename_i id off len sz' hg;split at hp
  ·rename_i hs;obtain ⟨rfl,hpos,hle⟩:=hs;cases hp;rw [hg] at hr;obtain ⟨c,L,A,eu,hL,hl,hc,hA⟩:=hr.own_inv;rcases hA with ⟨e1,_⟩ | ⟨e1,_⟩
   ·rw [e1] at eu;exact ⟨_,run _ _ _ eu hle,λl=>.ptr id _ L hL⟩
   ·omega
  ·cases hp
 ·cases hp
end
section
variable {x:Operand}{xs:List Value}{t:TypeId}{n:Nat}{o:Oper}{v:V}{k:K}{s:Src}
variable {aa:Rn} {we:World} {ωe:Nat->Ow} {U:Nat->Nat->Prop} {O:Nat->Prop} {Z:St} {a:Act} {w:World} {ω:Nat->Ow} {μ:Nat->Nat} {P:Program}
def eqV:List Value->List Value->Option Bool
 | [],[]=>some true
 | .int k a::xs,.int k' b::ys=>if k=k' then (eqV xs ys).map (λr=>(a==b)&&r) else none
 | _,_=>none
theorem zht{x y:Value}{ys:List Value}{r:Bool}(h:eqV (x::xs) (y::ys)=some r):∃ r1 r2,eqV [x] [y]=some r1/\eqV xs ys=some r2/\r=(r1&&r2):=by
 unfold eqV at h;split at h
 ·simp_all
 ·rename_i e1 e2;cases e1; cases e2;split at h
  ·rename_i hk;simp only [Wag] at h
   grind [eqV]
  ·cases h
 ·cases h
theorem zjQ{x y:Value}{r1 r2:Bool}{ys:List Value}(h1:eqV [x] [y]=some r1)(h2:eqV xs ys=some r2):eqV (x::xs) (y::ys)=some (r1&&r2):=by
 unfold eqV at h1
 grind [eqV]
theorem OG:∀ (n:Nat) {xs ys:List Value} {r:Bool},eqV xs ys=some r->n<=xs.length->∃ r1 r2,eqV (xs.take n) (ys.take n)=some r1/\eqV (xs.drop n) (ys.drop n)=some r2/\r=(r1&&r2)
 | 0,xs,ys,r,h,_=>⟨true,r,by simp [eqV],by simpa using h,by simp⟩
 | n+1,[],ys,r,h,hn=>by simp at hn
 | n+1,x::xs,[],r,h,hn=>by simp [eqV] at h
 | n+1,x::xs,y::ys,r,h,hn=>by
  obtain ⟨r1,r2,h1,h2,rfl⟩:=zht h;obtain ⟨s1,s2,g1,g2,rfl⟩:=OG n h2 (by simpa using hn);exact ⟨r1&&s1,s2,by simpa using zjQ h1 g1,by simpa using g2,by simp [Bool.and_assoc]⟩
theorem Om{Wr:Nat->Nat->Prop}:∀ {cs ds:List V} {us vs:List Value} {r:Bool},j5 cs ds=some r->CellsP aa w Wr cs us->CellsP aa w Wr ds vs->eqV us vs=some r
 | [],[],us,vs,r,h,h1,h2=>by
  have e1:=h1.1; have e2:=h2.1;cases us with
  | cons _ _=>simp at e1
  | nil=>cases vs with
   | cons _ _=>simp at e2
   | nil=>exact h
 | [],d::ds,us,vs,r,h,h1,h2=>by simp [j5] at h
 | c::cs,[],us,vs,r,h,h1,h2=>by grind [j5]
 | c::cs,d::ds,[],vs,r,h,h1,h2=>by have:=h1.1; simp at this
 | c::cs,d::ds,u::us,[],r,h,h1,h2=>by have:=h2.1; simp at this
 | c::cs,d::ds,u::us,v::vs,r,h,h1,h2=>by
  have t1:CellsP aa w Wr cs us:=⟨by simpa using h1.1,λi c hc=>by simpa using h1.2 (i+1) c (by simpa using hc)⟩;have t2:CellsP aa w Wr ds vs:=⟨by simpa using h2.1,λi c hc=>by simpa using h2.2 (i+1) c (by simpa using hc)⟩;obtain ⟨x,hx,_,hx'⟩:=h1.2 0 c rfl;obtain ⟨y,hy,_,hy'⟩:=h2.2 0 d rfl;simp at hx hy; subst hx; subst hy;unfold j5 at h;split at h
  ·simp_all
  ·rename_i e1 e2;cases e1; cases e2;cases hx'; cases hy';split at h
   ·rename_i hk;simp only [Wag] at h;obtain ⟨r2,g2,rfl⟩:=h;simp [eqV,hk,Om g2 t1 t2]
   ·cases h
  ·cases h
def PV(P:Program)(t:TypeId)(us:List Value)(x:Value):Prop:=(iC P t=some true/\x=.agg us.toArray)∨(iC P t=some false/\us=[x])
def zeD(P:Program)(dd:Nat)(t:TypeId)(n:Nat):Prop:=
 ∀ (w:World) (us vs:List Value) (x y:Value) (r:Bool),us.length=n->vs.length=n->PV P t us x->PV P t vs y->eqV us vs=some r->(Op.equalIn dd t x y).run P w=.ok r w
theorem Gy{b:Bool}(h1:iC P t=some b)(h2:eJ P t=some n)(hn:b=false->n=1){off:Nat}(hl:off+n<=xs.length)(w:World):∃ x,(part t xs.toArray off).run P w=.ok x w/\PV P t ((xs.drop off).take n) x:=by
 rw [Do h1 h2];cases b
 ·have hn1:=hn rfl;subst hn1;have hlt:off<xs.length:=by omega
  rw [Wac hlt];refine ⟨xs[off],rfl,.inr ⟨h1,?_⟩⟩;rw [WaM hlt]; rfl
 ·exact ⟨_,rfl,.inl ⟨h1,rfl⟩⟩
theorem Bv{d:Nat}(h:ng P d t=some n):∃ b,iC P t=some b/\(b=false->n=1):=by
 cases d with
 | zero=>cases h
 | succ d=>
  unfold ng at h;split at h
  ·rename_i hu; split at h <;> cases h; exact ⟨false,by simp [iC,hu],λ_=>rfl⟩
  ·rename_i hu; exact ⟨true,by simp [iC,hu],by simp⟩
  ·rename_i hu; exact ⟨true,by simp [iC,hu],by simp⟩
  ·cases h
theorem Px{dd d:Nat}(IH:∀ t n,ng P d t=some n->zeD P dd t n)(xs ys:List Value)(w:World):∀ (fs:List Field) (off n:Nat) (r:Bool),oH P (ng P d) fs off=some n->xs.length=n->ys.length=n->eqV (xs.drop off) (ys.drop off)=some r ->
  (Op.eqFields dd xs.toArray ys.toArray fs).run P w=.ok r w
 | [],off,n,r,h,hx,hy,he=>by
  cases h;rw [WaD (by omega),WaD (by omega)] at he;cases he;simp [Op.eqFields]
 | f::fs,off,n,r,h,hx,hy,he=>by
  simp only [oH,Wab,Waa] at h;obtain ⟨s,hs,h⟩:=h;split at h
  ·rename_i hc;obtain ⟨hname,hoff,hsz⟩:=hc;have hmono:∀ (fs:List Field) (o n:Nat),oH P (ng P d) fs o=some n->o<=n:=by
    intro fs
    induction fs with
    | nil=>intro o n h; cases h; exact Wah _
    | cons g gs ih=>
     intro o n h;simp only [oH,Wab,Waa] at h
     grind
   have hle:=hmono _ _ _ h;obtain ⟨b,hb,hb1⟩:=Bv hs;obtain ⟨x,px,ox⟩:=Gy hb hsz hb1 (xs:=xs) (off:=off) (by omega) w;obtain ⟨y,py,oy⟩:=Gy hb hsz hb1 (xs:=ys) (off:=off) (by omega) w;obtain ⟨r1,r2,g1,g2,rfl⟩:=OG s he (by simp; omega);have hq:=IH f.type s hs w _ _ x y r1 (by simp; omega) (by simp; omega) ox oy g1;have hrest:=Px IH xs ys w fs (off+s) n r2 h hx hy (by simp_all);simp only [Op.eqFields,ne_eq,hname,not_false_eq_true,if_true,Sem.run_bind,hoff,px,py,hq,Waz];cases r1
   ·simp
   ·simpa using hrest
  ·cases h
theorem QV{dd:Nat}{e:TypeId}{s:Nat}(IH:zeD P dd e s){b:Bool}(hb:iC P e=some b)(hb1:b=false->s=1)(hsz:eJ P e=some s)(xs ys:List Value)(w:World):∀ (k i:Nat) (r:Bool),xs.length=(i+k)*s->ys.length=(i+k)*s->eqV (xs.drop (i*s)) (ys.drop (i*s))=some r ->
  (Op.eqItems dd e s xs.toArray ys.toArray (List.range' i k)).run P w=.ok r w
 | 0,i,r,hx,hy,he=>by
  rw [WaD (by rw [hx]; simp),WaD (by rw [hy]; simp)] at he;cases he;simp [Op.eqItems]
 | k+1,i,r,hx,hy,he=>by
  have hm:(i+(k+1))*s=i*s+s+k*s:=by grind
  obtain ⟨x,px,ox⟩:=Gy hb hsz hb1 (xs:=xs) (off:=i*s) (by omega) w;obtain ⟨y,py,oy⟩:=Gy hb hsz hb1 (xs:=ys) (off:=i*s) (by omega) w;obtain ⟨r1,r2,g1,g2,rfl⟩:=OG s he (by simp; omega);have hq:=IH w _ _ x y r1 (by simp; omega) (by simp; omega) ox oy g1;have hd:(i+1)*s=i*s+s:=by simp [WaC]
  have hrest:=QV IH hb hb1 hsz xs ys w k (i+1) r2 (by rw [hx]; congr 1; omega) (by rw [hy]; congr 1; omega) (by simp_all);rw [List.range'_succ];simp only [Op.eqItems,Sem.run_bind,px,py,hq,Waz];cases r1
  ·simp
  ·simpa using hrest
theorem Uo(m:Nat):∀ (d:Nat) (t:TypeId) (n:Nat),ng P d t=some n->zeD P (m+d) t n
 | 0,t,n,h=>by cases h
 | d+1,t,n,h=>by
  have hagg:=Bv h;intro w us vs x y r hu hv ox oy he;unfold ng at h;split at h
  ·rename_i k hd;split at h <;> cases h;rcases ox with ⟨g,_⟩ | ⟨_,rfl⟩
   ·simp [iC,hd] at g
   rcases oy with ⟨g,_⟩ | ⟨_,rfl⟩
   ·simp [iC,hd] at g
   unfold eqV at he;split at he
   ·simp_all
   ·rename_i e1 e2;cases e1; cases e2;split at he
    ·rename_i hk;subst hk;simp [eqV] at he;subst he;exact run_equalIn_int w (m+d) t _ _ _ _ hd
    ·cases he
   ·cases he
  ·rename_i len e hd;simp only [Wab,Waa] at h;obtain ⟨s,hs,h⟩:=h;split at h
   ·rename_i hsz;cases h;rcases ox with ⟨_,rfl⟩ | ⟨g,_⟩
    ·rcases oy with ⟨_,rfl⟩ | ⟨g,_⟩
     ·obtain ⟨i,hi,hi'⟩:=oA hsz;obtain ⟨b,hb,hb1⟩:=Bv hs;show (Op.equalIn (m+d+1) t _ _).run P w=_;rw [run_equalIn_array w (m+d) _ _ hd hi];have hc:P.cellsOf e=s:=by simp [Program.cellsOf,hi,hi']
      rw [hc,List.range_eq_range'];exact QV (Uo m d e s hs) hb hb1 hsz us vs w len 0 r (by simpa using hu) (by simpa using hv) (by simpa using he)
     ·simp [iC,hd] at g
    ·simp [iC,hd] at g
   ·cases h
  ·rename_i fs hd;split at h
   ·cases h
   ·rename_i hst;rcases ox with ⟨_,rfl⟩ | ⟨g,_⟩
    ·rcases oy with ⟨_,rfl⟩ | ⟨g,_⟩
     ·have hf:P.fieldsOf t=fs:=by simp [Program.fieldsOf,hd]
      show (Op.equalIn (m+d+1) t _ _).run P w=_;rw [run_equalIn_struct w (m+d) t _ _ (by rw [hf]; exact hd) (by simpa using hst),hf];exact Px (λt n h=>Uo m d t n h) us vs w fs.toList 0 n r h hu hv (by simpa using he)
     ·simp [iC,hd] at g
    ·simp [iC,hd] at g
  ·cases h
theorem za6(R:Rel aa we ωe U O Z a w ω μ){op:BinOp}{t':TypeId}{y:Operand}(hop:o.op=.binOp op t x y t')(ho:op=.eql∨op=.neq)(hs:ng P 20 t=some n)(hb:iC P t=some true)(hg:P.eqGuardType P.depth t=false){sx sy:Src}{t1 t2:TypeId}(h1:du P aa t1 x=some sx)(h2:du P aa t2 y=some sy)
   (hp:cJ Z (.aW (op==.neq) n sx sy)=some v):jC P aa (env U Z w ω μ) a o v:=by
 simp only [cJ] at hp;split at hp
 ·rename_i p q hx hy;split at hp
  ·rename_i hl;simp only [Wag] at hp;obtain ⟨r,hr,rfl⟩:=hp;have ex:=R.opnd h1; rw [hx] at ex;have ey:=R.opnd h2; rw [hy] at ey;obtain ⟨us,eu,hu⟩:=CellsP.of_agg ex.aZ;obtain ⟨vs,ev,hv⟩:=CellsP.of_agg ey.aZ;have hq:=Uo 9980 20 t n hs w us vs (.agg us.toArray) (.agg vs.toArray) r (by rw [<- hu.1]; exact hl.1) (by rw [<- hv.1]; exact hl.2) (.inl ⟨hb,rfl⟩) (.inl ⟨hb,rfl⟩) (Om hr hu hv);have hq:(Op.equalIn 10000 t (.agg us.toArray) (.agg vs.toArray)).run P w=.ok r w:=hq;rcases ho with rfl | rfl
   ·refine ⟨.bool r,?_,λl=>.pure (.sc _ rfl)⟩;show (execOp a.eval o).run P w=_;simp only [execOp,hop,eu,ev,Sem.run_bind,run_eqGuard_agg w .eql t x y _ _ hg,run_eql_struct w,hq,Waz,Sem.run_pure];rfl
   ·refine ⟨.bool (!r),?_,λl=>.pure (.sc _ rfl)⟩;show (execOp a.eval o).run P w=_;simp only [execOp,hop,eu,ev,Sem.run_bind,run_eqGuard_agg w .neq t x y _ _ hg,run_neq_struct w,hq,Waz,Sem.run_pure];rfl
  ·cases hp
 ·cases hp
theorem Ym(R:Rel aa we ωe U O Z a w ω μ):∀ (xs:List Operand) (ts:List TypeId) (ss:List Src),VG P aa xs ts=some ss->xs.length=ss.length/\∀ (i:Nat) (s:Src),ss[i]?=some s->∃ x ty,xs[i]?=some x/\du P aa ty x=some s
 | [],ts,ss,h=>by cases h; exact ⟨rfl,by simp⟩
 | x::xs,ts,ss,h=>by
  simp only [VG,Wab,Waa,Option.pure_def,Waf] at h;obtain ⟨s,hs,rest,hr,rfl⟩:=h;obtain ⟨e,ih⟩:=Ym R xs ts.tail rest hr
  grind
theorem zbB(R:Rel aa we ωe U O Z a w ω μ){f:FuncId}{caps:Array Operand}(hop:o.op=.makeFunc (.func f) #[] caps){g:Nat}(hg:aa f=some g){ss:List Src}(hs:VG P aa caps.toList []=some ss)
   (hp:cJ Z (.makeFunc g ss)=some v):jC P aa (env U Z w ω μ) a o v:=by
 simp only [cJ] at hp;split at hp
 ·rename_i hall;cases hp;obtain ⟨hl,hc⟩:=Ym R _ _ _ hs;refine ⟨.func (.func f) #[] (caps.toList.map a.eval).toArray,?_,λl=>.fn f g _ (caps.toList.map a.eval) hg (by simp [hl]) (λi c hi=>?_)⟩
  ·show (execOp a.eval o).run P w=.ok _ w;simp only [execOp,hop,Instr.makeFunc,Sem.run_bind,Sem.run_pure,Waz];congr 3
   all_goals (apply WaS; simp)
  ·rw [List.getElem?_map] at hi;cases hsi:ss[i]? with
   | none=>simp [hsi] at hi
   | some s=>
    simp [hsi] at hi;obtain ⟨x,ty,hx,hsx⟩:=hc i s hsi;have hr:=R.opnd hsx;rw [List.all_eq_true] at hall;have:=hall s (WaQ hsi);cases hv:s.get Z with
    | ptr id off=>
     rw [hv] at hr hi;obtain ⟨L,hL,e⟩:=hr.ar;exact ⟨id,off,L,hi.symm,hL,by grind⟩
    | _=>simp [hv,wS] at this
 ·cases hp
theorem jU{α:Type}{xs:Array α}{l:List α}(h:xs.toList=l):xs=l.toArray:=by rw [<- h]
theorem zaQ(R:Rel aa we ωe U O Z a w ω μ){b:Builtin}{args:Array Operand}{ats:Array TypeId}(hop:o.op=.call { callee:=.builtin b,args:=args,argTypes:=ats })(hk:HA P aa b args.toList ats.toList=some k)(hp:cJ Z k=some v):jC P aa (env U Z w ω μ) a o v:=by
 unfold HA at hk;split at hk <;> (try simp only [Wab,Waa,Waf] at hk)
 ·rename_i e1 e2;obtain rfl:=jU e1;obtain rfl:=jU e2;obtain ⟨d,hd,hk⟩:=hk;split at hk <;> (try simp only [Waa,Waf] at hk)
  ·grind [zjR]
  ·grind [zjW]
  ·grind [zjk]
  ·obtain ⟨s1,h1,rfl⟩:=hk; cases hp
  ·cases hk
 ·obtain ⟨d1,_,d2,_,hk⟩:=hk;split at hk <;> (try simp only [Waa] at hk)
  ·obtain ⟨_,_,_,_,_,_,hk⟩:=hk;split at hk
   ·simp [Waa] at hk; obtain ⟨_,_,_,_,rfl⟩:=hk; cases hp
   ·cases hk
  ·obtain ⟨_,_,_,_,_,_,hk⟩:=hk;split at hk
   ·simp [Waa] at hk; obtain ⟨_,_,_,_,rfl⟩:=hk; cases hp
   ·cases hk
  ·cases hk
 ·obtain ⟨d1,_,d2,_,hk⟩:=hk;split at hk <;> (try simp only [Waa] at hk)
  ·obtain ⟨_,_,hk⟩:=hk;split at hk
   ·simp [Waa] at hk; obtain ⟨_,_,_,_,rfl⟩:=hk; cases hp
   ·cases hk
  ·cases hk
 ·obtain ⟨d1,_,hk⟩:=hk;split at hk <;> (try simp only [Waa] at hk)
  ·obtain ⟨_,_,_,_,hk⟩:=hk;split at hk
   ·simp [Waa] at hk; obtain ⟨_,_,rfl⟩:=hk; cases hp
   ·cases hk
  ·cases hk
 ·rename_i e1;obtain rfl:=jU e1
  grind [ziB]
 ·rename_i e1;obtain rfl:=jU e1
  grind [ziB]
 ·cases hk
theorem ziY(R:Rel aa we ωe U O Z a w ω μ){i:Nat}(hop:o.op=.extract x i){t1:TypeId}(hs:du P aa t1 x=some s)(hp:cJ Z (.pull s i)=some v):jC P aa (env U Z w ω μ) a o v:=by
 simp [cJ] at hp;split at hp
 ·rename_i vs hg;split at hp
  ·rename_i v' hvi;split at hp
   ·cases hp
   ·cases hp;have hr:=R.opnd hs;rw [hg] at hr;obtain ⟨us,eu,hl,hel⟩:=hr.tup_inv;have hlt:i<vs.length:=(Wam.1 hvi).1;have hui:us[i]?=some us[i]:=Wac (by omega);exact ⟨us[i],by simp [execOp,hop,eu,Instr.extract,hui],λl=>(hel i v' us[i] hvi hui).ag R.hU l⟩
  ·cases hp
 ·cases hp
theorem zfO(R:Rel aa we ωe U O Z a w ω μ)(hop:o.op=.move x∨o.op=.assign x)(hs:du P aa t x=some s)(hp:cJ Z (.bG s)=some v):jC P aa (env U Z w ω μ) a o v:=by
 have run:(execOp a.eval o).run P w=.ok (.value (a.eval x)) w:=by
  rcases hop with e | e <;> simp [execOp,e]
 refine ⟨_,run,λl=>?_⟩;simp [cJ] at hp;split at hp
 ·rename_i id off len sz hg;have hr:=R.opnd hs;rw [hg] at hr;obtain ⟨c,L,A,eu,hL,hl,hc,hA⟩:=hr.own_inv;have hL':dS Z.b id=some L:=hL;split at hp
  ·rename_i cs hb;cases hp;obtain ⟨q0,arr,T,fr,q1,q2,q3⟩:=R.fs id cs hb;have hLc:L=cs.length:=by
    rw [show dS Z.b id=some cs.length by simp [dS,hb]] at hL'; cases hL'; rfl
   subst hLc;rw [eu];have key:=RepP.sl (aa:=aa) (w:=w) (Wr:=wr U ω) sz (bY sz len (cs.drop off)) A c (λi=>arr.toList.getD (off+i) undef) (by rw [eo]; exact hc.1) (jF _ _ _ (by simp; omega)) (μ id) off
    (λhne=>by
     rcases hA with ⟨h1,_⟩ | ⟨h1,_⟩
     ·exact h1
     ·subst h1; simp [bY] at hne)
   have seg:∀ (i:Nat) (v:V),(bY sz len (cs.drop off)).flatten[i]?=some v->∃ u,arr.toList.getD (off+i) undef=u/\arr[off+i]?=some u/\u.oneCell'=true/\RepP aa w (wr U ω) v u:=by
    intro i v hv;rw [ig,Wai] at hv;split at hv
    ·rw [Waj] at hv;obtain ⟨u,g1,g2,g3⟩:=q3 _ _ hv;have g1':arr.toList[off+i]?=some u:=by simpa using g1
     exact ⟨u,by rw [Wak,g1']; rfl,g1,g2,g3⟩
    ·cases hv
   have key:=key (λi v hv=>by obtain ⟨u,e,g1,g2,g3⟩:=seg i v hv; exact ⟨q0 _,by rw [cell_of_row _ _ _ _ _ _ q1,e]; exact g1⟩)
    (λi v hv=>by obtain ⟨u,e,g1,g2,g3⟩:=seg i v hv; rw [e]; exact g2) (λi v hv=>by obtain ⟨u,e,g1,g2,g3⟩:=seg i v hv; rw [e]; exact g3)
   rw [eo] at key;exact .pure key
  ·split at hp
   ·rename_i h0;cases hp;subst h0;rw [eu];exact .pure (RepP.sl (aa:=aa) (w:=w) (Wr:=wr U ω) sz [] A c (λ_=>undef) hc.1 (by simp) 0 0 (λh=>absurd rfl h) (λi v hv=>by simp at hv) (λi v hv=>by simp at hv) (λi v hv=>by simp at hv))
   ·cases hp
  ·cases hp
 ·cases hp
theorem zje(R:Rel aa we ωe U O Z a w ω μ){take:Bool}{xs:List Nat}(hk:cK P aa o take xs=some k)(hp:cJ Z k=some v):jC P aa (env U Z w ω μ) a o v:=by
 have hk0:=hk;unfold cK at hk;split at hk <;> (try simp only [Wab,Waa,Waf] at hk)
 ·rename_i hop;rcases Ec _ _ hk with ⟨_,_,_,rfl⟩ | ⟨_,_,rfl⟩ | ⟨_,_,rfl⟩ | ⟨_,hs,rfl⟩ | ⟨_,_,_,_,_,rfl⟩ | ⟨_,_,rfl⟩
  ·cases hp
  ·cases hp
  ·cases hp
  ·grind [zfO]
  ·cases hp
  ·cases hp
 ·rename_i hop;rcases Ec _ _ hk with ⟨_,_,_,rfl⟩ | ⟨_,_,rfl⟩ | ⟨_,_,rfl⟩ | ⟨_,hs,rfl⟩ | ⟨_,_,_,_,_,rfl⟩ | ⟨_,_,rfl⟩
  ·cases hp
  ·cases hp
  ·cases hp
  ·exact zfO R (.inr hop) hs hp
  ·cases hp
  ·cases hp
 ·grind [zjY]
 ·obtain ⟨s,_,rfl⟩:=hk; cases hp
 ·obtain ⟨s,_,_,_,rfl⟩:=hk; cases hp
 ·grind [zh6]
 ·obtain ⟨d,hd,hk⟩:=hk;split at hk <;> (try simp only [Waa] at hk)
  ·obtain ⟨z,_,sz,_,hk⟩:=hk;split at hk
   ·simp [Waa] at hk; obtain ⟨_,_,rfl⟩:=hk; cases hp
   ·cases hk
  ·cases hk
 ·rcases Ny _ _ hk with ⟨_,_,_,_,_,_,rfl⟩ | ⟨_,_,_,_,_,_,rfl⟩ | ⟨_,_,_,_,_,rfl⟩ <;> cases hp
 ·obtain ⟨_,_,_,_,_,_,rfl⟩:=hk; cases xs <;> cases hp
 ·grind [zbJ]
 ·rename_i op t x y t' hop;obtain ⟨d,hd,hk⟩:=hk;split at hk <;> (try simp only [Waa,Waf] at hk)
  ·grind [zeM]
  ·grind [zeM]
  ·split at hk
   ·split at hk
    ·rename_i ho;simp [Waa] at hk
     grind [zj7]
    ·cases hk
   ·cases hk
  ·split at hk
   ·rename_i ho;simp [Waa] at hk
    grind [zkz]
   ·cases hk
  ·split at hk
   ·rename_i fs ho;simp [Waa] at hk;obtain ⟨s1,h1,s2,h2,rfl⟩:=hk;simp at ho;obtain ⟨n,hn⟩:=WaN.1 ho.1.1.2;have hn':eJ P t=some n:=by rw [<- ho.1.2]; exact hn
    rw [hn'] at hp;exact za6 R hop ho.1.1.1 hn (by simp [iC,hd]) ho.2 h1 h2 hp
   ·cases hk
  ·split at hk
   ·rename_i ho;simp only [Waa,Waf] at hk;obtain ⟨s1,h1,s2,h2,rfl⟩:=hk;simp only [WaG,Bool.or_eq_true,beq_iff_eq,Bool.not_eq_true'] at ho;obtain ⟨n,hn⟩:=WaN.1 ho.1.1.2;have hn':eJ P t=some n:=by rw [<- ho.1.2]; exact hn
    rw [hn'] at hp;exact za6 R hop ho.1.1.1 hn (by simp [iC,hd]) ho.2 h1 h2 hp
   ·cases hk
  ·cases hk
 ·rename_i hop; obtain ⟨s1,h1,rfl⟩:=hk; exact zmp R hop h1 hp
 ·rename_i hop;obtain ⟨d1,hd1,d2,hd2,hk⟩:=hk;split at hk <;> (try simp only [Waa,Waf] at hk)
  ·obtain ⟨s1,h1,rfl⟩:=hk; exact zi8 R hop hd1 hd2 h1 hp
  ·obtain ⟨d3,hd3,hk⟩:=hk;split at hk
   ·simp only [Waa,Waf] at hk;obtain ⟨s1,h1,rfl⟩:=hk; exact zhI R hop hd1 hd2 hd3 h1 hp
   ·cases hk
  ·obtain ⟨d3,hd3,hk⟩:=hk;split at hk
   ·simp only [Waa,Waf] at hk;obtain ⟨s1,h1,rfl⟩:=hk; cases hp
   ·cases hk
  ·cases hk
 ·rename_i fn first caps hop
  split at hk
  ·split at hk
   ·rename_i h0;simp only [Wab,Waa,Waf] at hk;obtain ⟨g,hg,ss,hs,rfl⟩:=hk;have hf:first=#[]:=by simpa using h0
    subst hf;exact zbB R hop hg hs hp
   ·cases hk
  ·cases hk
 ·obtain ⟨d,hd,hk⟩:=hk;split at hk <;> (try simp only [Waa] at hk)
  ·obtain ⟨z,_,sz,_,i,_,hk⟩:=hk;split at hk
   ·simp only [Waa,Waf] at hk; obtain ⟨_,_,_,_,rfl⟩:=hk; cases hp
   ·cases hk
  ·cases hk
 ·rename_i hop;split at hk
  ·cases hk
  ·rename_i hmx;simp only [Wab,Waa] at hk;obtain ⟨d,hd,hk⟩:=hk;split at hk <;> (try simp only [Waa] at hk)
   ·obtain ⟨sz,hsz,hk⟩:=hk;split at hk
    ·simp only [Waa,Waf] at hk;obtain ⟨s0,h0,s1,h1,s2,h2,s3,h3,rfl⟩:=hk;exact ze5 R hop ((Bool.not_eq_true _).mp hmx) hd hsz (by assumption) h0 h1 h2 h3 hp
    ·cases hk
   ·obtain ⟨sz,hsz,hk⟩:=hk;split at hk
    ·split at hk
     ·rename_i hcd;simp only [WaG,decide_eq_true_eq,WaB] at hcd;obtain ⟨⟨⟨_,rfl⟩,rfl⟩,_⟩:=hcd;simp only [Waa,Waf] at hk;obtain ⟨s0,h0,s2,h2,rfl⟩:=hk;exact zfl R hop hd hsz h0 h2 hp
     ·cases hk
    ·split at hk
     ·rename_i gh hgo;obtain ⟨rfl,rfl,rfl,hful⟩:=zby hgo;split at hk
      ·simp only [Wab,Waa,Waf] at hk;obtain ⟨s0,h0,s2,h2,s3,h3,rfl⟩:=hk;exact zeT R hop hd hsz h0 h2 h3 hp
      ·cases hk
     ·split at hk
      ·simp only [Waa,Waf] at hk;obtain ⟨s0,h0,s1,h1,s2,h2,s3,h3,rfl⟩:=hk;exact zfF R hop ((Bool.not_eq_true _).mp hmx) hd hsz h0 h1 h2 h3 hp
      ·cases hk
   ·cases hk
 ·rename_i hop;obtain ⟨d,hd,hk⟩:=hk;split at hk <;> (try simp only [Waa] at hk)
  ·obtain ⟨f,hf,n,hn,hk⟩:=hk;split at hk
   ·cases hk
   ·rename_i hn0;simp only [Waa,Waf] at hk;obtain ⟨s1,h1,rfl⟩:=hk;exact ZR R hop hd hf hn hn0 h1 hp
  ·cases hk
 ·rename_i hop;obtain ⟨d,hd,hk⟩:=hk;split at hk <;> (try simp only [Waa,Waf] at hk)
  ·obtain ⟨f,hf,b,hb,n,hn,s1,h1,rfl⟩:=hk;exact zhG R hop hd hf hb hn h1 hp
  ·cases hk
 ·rename_i hop;obtain ⟨d,hd,hk⟩:=hk;split at hk <;> (try simp only [Waa,Waf] at hk)
  ·obtain ⟨n,hn,s1,h1,s2,h2,rfl⟩:=hk;exact Zh R hop hd hn h1 h2 hp
  ·obtain ⟨sz,hsz,hk⟩:=hk;split at hk
   ·simp only [Waa,Waf] at hk;obtain ⟨s1,h1,s2,h2,rfl⟩:=hk;exact YU R hop hd hsz h1 h2 hp
   ·cases hk
  ·cases hk
 ·rename_i hop;obtain ⟨d,hd,hk⟩:=hk;split at hk <;> (try simp only [Waa,Waf] at hk)
  ·obtain ⟨b,hb,n,hn,s1,h1,s2,h2,rfl⟩:=hk;exact zgE R hop hd hb hn h1 h2 hp
  ·cases hk
 ·rename_i hop;obtain ⟨d,hd,hk⟩:=hk;split at hk <;> (try simp only [Waa] at hk)
  ·obtain ⟨sz,hsz,hk⟩:=hk;split at hk
   ·simp only [Waa,Waf] at hk;obtain ⟨s1,h1,rfl⟩:=hk;exact zjU R hop hd h1 hp
   ·cases hk
  ·cases hk
 ·split at hk
  ·cases hk; cases hp
  ·cases hk
 ·obtain ⟨d,hd,hk⟩:=hk;split at hk <;> (try simp only [Waa,Waf] at hk)
  ·obtain ⟨_,_,_,_,_,_,_,_,rfl⟩:=hk; cases hp
  ·cases hk
 ·obtain ⟨d,hd,hk⟩:=hk;split at hk <;> (try simp only [Waa,Waf] at hk)
  ·obtain ⟨_,_,_,_,_,_,_,_,rfl⟩:=hk; cases hp
  ·cases hk
 ·obtain ⟨d,hd,hk⟩:=hk;split at hk <;> (try simp only [Waa,Waf] at hk)
  ·obtain ⟨_,_,_,_,_,_,_,_,rfl⟩:=hk; cases hp
  ·cases hk
 ·rename_i hop;obtain ⟨s1,h1,rfl⟩:=hk;cases take with
  | true=>cases hp
  | false=>exact ziY R hop h1 hp
 ·rename_i c hop;obtain ⟨callee,args,ats⟩:=c;simp only at hk;split at hk <;> (try simp only [Wab,Waa,Waf] at hk)
  ·split at hk
   ·rename_i hc;split at hk
    ·rename_i he;simp only [Wab,Waa,Waf] at hk;obtain ⟨s1,h1,s2,h2,rfl⟩:=hk;exact zj5 R hop hc he h1 h2 hp
    ·cases hk
   ·split at hk
    ·split at hk
     ·rename_i he;simp only [Wab,Waa,Waf] at hk;obtain ⟨s0,h0,s1,h1,s2,h2,s3,h3,rfl⟩:=hk;exact zlE R hop h0 he h1 h2 h3 hp
     ·cases hk
    ·simp only [Wab,Waa,Waf] at hk;obtain ⟨_,_,_,_,rfl⟩:=hk; cases hp
  ·obtain ⟨_,_,rfl⟩:=hk; cases hp
  ·obtain ⟨k0,hk,rfl⟩:=hk;rcases ZE xs k0 with e | ⟨_,_,_,_,rfl,e⟩
   ·rw [e] at hp; exact zaQ R hop hk hp
   ·rw [e] at hp; cases hp
  ·cases hk
 ·cases hk
end
section
variable {α:Type}{w':World}{l:Loc}{u:Value}{id:Nat}
variable {aa:Rn} {we:World} {ωe:Nat->Ow} {U:Nat->Nat->Prop} {O:Nat->Prop} {Z:St} {a:Act} {w:World} {ω:Nat->Ow} {μ:Nat->Nat} {P:Program}
def upd{α:Type}(f:Nat->α)(k:Nat)(v:α):Nat->α:=λx=>if x=k then v else f x
theorem d7(f:Nat->α)(k:Nat)(v:α):upd f k v k=v:=by simp [upd]
theorem dC(f:Nat->α){k j:Nat}(v:α)(h:j≠k):upd f k v j=f j:=by simp [upd,h]
theorem Rel.put(R:Rel aa we ωe U O Z a w ω μ)(d:Option Nat){v:V}{u:Value}(h:∀ i,d=some i->Rep aa (env U Z w ω μ) (.slot i 0) v u):Rel aa we ωe U O (Z.put d v) (a.put d u) w ω μ:=by
 cases d with
 | none=>exact R
 | some i=>
  refine ⟨R.df,by simpa [Act.put,St.put] using R.tl,λj v' hj=>?_,R.bs,R.fs,R.ms,R.kp,R.ow,R.ul,R.fr,R.rs,R.gv⟩;show Rep aa (env U Z w ω μ) _ _ _;simp only [St.put,Act.put] at hj ⊢;by_cases hji:j=i
  ·subst hji;have hlt:j<Z.t.length:=by
    have:=(Wam.1 hj).1;simpa using this
   rw [Wax hlt] at hj;cases hj;have:(a.tmps.setIfInBounds j u).getD j undef=u:=by
    have h':j<a.tmps.size:=by rw [R.tl]; exact hlt
    simp [h']
   rw [this];exact h j rfl
  ·rw [Waw (λe=>hji e.symm)] at hj;have:(a.tmps.setIfInBounds i u).getD j undef=a.tmps.getD j undef:=by
    simp [Array.getElem?_setIfInBounds_ne (λe=>hji e.symm)]
   rw [this];exact R.ts j v' hj
theorem Rel.ac(R:Rel aa we ωe U O Z a w ω μ)(s:Src):Rel aa we ωe U O (Z.ac s) a w ω μ:=by
 cases s with
 | const v=>exact R
 | tmp t=>
  refine ⟨R.df,by simpa [St.ac] using R.tl,λj v' hj=>?_,R.bs,R.fs,R.ms,R.kp,R.ow,R.ul,R.fr,R.rs,R.gv⟩;show Rep aa (env U Z w ω μ) _ _ _;simp [St.ac] at hj;rw [WaJ] at hj;cases hv:Z.t[j]? with
  | none=>simp [hv] at hj
  | some v=>
   by_cases hjt:t=j
   ·subst hjt; simp [hv] at hj; subst hj; exact (R.ts t v hv).ag R.hU _
   ·simp [hv,hjt] at hj; subst hj; exact R.ts j v hv
theorem Rel.step(R:Rel aa we ωe U O Z a w ω μ){σ':St}{ω':Nat->Ow}{μ':Nat->Nat}(F:Fr (env U Z w ω μ) (env U σ' w' ω' μ'))(ht:σ'.t=Z.t)
  (hg:∀ t j Y h,t<Z.t.length->ω Y=.gs (.slot t j) h->ω' Y=.gs (.slot t j) h/\w'.heap[Y]?=w.heap[Y]?)
  (hb:∀ (id:Nat) (p:Bool) (cs:List V),σ'.b[id]?=some (.live p cs)->cs≠[]->(Z.b[id]?=some (.live p cs)/\ω' (μ id)=.ax id/\w'.heap[μ id]?=w.heap[μ id]?/\∀ j Y h,ω Y=.gs (.cell id j) h->ω' Y=.gs (.cell id j) h/\w'.heap[Y]?=w.heap[Y]?) ∨
   (ω' (μ' id)=.ax id/\∃ arr T,w'.heap[μ' id]?=some (.cells arr T (0,0))/\cs.length<=arr.size /\
    ∀ (j:Nat) (c:V),cs[j]?=some c->∃ u,arr[j]?=some u/\u.oneCell'=true/\(p=true->RepP aa w' (wr U ω') c u)/\Rep aa (env U σ' w' ω' μ') (.cell id j) c u))
  (hf:∀ (id:Nat) (cs:List V),σ'.b[id]?=some (.fz cs)->(Z.b[id]?=some (.fz cs)/\(∀ o,¬ wr U ω' (μ id) o)/\w'.heap[μ id]?=w.heap[μ id]?) ∨
   ((∀ o,¬ wr U ω' (μ' id) o)/\∃ arr T fr,w'.heap[μ' id]?=some (.cells arr T fr)/\cs.length<=arr.size /\
    ∀ (j:Nat) (c:V),cs[j]?=some c->∃ u,arr[j]?=some u/\u.oneCell'=true/\RepP aa w' (wr U ω') c u))
  (hm:∀ (id:Nat) (es:Lm),σ'.b[id]?=some (.mp es)->(Z.b[id]?=some (.mp es)/\ω' (μ id)=.ax id/\w'.heap[μ id]?=w.heap[μ id]?) ∨
   (ω' (μ' id)=.ax id/\∃ arr clock,w'.heap[μ' id]?=some (.map arr clock)/\MapRep aa w' (wr U ω') es arr))
  {O':Nat->Prop} (hk:Kept O' w w') (hO:∀ k,k<we.heap.size->O' k->O k) (how:∀ k,ω' k≠.no->(we.heap.size<=k∨O k)/\k<w'.heap.size) (hrs:∀ k,eR w k<=eR w' k):Rel aa we ωe U O σ' a w' ω' μ':=by
 refine ⟨R.df,by rw [ht]; exact R.tl,λj v hj=>?_,λid p cs h=>?_,λid cs h=>?_,λid es h=>?_,R.kp.trans hk hO,how,R.ul,λk o u h1 h2=>F.st k o u (R.fr k o u h1 h2).1 (R.fr k o u h1 h2).2,λk=>Nat.le_trans (R.rs k) (hrs k),R.gv⟩
 ·rw [ht] at hj;refine (R.ts j v hj).frame F (λl Y h e0 e=>?_);cases l with
  | slot t i=>cases e0; exact hg _ i Y h (Wam.1 hj).1 e
  | cell id i=>cases e0
 ·refine Po λhne=>?_;rcases hb id p cs h hne with ⟨h1,h2,h3,h4⟩ | h
  ·obtain ⟨e0,arr,T,e1,e2,e3⟩:=R.live h1 hne;have hm:μ' id=μ id:=(F.id id cs.length (by simp [env,dS,h1])).2.1;rw [hm];refine ⟨h2,arr,T,by rw [h3]; exact e1,e2,λj c hc=>?_⟩;obtain ⟨u,g1,g2,g3,g4⟩:=e3 j c hc;exact ⟨u,g1,g2,λhp=>(g3 hp).mono F.st,g4.frame F (λl Y h e0 e=>by cases l with | slot t i=>cases e0 | cell id i=>cases e0; exact h4 _ Y h e)⟩
  ·exact h
 ·rcases hf id cs h with ⟨h1,h2,h3⟩ | h
  ·obtain ⟨e0,arr,T,fr,e1,e2,e3⟩:=R.fs id cs h1;have hm:μ' id=μ id:=(F.id id cs.length (by simp [env,dS,h1])).2.1;rw [hm];refine ⟨h2,arr,T,fr,by rw [h3]; exact e1,e2,λj c hc=>?_⟩;obtain ⟨u,g1,g2,g3⟩:=e3 j c hc;exact ⟨u,g1,g2,g3.mono F.st⟩
  ·exact h
 ·rcases hm id es h with ⟨h1,h2,h3⟩ | h
  ·obtain ⟨e0,arr,clock,e1,e2⟩:=R.ms id es h1;have hm':μ' id=μ id:=(F.id id 0 (by simp [env,dS,h1])).2.1;rw [hm'];exact ⟨h2,arr,clock,by rw [h3]; exact e1,e2.mono F.st⟩
  ·exact h
theorem Gc(U:Nat->Nat->Prop){Y h:Nat}(hβ:ω Y=.gs l h)(l':Loc):wr U (upd ω Y (.gs l' h))=wr U ω:=by
 grind [dC,d7,wr]
theorem Rep.bJ{E E':En}(F:Fr E E'){v:V}(h:Rep aa E l v u)(hv:∀ x xs,v≠.ae (x::xs))
  (hg:∀ (Y h:Nat),E.ω Y=.gs l h->E'.ω Y=.gs l h/\E'.w.heap[Y]?=E.w.heap[Y]?):Rep aa E' l v u:=by
 cases h with
 | pure h=>exact .pure (h.mono F.st)
 | gs sz es Y c arr T f hω hb hc hn hsz hcell h1 h=>
  obtain ⟨g1,g2⟩:=hg _ _ hω;exact .gs sz es Y c arr T f g1 (by rw [g2]; exact hb) hc hn hsz hcell h1 (λi v hv=>(h i v hv).mono F.st)
 | fr sz es Y c arr T f hω hb hc hn hsz hcell h1 h=>
  obtain ⟨g1,g2⟩:=hg _ _ hω;exact .fr sz es Y c arr T f g1 (by rw [g2]; exact hb) hc hn hsz hcell h1 (λi v hv=>(h i v hv).mono F.st)
 | aU sz A=>exact .aU sz A
 | ub b=>exact .ub b
 | mp id L hL=>exact Rep.frame0 F (λ_=>.mp id L hL) (by simp) _
 | bx p cs Y arr T f hω hb hn hcell h1 h=>
  obtain ⟨g1,g2⟩:=hg _ _ hω;exact .bx p cs Y arr T f g1 (by rw [g2]; exact hb) hn hcell h1 (λi v hv=>(h i v hv).mono F.st)
 | own id off len sz c L A hL hl hc hA=>exact Rep.frame0 F (λ_=>.own id off len sz c L A hL hl hc hA) (by simp) _
 | cut id off len cap sz c L A hL hl hc hA=>exact Rep.frame0 F (λ_=>.cut id off len cap sz c L A hL hl hc hA) (by simp) _
 | ptr id off L hL=>exact Rep.frame0 F (λ_=>.ptr id off L hL) (by simp) _
 | fp n cs k o f hl hcell h1 h=>exact Rep.frame0 F (λ_=>.fp n cs k o f hl hcell h1 h) (by simp) _
 | fn f g caps us hr hl h=>exact Rep.frame0 F (λ_=>.fn f g caps us hr hl h) (by simp) _
 | ae vs us hl h=>
  cases vs with
  | nil=>
   cases us with
   | nil=>exact .ae [] [] rfl (by simp)
   | cons x xs=>simp at hl
  | cons x xs=>exact absurd rfl (hv x xs)
 | st cs us hl h h1=>exact Rep.frame0 F (λ_=>.st cs us hl h h1) (by simp) _
 | af=>exact .af
theorem wY(U:Nat->Nat->Prop)(Z:St)(w:World)(μ:Nat->Nat){Y h:Nat}(hβ:ω Y=.gs l h)(l':Loc):Fr (env U Z w ω μ) (env U Z w (upd ω Y (.gs l' h)) μ):=by
 have hw:=Gc U hβ l';refine ⟨λk o u h1 h2=>⟨?_,h2⟩,λid L hL=>⟨hL,rfl,Wah _⟩⟩;show ¬ wr U (upd ω Y (.gs l' h)) k o;rw [hw]; exact h1
theorem Rel.relabel(R:Rel aa we ωe U O Z a w ω μ){Y h:Nat}(hβ:ω Y=.gs l h)(l':Loc)
  (hs:∀ (t:Nat) (v:V),Z.t[t]?=some v->l.hd=.slot t 0->Rep aa (env U Z w (upd ω Y (.gs l' h)) μ) (.slot t 0) v (a.tmps.getD t undef))
  (hc:∀ (id j:Nat) (p:Bool) (cs:List V) (v:V),Z.b[id]?=some (.live p cs)->cs[j]?=some v->l=.cell id j->∀ u,Rep aa (env U Z w ω μ) (.cell id j) v u->Rep aa (env U Z w (upd ω Y (.gs l' h)) μ) (.cell id j) v u) :
  Rel aa we ωe U O Z a w (upd ω Y (.gs l' h)) μ:=by
 have hw:=Gc U hβ l';have F:=wY U Z w μ hβ l';refine ⟨R.df,R.tl,λj v hj=>?_,λid p cs hb=>?_,λid cs hb=>?_,λid es hb=>?_,R.kp,λk hk=>?_,R.ul,λk o u h1 h2=>F.st k o u (R.fr k o u h1 h2).1 (R.fr k o u h1 h2).2,R.rs,R.gv⟩
 ·by_cases hl:l.hd=.slot j 0
  ·exact hs j v hj hl
  ·refine (R.ts j v hj).frame F (λl2 β2 h2 e1 e2=>⟨?_,rfl⟩);have e2:ω β2=.gs l2 h2:=e2;show upd ω Y (.gs l' h) β2=.gs l2 h2;rw [dC]
   ·exact e2
   ·rintro rfl
    rw [hβ] at e2; cases e2;exact hl e1
 ·refine Po λhne=>?_;obtain ⟨e0,arr,T,e1,e2,e3⟩:=R.live hb hne;refine ⟨?_,arr,T,e1,e2,λj c hcj=>?_⟩
  ·rw [dC]
   ·exact e0
   ·intro e; rw [e,hβ] at e0; cases e0
  ·obtain ⟨u,g1,g2,g3,g4⟩:=e3 j c hcj;refine ⟨u,g1,g2,λhp=>(g3 hp).mono F.st,?_⟩;by_cases hl:l=.cell id j
   ·exact hc id j p cs c hb hcj hl u g4
   ·refine g4.frame F (λl2 β2 h2 e1 e2=>⟨?_,rfl⟩);have e2:ω β2=.gs l2 h2:=e2;show upd ω Y (.gs l' h) β2=.gs l2 h2;rw [dC]
    ·exact e2
    ·rintro rfl
     rw [hβ] at e2; cases e2;cases l with
     | slot t j'=>cases e1
     | cell i' j'=>exact hl e1
 ·obtain ⟨e0,arr,T,fr,e1,e2,e3⟩:=R.fs id cs hb;refine ⟨by rw [hw]; exact e0,arr,T,fr,e1,e2,λj c hcj=>?_⟩;obtain ⟨u,g1,g2,g3⟩:=e3 j c hcj;exact ⟨u,g1,g2,g3.mono F.st⟩
 ·obtain ⟨e0,arr,clock,e1,e2⟩:=R.ms id es hb;refine ⟨?_,arr,clock,e1,e2.mono F.st⟩;rw [dC]
  ·exact e0
  ·intro e; rw [e,hβ] at e0; cases e0
 ·by_cases hkb:k=Y
  ·subst hkb; exact R.ow k (by rw [hβ]; simp)
  ·rw [dC _ _ hkb] at hk; exact R.ow k hk
theorem Rel.opndC(R:Rel aa we ωe U O Z a w ω μ){ty:TypeId}{x:Operand}{s:Src}(h:du P aa ty x=some s):(∀ t,s=.tmp t->a.eval x=a.tmps.getD t undef)/\(∀ v,s=.const v->∀ l,Rep aa (env U Z w ω μ) l v (a.eval x)):=by
 cases x with
 | tmp t=>cases h; exact ⟨λt' e=>by cases e; rfl,λv e=>by cases e⟩
 | const v=>
  cases hc:K1 P ty v with
  | none=>simp [du,hc] at h
  | some v'=>simp [du,hc] at h; subst h; exact ⟨λt e=>(by cases e),λv e l=>by cases e; exact TL hc _ _⟩
 | global g=>
  cases hg:aa.g g with
  | none=>simp [du,hg] at h
  | some cs=>simp [du,hg] at h; subst h; exact ⟨λt e=>(by cases e),λv e l=>by cases e; exact GV.rep (E:=env U Z w ω μ) R.gvn hg l⟩
 | func f=>
  cases hr:aa f with
  | none=>simp [du,hr] at h
  | some g=>simp [du,hr] at h; subst h; exact ⟨λt e=>(by cases e),λv e l=>by cases e; exact .pure (.fn f g hr)⟩
theorem Rel.taken(R:Rel aa we ωe U O Z a w ω μ)(s:Src)(hr:Rep aa (env U Z w ω μ) s.loc (s.get Z) u)(hu:∀ t,s=.tmp t->u=a.tmps.getD t undef)(hC:∀ v,s=.const v->∀ l,Rep aa (env U Z w ω μ) l v u)(l':Loc) :
  ∃ ω',Fr (env U Z w ω μ) (env U Z w ω' μ)/\Rel aa we ωe U O (Z.ac s) a w ω' μ/\Rep aa (env U Z w ω' μ) l' (s.get Z).tk u/\wr U ω'=wr U ω:=by
 have plain:(∀ sz es,s.get Z≠.gs sz es)->(∀ sz es,s.get Z≠.fr sz es)->∃ ω',Fr (env U Z w ω μ) (env U Z w ω' μ)/\Rel aa we ωe U O (Z.ac s) a w ω' μ/\Rep aa (env U Z w ω' μ) l' (s.get Z).tk u/\wr U ω'=wr U ω:=by
  intro hne hnf;refine ⟨ω,⟨λk o u h1 h2=>⟨h1,h2⟩,λid L hL=>⟨hL,rfl,Wah _⟩⟩,R.ac s,?_,rfl⟩;have e:(s.get Z).tk=(s.get Z).ag:=by
   cases h:s.get Z <;> first | rfl | exact absurd h (hne _ _) | exact absurd h (hnf _ _)
  rw [e];exact hr.ag R.hU l'
 cases hv:s.get Z with
 | gs sz es=>
  rw [hv] at hr;cases hr with
  | pure h=>exact ⟨ω,⟨λk o u h1 h2=>⟨h1,h2⟩,λid L hL=>⟨hL,rfl,Wah _⟩⟩,R.ac s,.pure h,rfl⟩
  | gs _ _ Y c arr T f hω hb hc hn hsz hcell h1 h=>
   have hβ:ω Y=.gs s.loc (es.length*sz):=hω;cases s with
   | const x=>
    have hx:x=.gs sz es:=hv;subst hx;have q:=hC _ rfl (.slot 1 0);cases q with
    | pure h=>exact ⟨ω,⟨λk o u h1 h2=>⟨h1,h2⟩,λid L hL=>⟨hL,rfl,Wah _⟩⟩,R.ac _,.pure h,rfl⟩
    | gs _ _ _ _ _ _ _ hω'=>rw [hω] at hω'; cases hω'
   | tmp t=>
    have R1:=R.ac (.tmp t);have F:=wY U Z w μ hβ l';have R':=R1.relabel (l:=.slot t 0) hβ l' (λt' v hj hl=>by
      cases hl;simp only [St.ac] at hj;rw [WaJ] at hj;cases hv':Z.t[t]? with
      | none=>simp [hv'] at hj
      | some v'=>
       simp [hv'] at hj; subst hj;refine Rep.frame0 F (λl=>(R.ts t v' hv').ag R.hU l) (λx xs=>?_) _;cases v' with
       | ae vs=>cases vs <;> simp [V.ag]
       | _=>simp [V.ag]) (λid j p cs v _ _ hl=>by cases hl)
    exact ⟨_,F,R',.gs sz es Y c arr T f (d7 _ _ _) hb hc hn hsz hcell h1 (λi v hv=>(h i v hv).mono F.st),Gc U hβ l'⟩
 | fr sz es=>
  rw [hv] at hr;cases hr with
  | pure h=>cases h
  | aU _ A=>exact ⟨ω,⟨λk o u h1 h2=>⟨h1,h2⟩,λid L hL=>⟨hL,rfl,Wah _⟩⟩,R.ac s,.aU _ _,rfl⟩
  | fr _ _ Y c arr T f hω hb hc hn hsz hcell h1 h=>
   have hβ:ω Y=.gs s.loc 0:=hω;cases s with
   | const x=>
    have hx:x=.fr sz es:=hv;subst hx;have q:=hC _ rfl (.slot 1 0);cases q with
    | pure h=>cases h
    | aU _ A=>exact ⟨ω,⟨λk o u h1 h2=>⟨h1,h2⟩,λid L hL=>⟨hL,rfl,Wah _⟩⟩,R.ac _,.aU _ _,rfl⟩
    | fr _ _ _ _ _ _ _ hω'=>rw [hω] at hω'; cases hω'
   | tmp t=>
    have R1:=R.ac (.tmp t);have F:=wY U Z w μ hβ l';have R':=R1.relabel (l:=.slot t 0) hβ l' (λt' v hj hl=>by
      cases hl;simp only [St.ac] at hj;rw [WaJ] at hj;cases hv':Z.t[t]? with
      | none=>simp [hv'] at hj
      | some v'=>
       simp [hv'] at hj; subst hj;refine Rep.frame0 F (λl=>(R.ts t v' hv').ag R.hU l) (λx xs=>?_) _;cases v' with
       | ae vs=>cases vs <;> simp [V.ag]
       | _=>simp [V.ag]) (λid j p cs v _ _ hl=>by cases hl)
    exact ⟨_,F,R',.fr sz es Y c arr T f (d7 _ _ _) hb hc hn hsz hcell h1 (λi v hv=>(h i v hv).mono F.st),Gc U hβ l'⟩
 | _=>rw [<- hv]; exact plain (by rw [hv]; simp) (by rw [hv]; simp)
theorem Rel.newBlockG(R:Rel aa we ωe U O Z a w ω μ)(hid:Z.b[id]?=some .gone)(p:Bool)(cs:List V)(arr:Array Value)(T:TypeId)(hl:cs.length<=arr.size)
  (hc:∀ (j:Nat) (c:V),cs[j]?=some c->∃ u,arr[j]?=some u/\u.oneCell'=true/\(RepP aa w (wr U ω) c u∨(p=false/\(OwnAt (env U Z w ω μ) c u∨∀ (E:En) (l:Loc),Rep aa E l c u)))) :
  Fr (env U Z w ω μ) (env U (Z.ab id (.live p cs)) (w.alloc (.cells arr T)) (upd ω w.heap.size (.ax id)) (upd μ id w.heap.size)) /\
  Rel aa we ωe U O (Z.ab id (.live p cs)) a (w.alloc (.cells arr T)) (upd ω w.heap.size (.ax id)) (upd μ id w.heap.size):=by
 have hlt:id<Z.b.length:=(Wam.1 hid).1;have hnew:(w.alloc (.cells arr T)).heap[w.heap.size]?=some (.cells arr T (0,0)):=heap_alloc_new w _;have hwsz:∀ k,ω k≠.no->k<w.heap.size:=λk h=>(R.ow k h).2;have hgs:∀ (l:Loc) Y h,ω Y=.gs l h->upd ω w.heap.size (.ax id) Y=.gs l h/\(w.alloc (.cells arr T)).heap[Y]?=w.heap[Y]?:=by
  intro l Y h e;have hβ:=hwsz Y (by rw [e]; simp);exact ⟨by grind [dC],heap_alloc_old w _ hβ⟩
 have F:Fr (env U Z w ω μ) (env U (Z.ab id (.live p cs)) (w.alloc (.cells arr T)) (upd ω w.heap.size (.ax id)) (upd μ id w.heap.size)):=by
  refine ⟨λk o u h1 h2=>?_,λid' L hL=>?_⟩
  ·have hk:k<w.heap.size:=World.block_lt_of_cell? w ⟨k,o,none⟩ h2;refine ⟨?_,(World.cell?_alloc_lt w _ ⟨k,o,none⟩ hk).trans h2⟩;show ¬ wr U (upd ω w.heap.size (.ax id)) k o;unfold wr;rw [dC _ _ (by omega)];exact h1
  ·have hL:dS Z.b id'=some L:=hL;have hne:id'≠id:=by grind [dS]
   refine ⟨?_,dC _ _ hne,?_⟩
   ·show dS (Z.b.set id _) id'=some L;unfold dS at hL ⊢;rw [Waw (λe=>hne e.symm)];exact hL
   ·show eR w (μ id')<=eR (w.alloc (.cells arr T)) (μ id');by_cases hm:μ id'<w.heap.size
    ·unfold eR; rw [heap_alloc_old w _ hm]; exact Wah _
    ·unfold eR; rw [WaE (by omega)]; exact WaK _
 refine ⟨F,R.step F rfl (λt j Y h _ e=>hgs _ Y h e) (λid' p' cs' h' hne'=>?_) (λid' cs' h'=>?_) (λid' es' h'=>?_) (Kept.alloc No w _) (λk _ h=>AH h) (λk hk=>?_) (λk=>?_)⟩
 ·by_cases hne:id'=id
  ·subst hne;simp only [St.ab] at h';rw [Wax hlt] at h';cases h';refine .inr ⟨by rw [d7,d7],arr,T,by rw [d7]; exact hnew,hl,λj c hj=>?_⟩;obtain ⟨u,g1,g2,g3⟩:=hc j c hj;rcases g3 with g3 | ⟨hp,g3 | g3⟩
   ·exact ⟨u,g1,g2,λ_=>g3.mono F.st,.pure (g3.mono F.st)⟩
   ·exact ⟨u,g1,g2,λh=>(by rw [hp] at h; cases h),(g3.frame F).rep _⟩
   ·exact ⟨u,g1,g2,λh=>(by rw [hp] at h; cases h),g3 _ _⟩
  ·simp only [St.ab] at h';rw [Waw (λe=>hne e.symm)] at h';obtain ⟨e0,arr',T',e1,_⟩:=R.live h' hne';have hβ:=hwsz (μ id') (by rw [e0]; simp);exact .inl ⟨h',by grind [dC],heap_alloc_old w _ hβ,λj Y h e=>hgs _ Y h e⟩
 ·by_cases hne:id'=id
  ·subst hne;simp only [St.ab] at h';rw [Wax hlt] at h';cases h'
  ·simp only [St.ab] at h';rw [Waw (λe=>hne e.symm)] at h';obtain ⟨e0,arr',T',fr',e1,_⟩:=R.fs id' cs' h';have hβ:μ id'<w.heap.size:=(WaL.1 e1).1;refine .inl ⟨h',λo hw=>e0 o ?_,heap_alloc_old w _ hβ⟩;unfold wr at hw ⊢
   rwa [dC _ _ (by omega)] at hw
 ·by_cases hne:id'=id
  ·subst hne;simp only [St.ab] at h';rw [Wax hlt] at h';cases h'
  ·simp only [St.ab] at h';rw [Waw (λe=>hne e.symm)] at h';obtain ⟨e0,arr',clock',e1,_⟩:=R.ms id' es' h';have hβ:=hwsz (μ id') (by rw [e0]; simp);exact .inl ⟨h',by grind [dC],heap_alloc_old w _ hβ⟩
 ·by_cases hk':k=w.heap.size
  ·subst hk'; exact ⟨.inl R.kp.size,by simp⟩
  ·rw [dC _ _ hk'] at hk;exact ⟨(R.ow k hk).1,by grind⟩
 ·by_cases hm:k<w.heap.size
  ·unfold eR; rw [heap_alloc_old w _ hm]; exact Wah _
  ·unfold eR; rw [WaE (xs:=w.heap) (by omega)]; exact WaK _
theorem Rel.newBlock(R:Rel aa we ωe U O Z a w ω μ)(hid:Z.b[id]?=some .gone)(p:Bool)(cs:List V)(arr:Array Value)(T:TypeId)(hl:cs.length<=arr.size)
  (hc:∀ (j:Nat) (c:V),cs[j]?=some c->∃ u,arr[j]?=some u/\u.oneCell'=true/\RepP aa w (wr U ω) c u) :
  Fr (env U Z w ω μ) (env U (Z.ab id (.live p cs)) (w.alloc (.cells arr T)) (upd ω w.heap.size (.ax id)) (upd μ id w.heap.size)) /\
  Rel aa we ωe U O (Z.ab id (.live p cs)) a (w.alloc (.cells arr T)) (upd ω w.heap.size (.ax id)) (upd μ id w.heap.size):=
 R.newBlockG hid p cs arr T hl (λj c h=>by grind)
theorem Rel.write(R:Rel aa we ωe U O Z a w ω μ){p:Bool}{cs cs':List V}(hid:Z.b[id]?=some (.live p cs))(hne:cs≠[])(hl:cs'.length=cs.length){arr arr':Array Value}{T:TypeId}(ha:w.heap[μ id]?=some (.cells arr T (0,0)))(hs:arr'.size=arr.size)
  (hw1:w'.heap[μ id]?=some (.cells arr' T (0,0))) (hw2:∀ k,k≠μ id->w'.heap[k]?=w.heap[k]?) (hk:Kept (λk=>k=μ id) w w') :
  Fr (env U Z w ω μ) (env U (Z.ab id (.live p cs')) w' ω μ) /\
  ((∀ (j:Nat) (c:V),cs'[j]?=some c->∃ u,arr'[j]?=some u/\u.oneCell'=true/\(p=true->RepP aa w' (wr U ω) c u)/\Rep aa (env U (Z.ab id (.live p cs')) w' ω μ) (.cell id j) c u) ->
   Rel aa we ωe U O (Z.ab id (.live p cs')) a w' ω μ):=by
 have hlt:id<Z.b.length:=(Wam.1 hid).1;obtain ⟨e0,_⟩:=R.live hid hne;have hcell:∀ k o,k≠μ id->w'.cell? ⟨k,o,none⟩=w.cell? ⟨k,o,none⟩:=λk o h=>World.cell?_of_block (hw2 k h);have hwr:∀ o,wr U ω (μ id) o:=λo=>.inr (by rw [e0]; trivial);have hgs:∀ (l:Loc) Y h,ω Y=.gs l h->ω Y=.gs l h/\w'.heap[Y]?=w.heap[Y]?:=by
  grind
 have F:Fr (env U Z w ω μ) (env U (Z.ab id (.live p cs')) w' ω μ):=by
  refine ⟨λk o u h1 h2=>⟨h1,?_⟩,λid' L hL=>⟨?_,rfl,?_⟩⟩
  ·have:k≠μ id:=by rintro rfl; exact h1 (hwr o)
   exact (hcell k o this).trans h2
  ·have hL:dS Z.b id'=some L:=hL;show dS (Z.b.set id _) id'=some L;unfold dS at hL ⊢;by_cases hne:id'=id
   ·subst hne;rw [Wax hlt];rw [hid] at hL;simpa [hl] using hL
   ·rw [Waw (λe=>hne e.symm)]; exact hL
  ·show eR w (μ id')<=eR w' (μ id');by_cases hm:μ id'=μ id
   ·rw [hm]; unfold eR; rw [ha,hw1]; simp [hs]
   ·unfold eR; rw [hw2 _ hm]; exact Wah _
 refine ⟨F,λhc=>R.step F rfl (λt j Y h _ e=>hgs _ Y h e) (λid' p' cs'' h' hne'=>?_) (λid' cs'' h'=>?_) (λid' es' h'=>?_) hk (λk hk1 hk2=>?_) (λk hk1=>?_) (λk=>?_)⟩
 ·by_cases hne:id'=id
  ·subst hne;simp only [St.ab] at h';rw [Wax hlt] at h';cases h';exact .inr ⟨e0,arr',T,hw1,by grind,hc⟩
  ·simp only [St.ab] at h';rw [Waw (λe=>hne e.symm)] at h';obtain ⟨e1,_⟩:=R.live h' hne';exact .inl ⟨h',e1,hw2 _ (by grind),λj Y h e=>hgs _ Y h e⟩
 ·by_cases hne:id'=id
  ·subst hne;simp only [St.ab] at h';rw [Wax hlt] at h';cases h'
  ·simp only [St.ab] at h';rw [Waw (λe=>hne e.symm)] at h';obtain ⟨e1,_⟩:=R.fs id' cs'' h';exact .inl ⟨h',e1,hw2 _ (by intro e; simp_all)⟩
 ·by_cases hne:id'=id
  ·subst hne;simp only [St.ab] at h';rw [Wax hlt] at h';cases h'
  ·simp only [St.ab] at h';rw [Waw (λe=>hne e.symm)] at h';obtain ⟨e1,_⟩:=R.ms id' es' h';exact .inl ⟨h',e1,hw2 _ (by grind)⟩
 ·subst hk2;rcases (R.ow (μ id) (by rw [e0]; simp)).1 with h | h
  ·omega
  ·exact h
 ·exact ⟨(R.ow k hk1).1,Nat.lt_of_lt_of_le (R.ow k hk1).2 hk.size⟩
 ·by_cases hm:k=μ id
  ·rw [hm]; unfold eR; rw [ha,hw1]; simp [hs]
  ·unfold eR; rw [hw2 _ hm]; exact Wah _
end
section
variable {T Y id:Nat}
variable {aa:Rn} {we:World} {ωe:Nat->Ow} {U:Nat->Nat->Prop} {O:Nat->Prop} {Z:St} {a:Act} {w:World} {ω:Nat->Ow} {μ:Nat->Nat} {P:Program}
theorem Rel.newGs(R:Rel aa we ωe U O Z a w ω μ)(l:Loc)(h:Nat)(arr:Array Value)(T:TypeId)(mk:Nat × Nat:=(0,0)) :
  Fr (env U Z w ω μ) (env U Z (w.alloc (.cells arr T mk)) (upd ω w.heap.size (.gs l h)) μ)/\Rel aa we ωe U O Z a (w.alloc (.cells arr T mk)) (upd ω w.heap.size (.gs l h)) μ:=by
 have hwsz:∀ k,ω k≠.no->k<w.heap.size:=λk h=>(R.ow k h).2;have hgs:∀ (l':Loc) Y h',ω Y=.gs l' h'->upd ω w.heap.size (.gs l h) Y=.gs l' h'/\(w.alloc (.cells arr T mk)).heap[Y]?=w.heap[Y]?:=by
  intro l' Y h' e;have hβ:=hwsz Y (by rw [e]; simp);exact ⟨by grind [dC],heap_alloc_old w _ hβ⟩
 have F:Fr (env U Z w ω μ) (env U Z (w.alloc (.cells arr T mk)) (upd ω w.heap.size (.gs l h)) μ):=by
  refine ⟨λk o u h1 h2=>?_,λid' L hL=>⟨hL,rfl,?_⟩⟩
  ·have hk:k<w.heap.size:=World.block_lt_of_cell? w ⟨k,o,none⟩ h2;refine ⟨?_,(World.cell?_alloc_lt w _ ⟨k,o,none⟩ hk).trans h2⟩;show ¬ wr U (upd ω w.heap.size (.gs l h)) k o;unfold wr;rw [dC _ _ (by omega)];exact h1
  ·show eR w (μ id')<=eR (w.alloc (.cells arr T mk)) (μ id');by_cases hm:μ id'<w.heap.size
   ·unfold eR; rw [heap_alloc_old w _ hm]; exact Wah _
   ·unfold eR; rw [WaE (by omega)]; exact WaK _
 refine ⟨F,R.step F rfl (λt j Y h _ e=>hgs _ Y h e) (λid' p' cs' h' hne'=>?_) (λid' cs' h'=>?_) (λid' es' h'=>?_) (Kept.alloc No w _) (λk _ h=>AH h) (λk hk=>?_) (λk=>?_)⟩
 ·obtain ⟨e0,arr',T',e1,_⟩:=R.live h' hne';have hβ:=hwsz (μ id') (by rw [e0]; simp);exact .inl ⟨h',by grind [dC],heap_alloc_old w _ hβ,λj Y h e=>hgs _ Y h e⟩
 ·obtain ⟨e0,arr',T',fr',e1,_⟩:=R.fs id' cs' h';have hβ:μ id'<w.heap.size:=(WaL.1 e1).1;refine .inl ⟨h',λo hw=>e0 o ?_,heap_alloc_old w _ hβ⟩;unfold wr at hw ⊢
  rwa [dC _ _ (by omega)] at hw
 ·obtain ⟨e0,arr',clock',e1,_⟩:=R.ms id' es' h';have hβ:=hwsz (μ id') (by rw [e0]; simp);exact .inl ⟨h',by grind [dC],heap_alloc_old w _ hβ⟩
 ·by_cases hk':k=w.heap.size
  ·subst hk'; exact ⟨.inl R.kp.size,by simp⟩
  ·rw [dC _ _ hk'] at hk;exact ⟨(R.ow k hk).1,by have:=(R.ow k hk).2; simp; omega⟩
 ·by_cases hm:k<w.heap.size
  ·unfold eR; rw [heap_alloc_old w _ hm]; exact Wah _
  ·unfold eR; rw [WaE (xs:=w.heap) (by omega)]; exact WaK _
def Loc.rn(T d:Nat):Loc->Loc
 | .slot t j=>if t=T then .slot d j else .slot t j
 | l=>l
def sW(T d:Nat)(ω:Nat->Ow)(k:Nat):Ow:=match ω k with | .gs l h=>.gs (l.rn T d) h | x=>x
theorem zcL(U:Nat->Nat->Prop)(T d:Nat)(ω:Nat->Ow):wr U (sW T d ω)=wr U ω:=by
 grind [sW,wr]
theorem Loc.rn_sub(T d:Nat)(l:Loc)(j:Nat):(l.sub j).rn T d=(l.rn T d).sub j:=by
 cases l with
 | slot t i=>grind [Loc.rn,Loc.sub]
 | cell id i=>rfl
theorem zc0(U:Nat->Nat->Prop)(Z:St)(w:World)(μ:Nat->Nat)(ω:Nat->Ow)(T d:Nat):Fr (env U Z w ω μ) (env U Z w (sW T d ω) μ):=by
 refine ⟨λk o u h1 h2=>⟨?_,h2⟩,λid L hL=>⟨hL,rfl,Wah _⟩⟩;show ¬ wr U (sW T d ω) k o;rw [zcL]; exact h1
theorem Rep.renSlot{d:Nat}{l:Loc}{v:V}{u:Value}(h:Rep aa (env U Z w ω μ) l v u):Rep aa (env U Z w (sW T d ω) μ) (l.rn T d) v u:=by
 have F:=zc0 U Z w μ ω T d
 induction h with
 | pure h=>exact .pure (h.mono F.st)
 | @gs l sz es Y c arr T' f hω hb hc hn hsz hcell h1 h=>
  have hω:ω Y=.gs l (es.length*sz):=hω;exact .gs sz es Y c arr T' f (by show sW T d ω Y=_; simp [sW,hω]) hb hc hn hsz hcell h1 (λi v hv=>(h i v hv).mono F.st)
 | @fr l sz es Y c arr T' f hω hb hc hn hsz hcell h1 h=>
  have hω:ω Y=.gs l 0:=hω;exact .fr sz es Y c arr T' f (by show sW T d ω Y=_; simp [sW,hω]) hb hc hn hsz hcell h1 (λi v hv=>(h i v hv).mono F.st)
 | aU sz A=>exact .aU sz A
 | ub b=>exact .ub b
 | mp id L hL=>exact Rep.frame0 F (λ_=>.mp id L hL) (by simp) _
 | @bx l p cs Y arr T' f hω hb hn hcell h1 h=>
  have hω:ω Y=.gs l 0:=hω;exact .bx p cs Y arr T' f (by show sW T d ω Y=_; simp [sW,hω]) hb hn hcell h1 (λi v hv=>(h i v hv).mono F.st)
 | own id off len sz c L A hL hl hc hA=>exact Rep.frame0 F (λ_=>.own id off len sz c L A hL hl hc hA) (by simp) _
 | cut id off len cap sz c L A hL hl hc hA=>exact Rep.frame0 F (λ_=>.cut id off len cap sz c L A hL hl hc hA) (by simp) _
 | ptr id off L hL=>exact Rep.frame0 F (λ_=>.ptr id off L hL) (by simp) _
 | fp n cs k o f hl hcell h1 h=>exact Rep.frame0 F (λ_=>.fp n cs k o f hl hcell h1 h) (by simp) _
 | fn f g caps us hr hl h=>exact Rep.frame0 F (λ_=>.fn f g caps us hr hl h) (by simp) _
 | ae vs us hl h ih=>exact .ae vs us hl (λj v u hv hu=>by grind [Loc.rn_sub])
 | st cs us hl h h1=>exact Rep.frame0 F (λ_=>.st cs us hl h h1) (by simp) _
 | af=>exact .af
theorem Rel.bp(R:Rel aa we ωe U O Z a w ω μ)(hT:∀ v,Z.t[T]?=some v->v=.af)(d:Nat):Rel aa we ωe U O Z a w (sW T d ω) μ:=by
 have F:=zc0 U Z w μ ω T d;have key:∀ l:Loc,l.hd≠.slot T 0->∀ (l':Loc) (Y h:Nat),l'.hd=l.hd->ω Y=.gs l' h->sW T d ω Y=.gs l' h:=by
  intro l hl l' Y h e1 e2;unfold sW;rw [e2];cases l' with
  | slot t j=>
   have:t≠T:=by rintro rfl; exact hl (by rw [<- e1]; rfl)
   simp [Loc.rn,this]
  | cell id j=>rfl
 refine ⟨R.df,R.tl,λj v hj=>?_,λid p cs hb=>?_,λid cs hb=>?_,λid es hb=>?_,R.kp,λk hk=>?_,R.ul,λk o u h1 h2=>F.st k o u (R.fr k o u h1 h2).1 (R.fr k o u h1 h2).2,R.rs,R.gv⟩
 ·by_cases hjT:j=T
  ·subst hjT; rw [hT v hj]; exact .af
  ·exact (R.ts j v hj).frame F (λl' Y h e1 e2=>⟨key (.slot j 0) (by intro e; cases e; exact hjT rfl) l' Y h e1 e2,rfl⟩)
 ·refine Po λhne=>?_;obtain ⟨e0,arr,T',e1,e2,e3⟩:=R.live hb hne;refine ⟨by simp [sW,e0],arr,T',e1,e2,λj c hc=>?_⟩;obtain ⟨u,g1,g2,g3,g4⟩:=e3 j c hc;exact ⟨u,g1,g2,λhp=>(g3 hp).mono F.st,g4.frame F (λl' Y h e1 e2=>⟨key (.cell id j) (by intro e; cases e) l' Y h e1 e2,rfl⟩)⟩
 ·obtain ⟨e0,arr,T',fr,e1,e2,e3⟩:=R.fs id cs hb;refine ⟨by rw [zcL]; exact e0,arr,T',fr,e1,e2,λj c hc=>?_⟩;obtain ⟨u,g1,g2,g3⟩:=e3 j c hc;exact ⟨u,g1,g2,g3.mono F.st⟩
 ·obtain ⟨e0,arr,clock,e1,e2⟩:=R.ms id es hb;exact ⟨by simp [sW,e0],arr,clock,e1,e2.mono F.st⟩
 ·refine R.ow k (λe=>hk ?_);simp [sW,e]
theorem Rel.renSlot(R:Rel aa we ωe U O Z a w ω μ)(hT:Z.t.length<=T)(d:Nat):Rel aa we ωe U O Z a w (sW T d ω) μ:=
 R.bp (λv hv=>by grind) d
theorem Rel.reown(R:Rel aa we ωe U O Z a w ω μ){j0:Nat}(hT:Z.t.length<=T){h:Nat}(hβ:ω Y=.gs (.slot T j0) h)(l':Loc)(h':Nat)(hh:h<=h') :
  Fr (env U Z w ω μ) (env U Z w (upd ω Y (.gs l' h')) μ)/\Rel aa we ωe U O Z a w (upd ω Y (.gs l' h')) μ:=by
 have F:Fr (env U Z w ω μ) (env U Z w (upd ω Y (.gs l' h')) μ):=by
  refine ⟨λk o u h1 h2=>⟨?_,h2⟩,λid L hL=>⟨hL,rfl,Wah _⟩⟩;show ¬ wr U (upd ω Y (.gs l' h')) k o;have h1:¬ wr U ω k o:=h1
  grind [dC,d7,wr]
 have key:∀ l:Loc,l.hd≠.slot T 0->∀ (l2:Loc) (β2 h2:Nat),l2.hd=l.hd->ω β2=.gs l2 h2->upd ω Y (.gs l' h') β2=.gs l2 h2:=by
  intro l hl l2 β2 h2 e1 e2;rw [dC]
  ·exact e2
  ·rintro rfl
   rw [hβ] at e2; cases e2;exact hl e1.symm
 refine ⟨F,R.df,R.tl,λj v hj=>?_,λid p cs hb=>?_,λid cs hb=>?_,λid es hb=>?_,R.kp,λk hk=>?_,R.ul,λk o u h1 h2=>F.st k o u (R.fr k o u h1 h2).1 (R.fr k o u h1 h2).2,R.rs,R.gv⟩
 ·refine (R.ts j v hj).frame F (λl' Y h e1 e2=>⟨key (.slot j 0) ?_ l' Y h e1 e2,rfl⟩);have:j<Z.t.length:=(Wam.1 hj).1;intro e; cases e; omega
 ·refine Po λhne=>?_;obtain ⟨e0,arr,T',e1,e2,e3⟩:=R.live hb hne;refine ⟨?_,arr,T',e1,e2,λj c hc=>?_⟩
  ·rw [dC]
   ·exact e0
   ·intro e; rw [e,hβ] at e0; cases e0
  obtain ⟨u,g1,g2,g3,g4⟩:=e3 j c hc;exact ⟨u,g1,g2,λhp=>(g3 hp).mono F.st,g4.frame F (λl' Y h e1 e2=>⟨key (.cell id j) (by intro e; cases e) l' Y h e1 e2,rfl⟩)⟩
 ·obtain ⟨e0,arr,T',fr,e1,e2,e3⟩:=R.fs id cs hb;refine ⟨λo ho=>?_,arr,T',fr,e1,e2,λj c hc=>?_⟩
  ·by_cases hk:μ id=Y
   ·unfold wr at ho;rw [hk,d7] at ho;rcases ho with ho | ho
    ·exact e0 o (.inl (by rw [hk]; exact ho))
    ·have ho:h'<=o:=ho;exact e0 o (.inr (by grind))
   ·unfold wr at ho;rw [dC _ _ hk] at ho;exact e0 o ho
  ·obtain ⟨u,g1,g2,g3⟩:=e3 j c hc;exact ⟨u,g1,g2,g3.mono F.st⟩
 ·obtain ⟨e0,arr,clock,e1,e2⟩:=R.ms id es hb;refine ⟨?_,arr,clock,e1,e2.mono F.st⟩;rw [dC]
  ·exact e0
  ·intro e; rw [e,hβ] at e0; cases e0
 ·by_cases hkb:k=Y
  ·subst hkb; exact R.ow k (by rw [hβ]; simp)
  ·rw [dC _ _ hkb] at hk; exact R.ow k hk
theorem Rel.adopt(R:Rel aa we ωe U O Z a w ω μ){j0:Nat}(hT:Z.t.length<=T)(hβ:ω Y=.gs (.slot T j0) 0)(hid:Z.b[id]?=some .gone)(p:Bool)(cs:List V)(arr:Array Value)(Ty:TypeId)
  (hb:w.heap[Y]?=some (.cells arr Ty (0,0))) (hl:cs.length<=arr.size) (hc:∀ (j:Nat) (c:V),cs[j]?=some c->∃ u,arr[j]?=some u/\u.oneCell'=true/\RepP aa w (wr U ω) c u) :
  Fr (env U Z w ω μ) (env U (Z.ab id (.live p cs)) w (upd ω Y (.ax id)) (upd μ id Y))/\Rel aa we ωe U O (Z.ab id (.live p cs)) a w (upd ω Y (.ax id)) (upd μ id Y):=by
 have hlt:id<Z.b.length:=(Wam.1 hid).1;have hw:wr U (upd ω Y (.ax id))=wr U ω:=by
  grind [dC,d7,wr]
 have F:Fr (env U Z w ω μ) (env U (Z.ab id (.live p cs)) w (upd ω Y (.ax id)) (upd μ id Y)):=by
  refine ⟨λk o u h1 h2=>⟨?_,h2⟩,λid' L hL=>?_⟩
  ·show ¬ wr U (upd ω Y (.ax id)) k o;rw [hw]; exact h1
  ·have hL:dS Z.b id'=some L:=hL;have hne:id'≠id:=by grind [dS]
   refine ⟨?_,dC _ _ hne,Wah _⟩;show dS (Z.b.set id _) id'=some L;unfold dS at hL ⊢;rw [Waw (λe=>hne e.symm)];exact hL
 have key:∀ l:Loc,l.hd≠.slot T 0->∀ (l2:Loc) (β2 h2:Nat),l2.hd=l.hd->ω β2=.gs l2 h2->upd ω Y (.ax id) β2=.gs l2 h2:=by
  intro l hl l2 β2 h2 e1 e2;rw [dC]
  ·exact e2
  ·rintro rfl
   rw [hβ] at e2; cases e2;exact hl e1.symm
 refine ⟨F,R.df,R.tl,λj v hj=>?_,λid' p' cs' hb'=>?_,λid' cs' hb'=>?_,λid' es' hb'=>?_,R.kp,λk hk=>?_,R.ul,λk o u h1 h2=>F.st k o u (R.fr k o u h1 h2).1 (R.fr k o u h1 h2).2,R.rs,R.gv⟩
 ·refine (R.ts j v hj).frame F (λl' Y h e1 e2=>⟨key (.slot j 0) ?_ l' Y h e1 e2,rfl⟩);have:j<Z.t.length:=(Wam.1 hj).1;intro e; cases e; omega
 ·by_cases hne:id'=id
  ·subst hne;simp only [St.ab] at hb';rw [Wax hlt] at hb';cases hb';refine .inr ⟨by rw [d7,d7],arr,Ty,by rw [d7]; exact hb,hl,λj c hj=>?_⟩;obtain ⟨u,g1,g2,g3⟩:=hc j c hj;exact ⟨u,g1,g2,λ_=>g3.mono F.st,.pure (g3.mono F.st)⟩
  ·simp only [St.ab] at hb';rw [Waw (λe=>hne e.symm)] at hb';refine Po λhne'=>?_;obtain ⟨e0,arr',T',e1,e2,e3⟩:=R.live hb' hne';rw [dC _ _ hne];refine ⟨?_,arr',T',e1,e2,λj c hj=>?_⟩
   ·rw [dC]
    ·exact e0
    ·intro e; rw [e,hβ] at e0; cases e0
   ·obtain ⟨u,g1,g2,g3,g4⟩:=e3 j c hj;exact ⟨u,g1,g2,λhp=>(g3 hp).mono F.st,g4.frame F (λl' Y h e1 e2=>⟨key (.cell id' j) (by intro e; cases e) l' Y h e1 e2,rfl⟩)⟩
 ·by_cases hne:id'=id
  ·subst hne;simp only [St.ab] at hb';rw [Wax hlt] at hb';cases hb'
  ·simp only [St.ab] at hb';rw [Waw (λe=>hne e.symm)] at hb';obtain ⟨e0,arr',T',fr',e1,e2,e3⟩:=R.fs id' cs' hb';rw [dC _ _ hne];refine ⟨by rw [hw]; exact e0,arr',T',fr',e1,e2,λj c hj=>?_⟩;obtain ⟨u,g1,g2,g3⟩:=e3 j c hj;exact ⟨u,g1,g2,g3.mono F.st⟩
 ·by_cases hne:id'=id
  ·subst hne;simp only [St.ab] at hb';rw [Wax hlt] at hb';cases hb'
  ·simp only [St.ab] at hb';rw [Waw (λe=>hne e.symm)] at hb';obtain ⟨e0,arr',clock',e1,e2⟩:=R.ms id' es' hb';rw [dC _ _ hne];refine ⟨?_,arr',clock',e1,e2.mono F.st⟩;rw [dC]
   ·exact e0
   ·intro e; rw [e,hβ] at e0; cases e0
 ·by_cases hkb:k=Y
  ·subst hkb; exact R.ow k (by rw [hβ]; simp)
  ·rw [dC _ _ hkb] at hk; exact R.ow k hk
theorem Rel.empty(R:Rel aa we ωe U O Z a w ω μ)(hid:Z.b[id]?=some .gone)(p:Bool) :
  Fr (env U Z w ω μ) (env U (Z.ab id (.live p [])) w ω μ)/\Rel aa we ωe U O (Z.ab id (.live p [])) a w ω μ:=by
 have hlt:id<Z.b.length:=(Wam.1 hid).1;have F:Fr (env U Z w ω μ) (env U (Z.ab id (.live p [])) w ω μ):=by
  refine ⟨λk o u h1 h2=>⟨h1,h2⟩,λid' L hL=>⟨?_,rfl,Wah _⟩⟩;have hL:dS Z.b id'=some L:=hL;have hne:id'≠id:=by grind [dS]
  show dS (Z.b.set id _) id'=some L
  grind [dS]
 refine ⟨F,R.step F rfl (λt j Y h _ e=>⟨e,rfl⟩) (λid' p' cs' h' hne'=>?_) (λid' cs' h'=>?_) (λid' es' h'=>?_) (Kept.refl No w) (λk _ h=>AH h) R.ow (λk=>Wah _)⟩
 ·simp [St.ab] at h';by_cases hne:id'=id
  ·subst hne; rw [Wax hlt] at h'; cases h'; exact absurd rfl hne'
  ·rw [Waw (λe=>hne e.symm)] at h';exact .inl ⟨h',(R.live h' hne').1,rfl,λj Y h e=>⟨e,rfl⟩⟩
 ·simp only [St.ab] at h';by_cases hne:id'=id
  ·subst hne; rw [Wax hlt] at h'; cases h'
  ·rw [Waw (λe=>hne e.symm)] at h';exact .inl ⟨h',(R.fs id' cs' h').1,rfl⟩
 ·simp only [St.ab] at h';by_cases hne:id'=id
  ·subst hne; rw [Wax hlt] at h'; cases h'
  ·rw [Waw (λe=>hne e.symm)] at h';exact .inl ⟨h',(R.ms id' es' h').1,rfl⟩
theorem NO{sz c:Nat}{es:Ls}(hsz:∀ e∈es,e.length=sz)(h0:es.flatten.length=0)(h:es=[]->sz=0∨c=0):sz=0∨c=0:=by
 rw [gY hsz] at h0;rcases Nat.mul_eq_zero.1 h0 with q | q
 ·grind
 ·exact .inl q
theorem o8{nb:Nat}{dst:Option Nat}{x:B}{f:Nat->V}{σ':St}(h:Z.ao nb dst x f=some σ'):∃ d,dst=some d/\Z.b[nb+d]?=some .gone/\σ'=(Z.ab (nb+d) x).put dst (f (nb+d)):=by
 unfold St.ao at h
 grind
theorem om{b:List B}(hid:id<b.length)(p:Bool)(cs:List V):dS (b.set id (.live p cs)) id=some cs.length:=by
 grind [dS]
theorem jX{k:Nat}{arr:Array Value}{T:TypeId}{fr:Nat × Nat}(h:w.heap[k]?=some (.cells arr T fr)):eR w k=arr.size:=by simp [eR,h]
theorem yG{nb d k:Nat}(hk:k<nb):upd μ (nb+d) Y k=μ k:=dC _ _ (by omega)
theorem Rel.au(R:Rel aa we ωe U O Z a w ω μ){T:Nat}(hT:Z.t.length<=T){v:V}{u:Value}(hr:Rep aa (env U Z w ω μ) (.slot T 0) v u){nb:Nat}{dst:Option Nat}{ah:Bool}{σ':St}(hp:Z.au nb dst ah v=some σ') :
  ∃ ω' μ',Rel aa we ωe U O σ' (a.put dst u) w ω' μ'/\∀ k,k<nb->μ' k=μ k:=by
 have plain:σ'=Z.put dst v->∃ ω' μ',Rel aa we ωe U O σ' (a.put dst u) w ω' μ'/\∀ k,k<nb->μ' k=μ k:=by
  intro e;subst e;cases dst with
  | none=>exact ⟨ω,μ,R,λ_ _=>rfl⟩
  | some d=>
   refine ⟨sW T d ω,μ,(R.renSlot hT d).put (some d) (λi hi=>?_),λ_ _=>rfl⟩;cases hi;have:=hr.renSlot (T:=T) (d:=d);simpa [Loc.rn] using this
 cases v with
 | gs sz es=>
  simp only [St.au] at hp;split at hp
  ·cases hp
  ·cases hp; exact plain rfl
 | fr sz es=>
  simp only [St.au,St.aq] at hp;split at hp
  ·rename_i hpin;obtain ⟨d,rfl,hg,rfl⟩:=o8 hp;have hlt:nb+d<Z.b.length:=(Wam.1 hg).1;cases hr with
   | pure h=>cases h
   | aU _ A=>
    obtain ⟨F,R'⟩:=R.empty hg true;exact ⟨_,_,R'.put (some d) (λi hi=>.own (nb+d) 0 0 sz 0 0 A (om hlt _ _) (by omega) ⟨by omega,λ_=>.inr rfl⟩ (.inr ⟨rfl,rfl⟩)),λ_ _=>rfl⟩
   | fr _ _ Y c arr Ty f hω hb hc hn hsz hcell h1 h=>
    have hfl:=gY hsz;have hle:es.length*sz<=c*sz:=WaA sz hn.1;obtain ⟨F,R'⟩:=R.adopt hT (Y:=Y) hω hg true es.flatten arr Ty hb (by omega) (λj cc hj=>⟨f j,hcell j cc hj,h1 j cc hj,h j cc hj⟩);refine ⟨_,_,R'.put (some d) (λi hi=>?_),λk hk=>yG hk⟩;refine .own (nb+d) 0 es.length sz c es.flatten.length _ (om hlt _ _) (by omega) ⟨hn.1,λh0=>NO hsz h0 hn.2⟩ (.inl ⟨by show some (Addr.mk Y 0 none)=some ⟨upd μ (nb+d) Y (nb+d),0,none⟩; rw [d7],?_⟩);show 0+c*sz<=eR w (upd μ (nb+d) Y (nb+d));have hb':w.heap[Y]?=some (.cells arr Ty (0,0)):=hb;rw [d7,jX hb']; omega
  ·cases hp;cases hr with
   | pure h=>cases h
   | aU _ A=>
    cases dst with
    | none=>exact ⟨ω,μ,R,λ_ _=>rfl⟩
    | some d=>exact ⟨ω,μ,R.put (some d) (λi hi=>.pure (.nil _ _)),λ_ _=>rfl⟩
   | fr _ _ Y c arr Ty f hω hb hc hn hsz hcell h1 h=>
    cases dst with
    | none=>exact ⟨ω,μ,R,λ_ _=>rfl⟩
    | some d=>
     obtain ⟨F,R'⟩:=R.reown hT (Y:=Y) hω (.slot d 0) (es.length*sz) (WaK _);refine ⟨_,_,R'.put (some d) (λi hi=>?_),λ_ _=>rfl⟩;cases hi;exact .gs sz es Y c arr Ty f (d7 _ _ _) hb hc hn.1 hsz hcell h1 (λi v hv=>(h i v hv).mono F.st)
 | bx p cs=>
  simp only [St.au] at hp;obtain ⟨d,rfl,hg,rfl⟩:=o8 hp;have hlt:nb+d<Z.b.length:=(Wam.1 hg).1;cases hr with
  | pure h=>cases h
  | bx _ _ Y arr Ty f hω hb hn hcell h1 h=>
   obtain ⟨F,R'⟩:=R.adopt hT (Y:=Y) hω hg p cs arr Ty hb hn (λj cc hj=>⟨f j,hcell j cc hj,h1 j cc hj,h j cc hj⟩);refine ⟨_,_,R'.put (some d) (λi hi=>?_),λk hk=>yG hk⟩;have:=Rep.ptr (aa:=aa) (E:=env U (Z.ab (nb+d) (.live p cs)) w (upd ω Y (.ax (nb+d))) (upd μ (nb+d) Y)) (l:=.slot i 0) (nb+d) 0 cs.length (om hlt _ _);simpa [env,d7] using this
 | _=>cases hp; exact plain rfl
theorem Rel.sameHeap(R:Rel aa we ωe U O Z a w ω μ){w':World}(hh:w'.heap=w.heap)(h1:w'.os=w.os)(h2:w'.tape=w.tape)(h3:w'.output=w.output):Fr (env U Z w ω μ) (env U Z w' ω μ)/\Rel aa we ωe U O Z a w' ω μ:=by
 have hc:∀ ad,w'.cell? ad=w.cell? ad:=λad=>by unfold World.cell?; rw [hh]
 have hrs:∀ k,eR w' k=eR w k:=λk=>by unfold eR; rw [hh]
 have F:Fr (env U Z w ω μ) (env U Z w' ω μ):=⟨λk o u g1 g2=>⟨g1,(hc _).trans g2⟩,λid L hL=>⟨hL,rfl,by show eR w (μ id)<=eR w' (μ id); rw [hrs]; exact Wah _⟩⟩;refine ⟨F,R.step F rfl (λt j Y h _ e=>⟨e,by rw [hh]⟩) (λid p cs h hne=>.inl ⟨h,(R.live h hne).1,by rw [hh],λj Y h e=>⟨e,by rw [hh]⟩⟩) (λid cs h=>.inl ⟨h,(R.fs id cs h).1,by rw [hh]⟩) (λid es h=>.inl ⟨h,(R.ms id es h).1,by rw [hh]⟩) (O':=No) ⟨h1,h2,h3,by rw [hh]; exact Wah _,λk _ _=>by rw [hh]⟩ (λk _ h=>AH h) (λk hk=>by rw [hh]; exact R.ow k hk) (λk=>by rw [hrs]; exact Wah _)⟩
theorem Rel.drew(R:Rel aa we ωe U O Z a w ω μ):Fr (env U Z w ω μ) (env U Z w.drew ω μ)/\Rel aa we ωe U O Z a w.drew ω μ:=R.sameHeap rfl rfl rfl rfl
end
end Go.Proofs.YtipklgbboecciaaGreat
