/-
  The texts of this proof, joined: abstract values, the library, the functions of the program and what they compute (part 2). No condition.
-/
import Derived.Lib.AppendStr
import Derived.Laws.OwnMore
import Derived.Still
import Derived.OwnWalk
import Derived.Test.YtmaekcmknibmeaaGreatDoorK1
namespace Go.Proofs.YtmaekcmknibmeaaGreatDoor
open Go.RowKit
namespace Ab
section
variable {P : Program} {te : List (TypeId × TyI)} {cx : Cx} {tm : Tm} {ob : Obs} {nx : Nat} {ρ : Nat → Option Value} {a : Act} {w : World} {ops : Array Oper} {rest : List Oper} {o : Oper} {Q : Exit → Act → World → Prop}
theorem wp_yld {v : A} {next : Act → World → Prop} (hs : StOk cx tm ob nx ρ a w) (hy : Yld P o a.eval (okOf cx ρ ob) ρ w v) {K : Tm → Prop} (hp : put cx.N o.dst v tm K)
    (hn : ∀ tm' a' w',K tm' → StOk cx tm' ob nx ρ a' w' → next a' w') : o.wp P a w next Q:=by
  obtain ⟨u,w',h1,h2,h3⟩:=hy;unfold Oper.wp;rw [h1];have hs':=hs.below h2;obtain ⟨tm',h4,h5⟩:=hs'.put hp (vG hs h2 h3);exact hn tm' _ _ h4 h5
theorem uN {lk : Operand → A} {ok : Oks} : ∀ {xs : List Operand},(∀ x ∈ xs,(lk x).rep ok ρ w (a.eval x)) → yX ok ρ w (mapL lk xs) (xs.map a.eval)
  | [],_=>rfl
  | x :: xs,h=>⟨a.eval x,_,rfl,h x (by simp),uN fun y hy=>h y (by simp [hy])⟩
theorem zX {ok : Oks} : ∀ {xs ys : List A} {us vs : List Value},yX ok ρ w xs us → yX ok ρ w ys vs → yX ok ρ w (appA xs ys) (us ++ vs)
  | [],_,_,_,h,k=>by rw [show _ = _ from h];exact k
  | x :: xs,_,_,_,h,k=>by
    obtain ⟨v,r,e,h1,h2⟩:=h;exact ⟨v,r ++ _,by rw [e];rfl,h1,zX h2 k⟩
theorem wL {ok : Oks} {x : A} {u : Value} {g : FuncId} {caps : List A} (ht : tgt x = some (g,caps)) (hx : x.rep ok ρ w u) : ∃ cs : List Value,u = .func (.func g) #[] cs.toArray ∧ yX ok ρ w caps cs:=by
  unfold tgt at ht;split at ht
  · cases ht;exact ⟨[],hx,rfl⟩
  · cases ht;obtain ⟨z,h1,h2⟩:=hx;exact ⟨[z],h1,z,[],rfl,h2,rfl⟩
  · cases ht;obtain ⟨z,y,h1,h2,h3⟩:=hx;exact ⟨[z,y],h1,z,[y],rfl,h2,y,[],rfl,h3,rfl⟩
  · cases ht;obtain ⟨z,y,q,h1,h2,h3,h4⟩:=hx;exact ⟨[z,y,q],h1,z,[y,q],rfl,h2,y,[q],rfl,h3,q,[],rfl,h4,rfl⟩
  · cases ht
theorem uS {f : Operand} {args : Array Operand} {ts : Array TypeId} {g : FuncId} {cs : List Value} (hop : o.op = .call { callee:=.value f,args:=args,argTypes:=ts }) (hf : a.eval f = .func (.func g) #[] cs.toArray) (hfn : FnOk P g) :
    (execOp a.eval o).run P w = .ok (.enter g ((args.toList.map a.eval ++ cs).toArray)) w:=by
  obtain ⟨fn,hfn,hb,hn⟩:=hfn;have e1 : (args.map a.eval) = (args.toList.map a.eval).toArray:=by apply Array.toList_inj.1;simp
  have hb' : fn.body.isNone = false:=by cases h : fn.body <;> simp [h] at hb ⊢
  unfold execOp;simp only [hop,resolve,hf,Deferred.ofValue,Sem.run_bind,Sem.run_pure,Result.andThen_ok,invoke,callFunc,run_program,hfn,hn,hb',Bool.false_eq_true,if_false,e1]
  congr 2
  simp
theorem jS : Names yI ρ:=fun _ _ h=>by cases h
theorem dQ {f : Operand} {args : Array Operand} {ts : Array TypeId} {g : FuncId} {caps : List A} {r : A} {next : Act → World → Prop} {lk : Operand → A} (hs : StOk cx tm ob nx ρ a w) (hop : o.op = .call { callee:=.value f,args:=args,argTypes:=ts })
    (hlk : ∀ x ∈ f :: args.toList,(lk x).rep (okOf cx ρ ob) ρ w (a.eval x)) (ht : tgt (lk f) = some (g,caps)) (hcl : kH (zU te ob [] (appA (mapL lk args.toList) caps)) = true) (hc : qX P g (zU te ob [] (appA (mapL lk args.toList) caps)) r) (hno : kH (appA (mapL lk args.toList) caps) = true ∨ r.no1 = true)
    (hp : ∀ u w',StOk cx tm ob nx ρ a w' → r.rep (okOf cx ρ ob) ρ w' u → next (a.put o.dst u) w') : o.wp P a w next Q:=by
  obtain ⟨cs,hf,hcs⟩:=wL ht (hlk f (by simp));obtain ⟨hfn,hcall⟩:=hc;unfold Oper.wp;rw [uS hop hf hfn];have hargs:=zX (uN (w:=w) (lk:=lk) (xs:=args.toList) (fun x hx=>hlk x (by simp [hx]))) hcs;rcases hno with hno|hno
  · rw [aQ hno] at hcall;refine (hcall (okOf cx ρ ob) w _ hs.globAt (kS hno hargs)).mono ?_
    rintro e w' ⟨u,rfl,hb,hr⟩
    have hs':=hs.below hb;exact hp u w' hs' (vG hs hb (A.names jS hr))
  have hbk : Back (grow (vM (okOf cx ρ ob) (Bor ob ρ [])) w) (grow (okOf cx ρ ob) w):=fun k b hk h=>h.imp (fun h=>h.elim id fun h=>absurd h.1 hk) id
  refine (hcall (vM (okOf cx ρ ob) (Bor ob ρ [])) w _ ⟨fun g hg=>.inl (hs.globAt.1 g hg),hs.globAt.2⟩ (kS hcl (cQ hs.obs hargs))).mono ?_
  rintro e w' ⟨u,rfl,hb,hr⟩
  have hr:=A.back hbk hno hr;have hs':=hs.below hb;exact hp u w' hs' (vG hs hb (A.names jS hr))
theorem jU : ∀ {ids : List Nat} {tm : Tm} {ob : Obs} {K : Tm → Obs → Prop},frz te cx.nx0 ids tm ob K → StOk cx tm ob nx ρ a w → ∃ tm' ob',K tm' ob' ∧ StOk cx tm' ob' nx ρ a w
  | [],tm,ob,K,h,hs=>⟨tm,ob,h,hs⟩
  | i :: r,tm,ob,K,h,hs=>by
    unfold frz at h;split at h
    · rename_i hg;exact jU h (hs.freeze hg)
    · rename_i hg;split at h
      · rename_i d hd;exact jU h (hs.freezeBox hg hd)
      · exact h.elim
    · exact h.elim
    · exact jU h hs
theorem repL_new (hs : StOk cx tm ob nx ρ a w) {v : Value} {o : Ob} {w' : World} (hbw : Below w.heap.size w w') (hb : ∀ b,blk (some v) = some b → w.heap.size ≤ b) {cs : List C} {vs : List Value} (h : repL (okOf cx ρ ob) ρ w cs vs) :
    repL (okOf cx (upd ρ nx v) ((nx,o) :: ob)) (upd ρ nx v) w' cs vs:=(h.names (upd_names hs v)).kept (okOf_new hs hb hbw)
theorem box_sound {t : TypeId} {i : TyI} (_hi : TyOk P t i) {v : Value} {cs : List C} (hs : StOk cx tm ob nx ρ a w) (hv : repL (okOf cx ρ ob) ρ w cs v.cells.toList) :
    ∃ ρ' w',(do pure (.pointer (some (← newVar t v))) : Sem Value).run P w = .ok (.pointer (some ⟨w.heap.size,0,none⟩)) w' ∧ StOk cx tm ((nx,.box t cs) :: ob) (nx + 1) ρ' a w' ∧ (C.own nx 0).rep (okOf cx ρ' ((nx,.box t cs) :: ob)) ρ' w' (.pointer (some ⟨w.heap.size,0,none⟩)):=by
  refine ⟨upd ρ nx (.pointer (some ⟨w.heap.size,0,none⟩)),w.alloc (.cells v.cells t),rfl,hs.new (kU w _) (fun b e=>by cases e;exact ⟨Nat.le_refl _,by simp⟩) ?_,w.heap.size,xF,rfl⟩;refine ⟨w.heap.size,v.cells.toList,xF,by rw [gH],repL_new hs (kU w _) (fun b e=>by cases e;exact Nat.le_refl _) hv⟩
theorem litL_eq : ∀ vs : List Value,litL vs = vs.map C.lit
  | []=>rfl
  | _ :: r=>by rw [litL,litL_eq r];rfl
theorem jL {g : Nat} {cs : Array Value} : Grew w (w.setRow g cs) (some g) :=
  ⟨rfl,rfl,rfl,by simp,fun k _ hk=>setRow_other w g k _ (fun e=>hk (by rw [e]))⟩
theorem wX {ok : Oks} : ∀ {cs : List C} {vs : List Value},vW cs = true → repL ok ρ w cs vs → ∀ v ∈ vs,v.oneCell' = true
  | [],_,_,h,v,hv=>by rw [show _ = _ from h] at hv;cases hv
  | c :: cs,_,hc,h,v,hv=>by
    unfold vW at hc;split at hc
    · rename_i h1;obtain ⟨u,r,rfl,h2,h3⟩:=h;rcases List.mem_cons.1 hv with hv|hv
      · subst hv;exact C.sure_one h1 h2
      · exact wX hc h3 v hv
    · cases hc
theorem zT {x : Operand} {ns : List C} (hs : StOk cx tm ob nx ρ a w) (h : wH (look tm x) = some ns) (hsure : vW ns = true) : repL (okOf cx ρ ob) ρ w ns (a.eval x).cells.toList:=by
  refine dP h (hs.look x) fun c hc=>?_
  rw [hc] at h;cases h;have hr:=hs.look x;rw [hc] at hr;unfold vW at hsure;split at hsure
  · rename_i h1;exact C.sure_one h1 hr
  · cases hsure
theorem store_own {t : TypeId} {i : TyI} (hi : TyOk P t i) {v : Value} {id off b : Nat} {T : TypeId} {cs ns : List C} (hs : StOk cx tm ob nx ρ a w) (hρ : ρ id = some (.pointer (some ⟨b,0,none⟩))) (hg : getO ob id = some (.box T cs))
    (hv : repL (okOf cx ρ ob) ρ w ns v.cells.toList) (hn : vW ns = true) (hsz : ns.length = i.size) (hle : off + ns.length ≤ cs.length) :
    ∃ w',(Instr.storeAt t (.pointer (some ⟨b,off,none⟩)) v).run P w = .ok () w' ∧ StOk cx tm (setO id (.box T (setC off ns cs)) ob) nx ρ a w':=by
  obtain ⟨b',vs,h1,h2,h3⟩:=hs.obs _ (yF hg);rw [hρ] at h1;simp only [Option.some.injEq,Value.pointer.injEq,Addr.mk.injEq,and_true] at h1;subst h1;have hl:=repL.len hv;have hl3:=repL.len h3;have hst:=run_storeCells_at P b off T v.cells.toList 0 vs.toArray w h2 (by simp only [Nat.add_zero,List.size_toArray];omega) (wX hn hv);simp only [Nat.add_zero] at hst;refine ⟨w.setRow b (vs.take off ++ v.cells.toList ++ vs.drop (off + v.cells.toList.length)).toArray,?_,?_⟩
  · simp only [Instr.storeAt,storeVar,Instr.sureAddr,Sem.run_bind,Sem.run_pure,Result.andThen_ok,hi.sizeOf];rw [if_neg (by simp only [Array.length_toList] at hl;omega)];exact hst
  · refine hs.write hg (by rw [hρ];exact jL) (by simp [World.setRow]) ?_;refine ⟨b,vs.take off ++ v.cells.toList ++ vs.drop (off + v.cells.toList.length),hρ,?_,?_⟩
    · rw [setRow_heap w b _ _ T _ h2]
    · have hset:=bH off hv h3;rw [setV_at off _ _ (by omega)] at hset;have hk : xI (okOf cx ρ ob) (okOf cx ρ ob) w (w.setRow b (vs.take off ++ v.cells.toList ++ vs.drop (off + v.cells.toList.length)).toArray) :=
        fun _ k hk hlt=>⟨hk,jL.block k hlt (fun e=>hk.2 _ (yF hg) (by rw [hρ];exact e.symm))⟩
      exact hset.kept hk
theorem xO {n : Nat} : ∀ (css : List (List Value)),(∀ c ∈ css,c.length = n) → css.flatten.length = css.length * n
  | [],_=>by simp
  | c :: r,h=>by
    rw [List.flatten_cons,List.length_append,h c (by simp),xO r (fun c hc=>h c (by simp [hc])),List.length_cons,Nat.add_mul];omega
theorem wB {n : Nat} (us : List Value) (hu : us.length = n) : ∀ (css : List (List Value)) (k : Nat),(∀ c ∈ css,c.length = n) → k < css.length → (css.set k us).flatten = css.flatten.take (k * n) ++ us ++ css.flatten.drop (k * n + n)
  | [],_,_,hk=>absurd hk (by simp)
  | c :: r,0,h,_=>by
    have hc : c.length = n:=h c (by simp);simp [← hc]
  | c :: r,k + 1,h,hk=>by
    have hc : c.length = n:=h c (by simp);have ih:=wB us hu r k (fun c hc=>h c (by simp [hc])) (by simpa using hk);have e1 : (k + 1) * n = c.length + k * n:=by rw [Nat.add_mul,hc];omega
    rw [List.set_cons_succ,List.flatten_cons,List.flatten_cons,ih,e1,Nat.add_assoc,List.take_length_add_append,List.drop_length_add_append];simp
theorem take_mid {α : Type} (l us : List α) (a b n : Nat) (hu : us.length = b) (h : a + b ≤ n) (hn : n ≤ l.length) : (l.take a ++ us ++ l.drop (a + b)).take n = (l.take n).take a ++ us ++ (l.take n).drop (a + b):=by
  have hl : (l.take a ++ us).length = a + b:=by rw [List.length_append,List.length_take,hu];omega
  have e : n = (l.take a ++ us).length + (n - (a + b)):=by omega
  conv=>lhs;rw [e]
  rw [List.take_length_add_append,List.take_take,Nat.min_eq_left (by omega),List.drop_take]
theorem uP {α : Type} {R : Rd α} {ok : Oks} {xs : List α} {css : List (List Value)} (h1 : css.length = xs.length) (h2 : ∀ i (h : i < xs.length),R.is ok w (css.getD i []) xs[i]) : ∀ c ∈ css,c.length = R.n:=by
  intro c hc;obtain ⟨j,hj,rfl⟩:=List.mem_iff_getElem.1 hc;have:=R.len (h2 j (by omega))
  simpa [List.getD,hj] using this
theorem store_vel {t : TypeId} {i : TyI} (hi : TyOk P t i) {v : Value} {id k b m cap : Nat} {α : Type} {E : TypeId} {R : Rd α} {xs : List α} {y : α} {ns : List C} (hs : StOk cx tm ob nx ρ a w) (hρ : ρ id = some (.slice (some ⟨b,0,none⟩) m cap)) (hg : getO ob id = some (.vec E R xs))
    (hv : repL (okOf cx ρ ob) ρ w ns v.cells.toList) (hn : vW ns = true) (hsz : ns.length = i.size) (hy : ofL R ns = some (y,[])) (hk : k < xs.length) :
    ∃ w',(Instr.storeAt t (.pointer (some ⟨b,k * R.n,none⟩)) v).run P w = .ok () w' ∧ StOk cx tm (setO id (.vec E R (xs.set k y)) ob) nx ρ a w':=by
  obtain ⟨v',hv',css,h1,h2,h3⟩ : ∃ v,ρ id = some v ∧ uF (okOf cx ρ ob) w v E R xs:=hs.obs _ (yF hg);rw [hρ] at hv';obtain rfl:=Option.some.inj hv';obtain ⟨us,r,e1,hus,hr⟩:=jZ R hy hv;have hr0 : r = []:=hr;rw [hr0,List.append_nil] at e1;have hul:=R.len hus;have hfl:=uP h1 h2;have hfs:=xO css hfl;rcases h3.2 with ⟨h0,_⟩|⟨g,cap',cur,hsl,hbg,hgh,hnc,hcm,hcs,htake⟩
  · cases h0
  · injection hsl with q1 q2 q3
    injection q1 with q1
    injection q1 with q1 _ _
    subst q1 q2 q3;have hkn : k * R.n + R.n ≤ xs.length * R.n:=by
      have : (k + 1) * R.n ≤ xs.length * R.n:=Nat.mul_le_mul_right _ (by omega);rw [Nat.add_mul,Nat.one_mul] at this;exact this
    have hcap : xs.length * R.n ≤ cap * R.n:=Nat.mul_le_mul_right _ hnc;have hst:=run_storeCells_at P b (k * R.n) E v.cells.toList 0 cur w hgh (by rw [e1,hul];omega) (wX hn hv);simp only [Nat.add_zero] at hst;refine ⟨w.setRow b (cur.toList.take (k * R.n) ++ v.cells.toList ++ cur.toList.drop (k * R.n + v.cells.toList.length)).toArray,?_,hs.write hg (by rw [hρ];exact jL) (by simp [World.setRow]) ⟨_,hρ,css.set k us,by simp [h1],?_,?_⟩⟩
    · simp only [Instr.storeAt,storeVar,Instr.sureAddr,Sem.run_bind,Sem.run_pure,Result.andThen_ok,hi.sizeOf];rw [if_neg (by have:=repL.len hv;simp only [Array.length_toList] at this;omega)];exact hst
    · intro j hj;have hj' : j < xs.length:=by simpa using hj
      have hkp : xI (okOf cx ρ ob) (okOf cx ρ ob) w (w.setRow b (cur.toList.take (k * R.n) ++ v.cells.toList ++ cur.toList.drop (k * R.n + v.cells.toList.length)).toArray) :=
        fun _ q hq hlt=>⟨hq,jL.block q hlt (fun e=>hq.2 _ (yF hg) (by rw [hρ];exact e.symm))⟩
      by_cases e : j = k
      · subst e;have : (css.set j us).getD j [] = us:=by simp [List.getD,h1,hj']
        rw [this];simp only [List.getElem_set_self];exact R.kept hkp hus
      · have : (css.set k us).getD j [] = css.getD j []:=by simp [List.getD,Ne.symm e]
        rw [this,List.getElem_set_ne (Ne.symm e)];exact R.kept hkp (h2 j hj')
    · refine ⟨?_,.inr ⟨b,cap,_,by simp,hbg,setRow_heap w b _ _ E _ hgh,by simpa using hnc,hcm,?_,?_⟩⟩
      · rw [wB us hul css k hfl (by omega)];simp only [List.length_append,List.length_take,List.length_drop,hfs,h1,List.length_set,hul];omega
      · simp only [List.size_toArray,List.length_append,List.length_take,List.length_drop,Array.length_toList,e1,hul,hcs];omega
      · rw [wB us hul css k hfl (by omega),← htake];simp only [List.length_set,e1,hul];have h5 : cur.toList.length = cap * R.n:=by simpa using hcs
        exact take_mid _ _ _ _ _ hul hkn (by show xs.length * R.n ≤ cur.toList.length;omega)
theorem setV_mid (a o n : Nat) (ns l : List Value) (h1 : o + ns.length ≤ n) (h2 : a + n ≤ l.length) : l.take (a + o) ++ ns ++ l.drop (a + o + ns.length) = l.take a ++ setV o ns ((l.drop a).take n) ++ l.drop (a + n):=by
  rw [setV_at o ns _ (by simp;omega),List.take_add,List.take_take,Nat.min_eq_left (by omega)];have h3 : l.drop (a + o + ns.length) = ((l.drop a).take n).drop (o + ns.length) ++ l.drop (a + n):=by
    have e : (List.take n (List.drop a l) ++ List.drop n (List.drop a l)).drop (o + ns.length) = l.drop (a + o + ns.length):=by rw [List.take_append_drop,List.drop_drop,Nat.add_assoc]
    rw [← e,List.drop_append_of_le_length (by simp;omega),List.drop_drop]
  rw [h3];simp only [List.append_assoc]
theorem store_vof {t : TypeId} {i : TyI} (hi : TyOk P t i) {v : Value} {id k o b m cap : Nat} {α : Type} {E : TypeId} {R : Rd α} {xs : List α} {y : α} {ns : List C} (hs : StOk cx tm ob nx ρ a w) (hρ : ρ id = some (.slice (some ⟨b,0,none⟩) m cap)) (hg : getO ob id = some (.vec E R xs))
    (hv : repL (okOf cx ρ ob) ρ w ns v.cells.toList) (hn : vW ns = true) (hsz : ns.length = i.size) (hle : o + ns.length ≤ R.n) (hy : ofL R (setC o ns (toL R (xs.getD k R.dflt))) = some (y,[])) (hk : k < xs.length) :
    ∃ w',(Instr.storeAt t (.pointer (some ⟨b,k * R.n + o,none⟩)) v).run P w = .ok () w' ∧ StOk cx tm (setO id (.vec E R (xs.set k y)) ob) nx ρ a w':=by
  obtain ⟨v',hv',css,h1,h2,h3⟩ : ∃ v,ρ id = some v ∧ uF (okOf cx ρ ob) w v E R xs:=hs.obs _ (yF hg);rw [hρ] at hv';obtain rfl:=Option.some.inj hv';have hvl:=repL.len hv;have hgd : xs.getD k R.dflt = xs[k]:=by simp [List.getD,hk]
  have hrk:=h2 k hk;rw [← hgd] at hrk;obtain ⟨us,r,e1,hus,hr⟩:=jZ R hy (bH o hv (gN R hrk));have hr0 : r = []:=hr;rw [hr0,List.append_nil] at e1;have hul:=R.len hus;have hfl:=uP h1 h2;have hfs:=xO css hfl;rcases h3.2 with ⟨h0,_⟩|⟨g,cap',cur,hsl,hbg,hgh,hnc,hcm,hcs,htake⟩
  · cases h0
  · injection hsl with q1 q2 q3
    injection q1 with q1
    injection q1 with q1 _ _
    subst q1 q2 q3;have hkn : k * R.n + R.n ≤ xs.length * R.n:=by
      have : (k + 1) * R.n ≤ xs.length * R.n:=Nat.mul_le_mul_right _ (by omega);rw [Nat.add_mul,Nat.one_mul] at this;exact this
    have hcap : xs.length * R.n ≤ cap * R.n:=Nat.mul_le_mul_right _ hnc;have h5 : cur.toList.length = cap * R.n:=by simpa using hcs
    have hst:=run_storeCells_at P b (k * R.n + o) E v.cells.toList 0 cur w hgh (by omega) (wX hn hv);simp only [Nat.add_zero] at hst;have hseg : (cur.toList.drop (k * R.n)).take R.n = css.getD k []:=by
      apply List.ext_getElem?;intro j
      by_cases hj : j < R.n
      · rw [List.getElem?_take_of_lt hj,List.getElem?_drop,← uC css k j hfl (by omega) hj,← htake,List.getElem?_take_of_lt (by omega)]
      · rw [List.getElem?_eq_none (by simp;omega),List.getElem?_eq_none (by rw [R.len (h2 k hk)];omega)]
    rw [setV_mid (k * R.n) o R.n _ _ (by omega) (by omega),hseg,e1] at hst;refine ⟨w.setRow b (cur.toList.take (k * R.n) ++ us ++ cur.toList.drop (k * R.n + R.n)).toArray,?_,hs.write hg (by rw [hρ];exact jL) (by simp [World.setRow]) ⟨_,hρ,css.set k us,by simp [h1],?_,?_⟩⟩
    · simp only [Instr.storeAt,storeVar,Instr.sureAddr,Sem.run_bind,Sem.run_pure,Result.andThen_ok,hi.sizeOf];rw [if_neg (by simp only [Array.length_toList] at hvl;omega)];exact hst
    · intro j hj;have hj' : j < xs.length:=by simpa using hj
      have hkp : xI (okOf cx ρ ob) (okOf cx ρ ob) w (w.setRow b (cur.toList.take (k * R.n) ++ us ++ cur.toList.drop (k * R.n + R.n)).toArray) :=
        fun _ q hq hlt=>⟨hq,jL.block q hlt (fun e=>hq.2 _ (yF hg) (by rw [hρ];exact e.symm))⟩
      by_cases e : j = k
      · subst e;have : (css.set j us).getD j [] = us:=by simp [List.getD,h1,hj']
        rw [this];simp only [List.getElem_set_self];exact R.kept hkp hus
      · have : (css.set k us).getD j [] = css.getD j []:=by simp [List.getD,Ne.symm e]
        rw [this,List.getElem_set_ne (Ne.symm e)];exact R.kept hkp (h2 j hj')
    · refine ⟨?_,.inr ⟨b,cap,_,by simp,hbg,setRow_heap w b _ _ E _ hgh,by simpa using hnc,hcm,?_,?_⟩⟩
      · rw [wB us hul css k hfl (by omega)];simp only [List.length_append,List.length_take,List.length_drop,hfs,h1,List.length_set,hul];omega
      · simp only [List.size_toArray,List.length_append,List.length_take,List.length_drop,Array.length_toList,hul,hcs];omega
      · rw [wB us hul css k hfl (by omega),← htake];simp only [List.length_set];exact take_mid _ _ _ _ _ hul hkn (by show xs.length * R.n ≤ cur.toList.length;omega)
theorem vecOk_new {α : Type} {R : Rd α} {xs : List α} {css : List (List Value)} {e : TypeId} {ok ok' : Oks} {w' : World} (h1 : css.length = xs.length) (h2 : ∀ i (h : i < xs.length),R.is ok w (css.getD i []) xs[i]) (hk : xI ok ok' w w') (hm : xs.length ≤ maxLen)
    (hb : w'.heap[w.heap.size]? = some (.cells css.flatten.toArray e)) : uF ok' w' (.slice (some ⟨w.heap.size,0,none⟩) xs.length xs.length) e R xs:=by
  have hfs:=xO css (uP h1 h2);refine ⟨css,h1,fun i hi=>R.kept hk (h2 i hi),by rw [hfs,h1],.inr ⟨w.heap.size,xs.length,_,rfl,Nat.zero_le _,hb,Nat.le_refl _,hm,by simp [hfs,h1],?_⟩⟩;rw [List.take_of_length_le (by simp [hfs,h1])]
theorem gR {α : Type} {E : TypeId} {R : Rd α} {xs : List α} {v : Value} {w' : World} (hs : StOk cx tm ob nx ρ a w) (hbw : Below w.heap.size w w') (hb : ∀ b,blk (some v) = some b → w.heap.size ≤ b ∧ b < w'.heap.size) (hsl : ∃ a n c,v = .slice a n c)
    (hv : ∀ ok',xI (okOf cx ρ ob) ok' w w' → uF ok' w' v E R xs) : ∃ ρ',StOk cx tm ((nx,.vec E R xs) :: ob) (nx + 1) ρ' a w' ∧ (C.vec nx).rep (okOf cx ρ' ((nx,.vec E R xs) :: ob)) ρ' w' v:=by
  refine ⟨upd ρ nx v,hs.new hbw hb ⟨v,xF,hv _ (okOf_new hs (fun b e=>(hb b e).1) hbw)⟩,xF,hsl⟩
theorem run_app {t ty e : TypeId} {ei : TyI} (ht : P.underlying t = some (.slice e)) (he : TyOk P e ei) (hpos : 0 < ei.size) {v : Value} {n : Nat} {xs : List Value} (hown : w.ownsRow 0 e ei.size v n xs)
    {ad : Addr} {m c : Nat} {news : List Value} (hl : news.length = m * ei.size) (hnews : ∀ j u,news[j]? = some u → w.cell? (ad.add j) = some u) (h1 : ∀ u ∈ news,u.oneCell' = true) (_hm : 0 < m) (h63 : n + m ≤ maxLen) (hby : (n + m) * ei.bytes ≤ 140737488355328) :
    ∃ v' w',(Builtin.append_ #[t,t] ty #[v,.slice (some ad) m c]).run P w = .ok v' w' ∧ w'.ownsRow 0 e ei.size v' (n + m) (xs ++ news) ∧ Grew w w' (blk (some v)) ∧ (∀ b,blk (some v') = some b → blk (some v) = some b ∨ (w.heap.size ≤ b ∧ b < w'.heap.size)) ∧ ∃ a n c,v' = .slice a n c:=by
  obtain ⟨f,hf,hfs,hfb,hfz⟩:=he.info;have hzs : ei.zeroV.cells.size = ei.size:=by rw [he.zeroCells];simpa using he.zlen
  have low : ∀ {v' : Value} {w' : World},w'.ownsRow w.heap.size e ei.size v' (n + m) (xs ++ news) → w.grownBy w' none →
      w'.ownsRow 0 e ei.size v' (n + m) (xs ++ news) ∧ Grew w w' (blk (some v)) ∧ (∀ b,blk (some v') = some b → blk (some v) = some b ∨ (w.heap.size ≤ b ∧ b < w'.heap.size)) ∧ ∃ a n c,v' = .slice a n c:=by
    intro v' w' ho hg;refine ⟨⟨ho.1,?_⟩,⟨hg.os,hg.tape,hg.output,hg.size,fun k hk _=>hg.block k hk (by simp)⟩,?_,?_⟩
    · rcases ho.2 with h0|⟨g,cap,cur,r1,r2,r3⟩
      · exact .inl h0
      · exact .inr ⟨g,cap,cur,r1,Nat.zero_le _,r3⟩
    · intro b hb;rcases ho.2 with ⟨h0,_⟩|⟨g,cap,cur,r1,r2,r3,_⟩
      · rw [h0] at hb;cases hb
      · rw [r1] at hb;cases hb;exact .inr ⟨r2,(Array.getElem?_eq_some_iff.1 r3).1⟩
    · rcases ho.2 with ⟨h0,_⟩|⟨g,cap,cur,r1,_⟩
      · exact ⟨_,_,_,h0⟩
      · exact ⟨_,_,_,r1⟩
  rcases hown.2 with ⟨hv,h0⟩|⟨g,cap,cur,hv,hbg,hg,hnc,hcm,hcs,htake⟩
  · have hx : xs = []:=List.eq_nil_of_length_eq_zero (by rw [hown.1,h0];simp);subst hv h0 hx;obtain ⟨v',w',r1,r2,r3,_⟩:=run_append_own (P:=P) w w.heap.size t ty e f ei.zeroV ei.size ei.bytes ht hf hfz hfs hfb hzs hpos (.slice none 0 0) 0 [] (World.ownsRow_nil _ _ _ _) ad m c news hl hnews h1 h63 hby (Nat.le_refl _);exact ⟨v',w',r1,low r2 r3⟩
  · subst hv
    by_cases hroom : n + m ≤ cap
    · obtain ⟨w',r1,r2,r3⟩:=run_append_fits (P:=P) w 0 t ty e f ei.size ht hf hfs g n cap xs hown ad m c news hl hnews h1 hroom;exact ⟨_,w',r1,r2,⟨r3.os,r3.tape,r3.output,r3.size,r3.block⟩,fun b hb=>.inl hb,_,_,_,rfl⟩
    · obtain ⟨v',w',r1,r2,r3⟩:=run_append_arg_grows (P:=P) w t ty e f ei.zeroV ei.size ei.bytes ht hf hfz hfs hfb hzs hpos ⟨g,0,none⟩ n cap xs hown.1 (fun j u hj=>hown.cells rfl j u hj) ad m c news hl hnews (by omega) h63 hby;exact ⟨v',w',r1,low r2 r3⟩
theorem run_appF {t ty e : TypeId} {ei : TyI} (ht : P.underlying t = some (.slice e)) (he : TyOk P e ei) (hpos : 0 < ei.size) {ao : Option Addr} {n : Nat} {olds : List Value} (hlo : olds.length = n * ei.size)
    (ho : 0 < n → ∃ b,ao = some b ∧ ∀ j u,olds[j]? = some u → w.cell? (b.add j) = some u) {ad : Addr} {m c : Nat} {news : List Value} (hl : news.length = m * ei.size) (hnews : ∀ j u,news[j]? = some u → w.cell? (ad.add j) = some u) (h1 : ∀ u ∈ news,u.oneCell' = true) (hm : 0 < m) (h63 : n + m ≤ maxLen) (hby : (n + m) * ei.bytes ≤ 140737488355328) :
    ∃ v' w',(Builtin.append_ #[t,t] ty #[.slice ao n n,.slice (some ad) m c]).run P w = .ok v' w' ∧ w'.ownsRow 0 e ei.size v' (n + m) (olds ++ news) ∧ Below w.heap.size w w' ∧ (∀ b,blk (some v') = some b → w.heap.size ≤ b ∧ b < w'.heap.size) ∧ ∃ a n c,v' = .slice a n c:=by
  obtain ⟨f,hf,hfs,hfb,hfz⟩:=he.info;have hzs : ei.zeroV.cells.size = ei.size:=by rw [he.zeroCells];simpa using he.zlen
  have low : ∀ {v' : Value} {w' : World},w'.ownsRow w.heap.size e ei.size v' (n + m) (olds ++ news) → w.grownBy w' none →
      w'.ownsRow 0 e ei.size v' (n + m) (olds ++ news) ∧ Below w.heap.size w w' ∧ (∀ b,blk (some v') = some b → w.heap.size ≤ b ∧ b < w'.heap.size) ∧ ∃ a n c,v' = .slice a n c:=by
    intro v' w' ho hg;refine ⟨⟨ho.1,?_⟩,⟨hg.os,hg.tape,hg.output,hg.size,fun k hk=>hg.block k hk (by simp)⟩,?_,?_⟩
    · rcases ho.2 with h0|⟨g,cap,cur,r1,r2,r3⟩
      · exact .inl h0
      · exact .inr ⟨g,cap,cur,r1,Nat.zero_le _,r3⟩
    · intro b hb;rcases ho.2 with ⟨h0,_⟩|⟨g,cap,cur,r1,r2,r3,_⟩
      · rw [h0] at hb;cases hb
      · rw [r1] at hb;cases hb;exact ⟨r2,(Array.getElem?_eq_some_iff.1 r3).1⟩
    · rcases ho.2 with ⟨h0,_⟩|⟨g,cap,cur,r1,_⟩
      · exact ⟨_,_,_,h0⟩
      · exact ⟨_,_,_,r1⟩
  have hz : n = 0 → olds = []:=fun h=>List.eq_nil_of_length_eq_zero (by rw [hlo,h,Nat.zero_mul])
  cases ao with
  | none =>
    have hn0 : n = 0:=by
      rcases Nat.eq_zero_or_pos n with h|h
      · exact h
      · obtain ⟨b,e,_⟩:=ho h;cases e
    have hx:=hz hn0;subst hn0 hx;obtain ⟨v',w',r1,r2,r3,_⟩:=run_append_own (P:=P) w w.heap.size t ty e f ei.zeroV ei.size ei.bytes ht hf hfz hfs hfb hzs hpos (.slice none 0 0) 0 [] (World.ownsRow_nil _ _ _ _) ad m c news hl hnews h1 h63 hby (Nat.le_refl _);exact ⟨v',w',r1,low r2 r3⟩
  | some b =>
    have hcell : ∀ j u,olds[j]? = some u → w.cell? (b.add j) = some u:=by
      rcases Nat.eq_zero_or_pos n with h|h
      · rw [hz h];intro j u hj;simp at hj
      · obtain ⟨b',e,h3⟩:=ho h;cases e;exact h3
    obtain ⟨v',w',r1,r2,r3⟩:=run_append_arg_grows (P:=P) w t ty e f ei.zeroV ei.size ei.bytes ht hf hfz hfs hfb hzs hpos b n n olds hlo hcell ad m c news hl hnews (by omega) h63 hby;exact ⟨v',w',r1,low r2 r3⟩
theorem eJ {t ty e : TypeId} {ei : TyI} (ht : P.underlying t = some (.slice e)) (he : TyOk P e ei) (base ad : Option Addr) (n cap c : Nat) (hc : n ≤ cap) :
    (Builtin.append_ #[t,t] ty #[.slice base n cap,.slice ad 0 c]).run P w = .ok (.slice base n cap) w:=by
  obtain ⟨f,hf,hfs,hfb,hfz⟩:=he.info;cases ad <;> cases base <;> simp [Builtin.append_,run_underlying ht,Go.sizeOf,typeInfo,hf,Builtin.lenOf,hc,Builtin.firstCells,loadCells,loadCellsFrom,storeCells]
end
section
variable {P : Program} {te : List (TypeId × TyI)} {cx : Cx} {tm : Tm} {ob : Obs} {nx : Nat} {ρ : Nat → Option Value} {a : Act} {w : World} {ops : Array Oper} {rest : List Oper} {o : Oper} {Q : Exit → Act → World → Prop}
theorem slOk_src {q : Nat} {α : Type} {S : Rd α} {ok : Oks} {u : Value} {ys : List α} (h : SlOk S.n (fun cs x=>S.is ok w cs x) (okU ok w q) w u ys) :
    ∃ a cap,∃ css : List (List Value),u = .slice a ys.length cap ∧ ys.length ≤ maxLen ∧ css.length = ys.length ∧ (∀ i (h : i < ys.length),S.is ok w (css.getD i []) ys[i]) ∧ (0 < ys.length → ∃ ad,a = some ad ∧ ∀ j v,css.flatten[j]? = some v → w.cell? (ad.add j) = some v):=by
  obtain ⟨a,cap,hv,h1,h2,hc⟩:=h;have key : ∀ i (h : i < ys.length),∃ cs,S.is ok w cs ys[i] ∧ ∃ b off,a = some ⟨b,off,none⟩ ∧ xT w b (off + i * S.n) S.n cs:=by
    intro i hi;obtain ⟨b,off,cs,ha,_,_,hcell,hr⟩:=hc i hi;exact ⟨cs,hr,b,off,ha,hcell⟩
  let f : Nat → List Value:=fun i=>if h : i < ys.length then Classical.choose (key i h) else []
  have hf : ∀ i (h : i < ys.length),S.is ok w (f i) ys[i] ∧ ∃ b off,a = some ⟨b,off,none⟩ ∧ xT w b (off + i * S.n) S.n (f i):=by
    intro i hi;have:=Classical.choose_spec (key i hi);simp only [f,dif_pos hi];exact this
  have hget : ∀ i,i < ys.length → ((List.range ys.length).map f).getD i [] = f i:=by
    intro i hi;simp [List.getD,hi]
  refine ⟨a,cap,(List.range ys.length).map f,hv,Nat.le_trans h1 h2,by simp,fun i hi=>by rw [hget i hi];exact (hf i hi).1,fun hpos=>?_⟩;obtain ⟨_,b,off,ha,_⟩:=hf 0 hpos;refine ⟨⟨b,off,none⟩,ha,fun j v hj=>?_⟩;have hlens : ∀ c ∈ (List.range ys.length).map f,c.length = S.n:=by
    intro c hc;obtain ⟨i,hi,rfl⟩:=List.mem_map.1 hc;exact S.len (hf i (by simpa using hi)).1
  have hjl : j < ys.length * S.n:=by
    have:=(List.getElem?_eq_some_iff.1 hj).1;rw [xO _ hlens] at this
    simpa using this
  have hn:=S.n_pos;have hi : j / S.n < ys.length:=Nat.div_lt_of_lt_mul (by rw [Nat.mul_comm];exact hjl);have hr : j % S.n < S.n:=Nat.mod_lt _ hn;have hjr : j / S.n * S.n + j % S.n = j:=by rw [Nat.mul_comm];exact Nat.div_add_mod j S.n
  have hfa:=uC ((List.range ys.length).map f) (j / S.n) (j % S.n) hlens (by simpa using hi) hr;rw [hjr,hj,hget _ hi] at hfa;obtain ⟨_,b',off',ha',hcell⟩:=hf (j / S.n) hi;rw [ha] at ha';cases ha';rw [Go.WideShapes.add_plain,hfa,← hcell.2 _ hr]
  congr 2
  omega
theorem bD (hs : StOk cx tm ob nx ρ a w) {x : A} {u : Value} {α : Type} {S : Rd α} {ys : List α} (h : srcOf ob x = some ⟨α,S,ys⟩) (hx : x.rep (okOf cx ρ ob) ρ w u) :
    ∃ a cap,∃ css : List (List Value),u = .slice a ys.length cap ∧ ys.length ≤ maxLen ∧ css.length = ys.length ∧ (∀ i (h : i < ys.length),S.is (okOf cx ρ ob) w (css.getD i []) ys[i]) ∧ (0 < ys.length → ∃ ad,a = some ad ∧ ∀ j v,css.flatten[j]? = some v → w.cell? (ad.add j) = some v):=by
  unfold srcOf at h;split at h
  · cases h;exact slOk_src hx
  · cases h;exact slOk_src hx.1
  · split at h
    · rename_i hg;cases h;obtain ⟨v,hv,css,h1,h2,h3⟩ : ∃ v,ρ _ = some v ∧ uF (okOf cx ρ ob) w v _ _ _:=hs.obs _ (yF hg);have hxv : ρ _ = some u:=hx.1;rw [hv] at hxv;obtain rfl:=Option.some.inj hxv;rcases h3.2 with ⟨rfl,h0⟩|⟨g,cap,cur,rfl,_,hgh,hnc,hcm,_⟩
      · refine ⟨none,0,css,by rw [h0],by rw [h0];exact Nat.zero_le _,h1,h2,fun hp=>by omega⟩
      · exact ⟨_,cap,css,rfl,Nat.le_trans hnc hcm,h1,h2,fun _=>⟨_,rfl,fun j v hj=>h3.cells rfl j v hj⟩⟩
    · cases h
  · cases h
theorem fD {α : Type} {S : Rd α} {ok : Oks} {ys : List α} {css : List (List Value)} (h1 : css.length = ys.length) (h2 : ∀ i (h : i < ys.length),S.is ok w (css.getD i []) ys[i]) : ∀ v ∈ css.flatten,v.oneCell' = true:=by
  intro v hv;obtain ⟨c,hc,hvc⟩:=List.mem_flatten.1 hv;obtain ⟨j,hj,rfl⟩:=List.mem_iff_getElem.1 hc;have:=S.ones (h2 j (by omega)) v;simp only [List.getD,List.getElem?_eq_getElem hj,Option.getD_some] at this;exact this hvc
theorem bP {css dss : List (List Value)} (i : Nat) : (css ++ dss).getD i [] = if i < css.length then css.getD i [] else dss.getD (i - css.length) []:=by
  simp only [List.getD,List.getElem?_append];split <;> rfl
theorem hP {x : A} {u : Value} {ok : Oks} (h : isNil x = true) (hx : x.rep ok ρ w u) : u = .slice none 0 0:=by
  unfold isNil at h;split at h
  · exact hx
  · cases h
theorem run_append_op {s x : Operand} {t t' : TypeId} {args : Array Operand} {ts : Array TypeId} (hop : o.op = .call { callee:=.builtin .append,args:=args,argTypes:=ts }) (ha : args.toList = [s,x]) (ht : ts.toList = [t,t']) (hb : Nat.beq t t' = true) {v : Value} {w' : World}
    (h : (Builtin.append_ #[t,t] o.type #[a.eval s,a.eval x]).run P w = .ok v w') : (execOp a.eval o).run P w = .ok (.value v) w':=by
  have e1 : args = #[s,x]:=by apply Array.toList_inj.1;rw [ha]
  have e2 : ts = #[t,t']:=by apply Array.toList_inj.1;rw [ht]
  have e3:=Nat.eq_of_beq_eq_true hb;subst e1 e2 e3;unfold execOp;simp only [hop,resolve,invoke,builtin,Sem.run_bind,Sem.run_pure,Result.andThen_ok,List.map_toArray,List.map_cons,List.map_nil,h]
theorem jQ {v : Value} {w' : World} {next : Act → World → Prop} (h : (execOp a.eval o).run P w = .ok (.value v) w') (hn : next (a.put o.dst v) w') : o.wp P a w next Q:=by
  unfold Oper.wp;rw [h];exact hn
theorem aApp_sound (hte : TEok P te) {s x : Operand} {t : TypeId} {K : Tm → Obs → Nat → Prop} (h : aApp te cx.N o.dst s x t tm ob nx K) (hs : StOk cx tm ob nx ρ a w)
    {next : Act → World → Prop} (hrun : ∀ v w',(Builtin.append_ #[t,t] o.type #[a.eval s,a.eval x]).run P w = .ok v w' → next (a.put o.dst v) w' → o.wp P a w next Q)
    (hn : ∀ tm ob nx ρ a w,K tm ob nx → StOk cx tm ob nx ρ a w → next a w) : o.wp P a w next Q:=by
  unfold aApp at h;split at h
  · rename_i ti hti;have hk:=(yO hte hti).kind;split at h
    · rename_i e hek;rw [hek] at hk;have hu : P.underlying t = some (.slice e):=hk;split at h
      · rename_i ei hei;have hei:=yO hte hei;split at h
        · exact h.elim
        · rename_i hb1;have hb1:=Nat.le_of_ble_eq_true hb1;split at h
          · rename_i hnil;have es:=hP hnil (hs.look s);split at h
            · rename_i β R hrd;have hRn:=hei.rdn _ _ hrd;have hpos : 0 < ei.size:=by rw [← hRn];exact R.n_pos
              have made0 : ∀ {w' : World},w' = w → put cx.N o.dst (.one (.vec nx)) tm (fun tm=>K tm ((nx,.vec e R []) :: ob) (nx + 1)) → next (a.put o.dst (.slice none 0 0)) w':=by
                intro w' hw hp;subst hw;obtain ⟨ρ',h1,h2⟩:=gR (E:=e) (R:=R) (xs:=[]) (v:=.slice none 0 0) hs (Below.refl _ _) (fun b hb=>by cases hb) ⟨_,_,_,rfl⟩ (fun ok' _=>⟨[],rfl,fun i hi=>absurd hi (by simp),World.ownsRow_nil _ _ _ _⟩);obtain ⟨tm',h3,h4⟩:=h1.put hp h2;exact hn _ _ _ _ _ _ h3 h4
              split at h
              · rename_i hxn;have ex:=hP hxn (hs.look x);refine hrun (.slice none 0 0) w ?_ (made0 rfl h);rw [es,ex];exact eJ hu hei _ _ _ _ _ (Nat.le_refl _)
              · split at h
                · rename_i γ S ys hsrc;split at h
                  · rename_i hh _;obtain ⟨hby,hp⟩:=h;obtain ⟨ad,cap,css,hux,hmx,h1,h2,h3⟩:=bD hs hsrc (hs.look x);cases hh.down;rw [Rd.move_rfl] at hp
                    by_cases hy : ys.length = 0
                    · have hy0 : ys = []:=List.length_eq_zero_iff.1 hy;subst hy0;refine hrun (.slice none 0 0) w ?_ (made0 rfl hp);rw [es,hux];exact eJ hu hei _ _ _ _ _ (Nat.le_refl _)
                    · obtain ⟨ad',rfl,hcells⟩:=h3 (by omega);have hfs:=xO css (uP h1 h2);obtain ⟨v',w',r1,r2,r3,r4,r5⟩:=run_app (P:=P) (ty:=o.type) hu hei hpos (World.ownsRow_nil w 0 e ei.size) (ad:=ad') (m:=ys.length) (c:=cap) (news:=css.flatten) (by rw [hfs,h1,hRn]) hcells (fD h1 h2) (by omega) (by omega) (by rw [Nat.zero_add];exact hby);rw [Nat.zero_add,List.nil_append] at r2;have hbw : Below w.heap.size w w':=⟨r3.os,r3.tape,r3.output,r3.size,fun k hk=>r3.block k hk (by simp [blk])⟩;obtain ⟨ρ',h4,h5⟩:=gR (E:=e) (R:=R) (xs:=ys) (v:=v') hs hbw (fun b hb=>by rcases r4 b hb with h|h;cases h;exact h) r5 (fun ok' hk'=>⟨css,h1,fun i hi=>R.kept hk' (h2 i hi),by rw [hRn];exact r2⟩);obtain ⟨tm',h6,h7⟩:=h4.put hp h5;exact hrun v' w' (by rw [es,hux];exact r1) (hn _ _ _ _ _ _ h6 h7)
                  · exact h.elim
                · exact h.elim
            · exact h.elim
          · split at h
            · rename_i id hsv;have hsr:=hs.look s;rw [hsv] at hsr;split at h
              · rename_i β E R xs hg;split at h
                · rename_i hE hRn;have hE:=Nat.eq_of_beq_eq_true hE;have hRn:=Nat.eq_of_beq_eq_true hRn;subst hE;have hpos : 0 < ei.size:=by rw [← hRn];exact R.n_pos
                  obtain ⟨v,hv,css,h1,h2,h3⟩ : ∃ v,ρ id = some v ∧ uF (okOf cx ρ ob) w v E R xs:=hs.obs _ (yF hg);have hse : ρ id = some (a.eval s):=hsr.1;rw [hv] at hse;have hse:=Option.some.inj hse;obtain ⟨sa,sn,sc,hsl⟩:=hsr.2;have hsn : sn = xs.length ∧ sn ≤ sc:=by
                    rcases h3.2 with ⟨h0,h00⟩|⟨g,cap,cur,h0,_,_,hnc,_⟩
                    · rw [← hse,h0] at hsl;cases hsl;exact ⟨h00.symm,Nat.le_refl _⟩
                    · rw [← hse,h0] at hsl;cases hsl;exact ⟨rfl,hnc⟩
                  split at h
                  · rename_i hxn;have ex:=hP hxn (hs.look x);obtain ⟨tm',h4,h5⟩:=hs.put h hsr;refine hrun (a.eval s) w ?_ (hn _ _ _ _ _ _ h4 h5);rw [ex,hsl];exact eJ hu hei _ _ _ _ _ hsn.2
                  · split at h
                    · rename_i γ S ys hsrc;split at h
                      · rename_i hh _;obtain ⟨hby,hp⟩:=h;obtain ⟨ad,cap,dss,hux,hmx,g1,g2,g3⟩:=bD hs hsrc (hs.look x);cases hh.down;rw [Rd.move_rfl] at hp
                        by_cases hy : ys.length = 0
                        · have hy0 : ys = []:=List.length_eq_zero_iff.1 hy;subst hy0;have hsame:=hs.swap (o':=.vec E R (xs ++ [])) hg (w':=w) (v':=v) ⟨rfl,rfl,rfl,Nat.le_refl _,fun _ _ _=>rfl⟩ (fun b hb=>.inl (by rw [hv];exact hb)) (by
                            refine ⟨v,xF,css,by simpa using h1,?_,by simpa using h3⟩;intro i hi;have hi' : i < xs.length:=by simpa using hi
                            have hkp:=wT (o':=.vec E R (xs ++ [])) hs hg (w':=w) (v':=v) ⟨rfl,rfl,rfl,Nat.le_refl _,fun _ _ _=>rfl⟩ (fun b hb=>.inl (by rw [hv];exact hb))
                            simpa using R.kept hkp (h2 i hi'))
                          obtain ⟨tm',h4,h5⟩:=hsame.put hp (u:=v) ⟨xF,by rw [hse];exact hsr.2⟩;refine hrun v w ?_ (hn _ _ _ _ _ _ h4 h5);rw [hux,hse,hsl];exact eJ hu hei _ _ _ _ _ hsn.2
                        · obtain ⟨ad',rfl,hcells⟩:=g3 (by omega);have hfs:=xO dss (uP g1 g2);have hbig : xs.length + ys.length ≤ maxLen:=by
                            have hle : (xs.length + ys.length) * 1 ≤ (xs.length + ys.length) * ei.bytes:=Nat.mul_le_mul_left _ hb1;unfold maxLen;omega
                          rw [hRn] at h3;obtain ⟨v',w',r1,r2,r3,r4,r5⟩:=run_app (P:=P) (ty:=o.type) hu hei hpos h3 (ad:=ad') (m:=ys.length) (c:=cap) (news:=dss.flatten) (by rw [hfs,g1,hRn]) hcells (fD g1 g2) (by omega) hbig hby;have hgr : Grew w w' (blk (ρ id)):=by rw [hv];exact r3
                          have hbl : ∀ b,blk (some v') = some b → blk (ρ id) = some b ∨ (w.heap.size ≤ b ∧ b < w'.heap.size):=by rw [hv];exact r4
                          have hkp:=wT (o':=.vec E R (xs ++ ys)) hs hg hgr (fun b hb=>(hbl b hb).imp (fun h=>h) (·.1));have hsw:=hs.swap (o':=.vec E R (xs ++ ys)) hg hgr hbl (by
                            refine ⟨v',xF,css ++ dss,by simp [h1,g1],?_,by rw [hRn,List.length_append,List.flatten_append];exact r2⟩;intro i hi;rw [bP]
                            by_cases hi' : i < xs.length
                            · rw [if_pos (by omega),List.getElem_append_left hi'];exact R.kept hkp (h2 i hi')
                            · rw [if_neg (by omega),List.getElem_append_right (by omega),h1];exact R.kept hkp (g2 (i - xs.length) (by simp at hi;omega)))
                          obtain ⟨tm',h4,h5⟩:=hsw.put hp (u:=v') ⟨xF,r5⟩;exact hrun v' w' (by rw [hux,← hse];exact r1) (hn _ _ _ _ _ _ h4 h5)
                      · exact h.elim
                    · exact h.elim
                · exact h.elim
              · exact h.elim
            · rename_i β S0 zs hsv;have hsr:=hs.look s;rw [hsv] at hsr;split at h
              · rename_i γ S ys hRn hsrc;have hRn:=Nat.eq_of_beq_eq_true hRn;split at h
                · rename_i hh _;obtain ⟨⟨hy,hby⟩,hp⟩:=h;have hpos : 0 < ei.size:=by rw [← hRn];exact S0.n_pos
                  obtain ⟨sa,scap,css,hsu,_,g1,g2,g3⟩:=slOk_src hsr.1;obtain ⟨sb,hsb⟩:=hsr.2;rw [hsu] at hsb
                  injection hsb with e1 _ e3
                  subst e1 e3;obtain ⟨ad,cap,dss,hux,hmx,k1,k2,k3⟩:=bD hs hsrc (hs.look x);cases hh.down;rw [Rd.move_rfl] at hp;obtain ⟨ad',rfl,hcells⟩:=k3 hy;have hfs:=xO dss (uP k1 k2);have hfz:=xO css (uP g1 g2);have hbig : zs.length + ys.length ≤ maxLen:=by
                    have hle : (zs.length + ys.length) * 1 ≤ (zs.length + ys.length) * ei.bytes:=Nat.mul_le_mul_left _ hb1;unfold maxLen;omega
                  obtain ⟨v',w',r1,r2,r3,r4,r5⟩:=run_appF (P:=P) (ty:=o.type) hu hei hpos (ao:=sa) (n:=zs.length) (olds:=css.flatten) (by rw [hfz,g1,hRn]) g3 (ad:=ad') (m:=ys.length) (c:=cap) (news:=dss.flatten) (by rw [hfs,k1,hRn]) hcells (fD k1 k2) hy hbig hby;obtain ⟨ρ',h4,h5⟩:=gR (E:=e) (R:=S0) (xs:=zs ++ ys) (v:=v') hs r3 r4 r5 (fun ok' hk'=>by
                    refine ⟨css ++ dss,by simp [g1,k1],?_,by rw [hRn,List.length_append,List.flatten_append];exact r2⟩;intro i hi;rw [bP]
                    by_cases hi' : i < zs.length
                    · rw [if_pos (by omega),List.getElem_append_left hi'];exact S0.kept hk' (g2 i hi')
                    · rw [if_neg (by omega),List.getElem_append_right (by omega),g1];exact S0.kept hk' (k2 (i - zs.length) (by simp at hi;omega)))
                  obtain ⟨tm',h6,h7⟩:=h4.put hp h5;exact hrun v' w' (by rw [hsu,hux];exact r1) (hn _ _ _ _ _ _ h6 h7)
                · exact h.elim
              · exact h.elim
            · exact h.elim
      · exact h.elim
    · exact h.elim
  · exact h.elim
theorem run_appendS_op {s x : Operand} {t t' : TypeId} {args : Array Operand} {ts : Array TypeId} (hop : o.op = .call { callee:=.builtin .append,args:=args,argTypes:=ts }) (ha : args.toList = [s,x]) (ht : ts.toList = [t,t']) {v : Value} {w' : World}
    (h : (Builtin.append_ #[t,t'] o.type #[a.eval s,a.eval x]).run P w = .ok v w') : (execOp a.eval o).run P w = .ok (.value v) w':=by
  have e1 : args = #[s,x]:=by apply Array.toList_inj.1;rw [ha]
  have e2 : ts = #[t,t']:=by apply Array.toList_inj.1;rw [ht]
  subst e1 e2;unfold execOp;simp only [hop,resolve,invoke,builtin,Sem.run_bind,Sem.run_pure,Result.andThen_ok,List.map_toArray,List.map_cons,List.map_nil,h]
theorem run_appS {t u ty e : TypeId} {f : TypeInfo} (ht : P.underlying t = some (.slice e)) (hu : P.underlying u = some .string) (hf : P.info? e = some f) (hfs : f.size = 1) (hfb : f.bytes = 1) (hfz : f.zero = some (.int .u8 0))
    {v : Value} {n : Nat} {xs : List Value} (hown : w.ownsRow 0 e 1 v n xs) {s : ByteArray} (h63 : n + s.size ≤ maxLen) (hby : n + s.size ≤ 140737488355328) :
    ∃ v' w',(Builtin.append_ #[t,u] ty #[v,.string s]).run P w = .ok v' w' ∧ w'.ownsRow 0 e 1 v' (n + s.size) (xs ++ Lib.strCells s) ∧ Grew w w' (blk (some v)) ∧ (∀ b,blk (some v') = some b → blk (some v) = some b ∨ (w.heap.size ≤ b ∧ b < w'.heap.size)) ∧ ∃ a n c,v' = .slice a n c:=by
  have hsmall : n + s.size ≤ 9223372036854775807:=by simp only [maxLen] at h63;omega
  have sl : ∀ {v' : Value} {w' : World} {ys : List Value} {k : Nat} {B : Nat},w'.ownsRow B e 1 v' k ys → ∃ a n c,v' = .slice a n c:=by
    intro v' w' ys k B ho;rcases ho.2 with ⟨h0,_⟩|⟨g,cap,cur,r1,_⟩
    · exact ⟨_,_,_,h0⟩
    · exact ⟨_,_,_,r1⟩
  rcases hown.2 with ⟨rfl,rfl⟩|⟨g,cap,cur,rfl,hbg,hg,hnc,hcm,hcs,htake⟩
  · have hx : xs = []:=List.eq_nil_of_length_eq_zero (by rw [hown.1]);subst hx;obtain ⟨v',w',r1,r2,r3,_⟩:=Lib.run_append_own_string (P:=P) w w.heap.size t u ty e f ht hu hf hfz hfs hfb (.slice none 0 0) 0 [] (World.ownsRow_nil _ _ _ _) s h63 hby (Nat.le_refl _);refine ⟨v',w',r1,⟨r2.1,?_⟩,⟨r3.os,r3.tape,r3.output,r3.size,fun k hk _=>r3.block k hk (by simp [Value.ownBlock])⟩,?_,sl r2⟩
    · rcases r2.2 with h0|⟨g,cap,cur,q1,_,q3⟩
      · exact .inl h0
      · exact .inr ⟨g,cap,cur,q1,Nat.zero_le _,q3⟩
    · intro b hb;rcases r2.2 with ⟨h0,_⟩|⟨g,cap,cur,q1,q2,q3,_⟩
      · rw [h0] at hb;cases hb
      · rw [q1] at hb;cases hb;exact .inr ⟨q2,(Array.getElem?_eq_some_iff.1 q3).1⟩
  · obtain ⟨v',w',r1,r2,r3,_⟩:=Lib.run_append_own_string (P:=P) w 0 t u ty e f ht hu hf hfz hfs hfb _ n xs hown s h63 hby (Nat.zero_le _);refine ⟨v',w',r1,r2,⟨r3.os,r3.tape,r3.output,r3.size,r3.block⟩,?_,sl r2⟩;intro b hb
    by_cases hroom : n + s.size ≤ cap
    · have hcs' : cur.size = cap:=by simpa using hcs
      have hr:=Lib.run_append_room_string (P:=P) w t u ty e f ht hu hf hfs g n cap cur hg s hroom (by omega);rw [r1] at hr
      injection hr with e1 _
      rw [e1] at hb;exact .inl hb
    · have hxl : xs.length = n:=by simpa using hown.1
      have holds : ∀ j u,xs[j]? = some u → w.cell? ((⟨g,0,none⟩ : Addr).add j) = some u:=hown.cells (g:=g) rfl;have hr:=Lib.run_append_grow_string (P:=P) w t u ty e f (.int .u8 0) ht hu hf hfz ⟨g,0,none⟩ n cap xs (by rw [hfs];simpa using hxl) holds s (by omega) (by omega) (by rw [hfb];exact growslice_fits (by omega) (by omega));rw [r1] at hr
      injection hr with e1 e2
      rw [e1] at hb;cases hb;refine .inr ⟨Nat.le_refl _,?_⟩;rw [e2];simp
theorem flat_ints (s : ByteArray) : (((xX s).map fun n=>[Value.int .u8 n]).flatten) = Lib.strCells s:=by
  unfold xX Lib.strCells
  induction s.data.toList with
  | nil=>rfl
  | cons b r ih=>simp only [List.map_cons,List.flatten_cons,ih];rfl
theorem cW (s : ByteArray) : (xX s).length = s.size:=by
  unfold xX;rw [List.length_map,Array.length_toList];rfl
theorem aAppS_sound (hte : TEok P te) {s x : Operand} {t t' : TypeId} {K : Tm → Obs → Nat → Prop} (h : aAppS te cx.N o.dst s x t t' tm ob nx K) (hs : StOk cx tm ob nx ρ a w)
    {next : Act → World → Prop} (hrun : ∀ v w',(Builtin.append_ #[t,t'] o.type #[a.eval s,a.eval x]).run P w = .ok v w' → next (a.put o.dst v) w' → o.wp P a w next Q)
    (hn : ∀ tm ob nx ρ a w,K tm ob nx → StOk cx tm ob nx ρ a w → next a w) : o.wp P a w next Q:=by
  unfold aAppS at h;split at h
  · rename_i ti ui hti hui;have hk:=(yO hte hti).kind;have hk2:=(yO hte hui).kind;split at h
    · rename_i e hek hek2;rw [hek] at hk;rw [hek2] at hk2;have hu : P.underlying t = some (.slice e):=hk;have hu2 : P.underlying t' = some .string:=hk2;split at h
      · rename_i ei hei;have hei:=yO hte hei;split at h
        · rename_i hik hib hiz;obtain ⟨f,hf,hfs,hfb,hfz⟩:=hei.info;have hag : ei.k.agg = false:=by rw [hik];rfl
          rw [hei.size1 hag] at hfs;rw [hib] at hfb;have hzv : ei.zeroV = .int .u8 0:=by unfold TyI.zeroV;rw [hag,hiz];rfl
          rw [hzv] at hfz;split at h
          · rename_i id b hsv hxv;have hsr:=hs.look s;rw [hsv] at hsr;have hxr:=hs.look x;rw [hxv] at hxr;have hxe : a.eval x = .string b:=hxr;split at h
            · rename_i β E R xs hg;split at h
              · rename_i hh hE _;have hE:=Nat.eq_of_beq_eq_true hE;subst hE;obtain ⟨hby,hp⟩:=h;cases hh.down;rw [Rd.move_rfl] at hp;obtain ⟨v,hv,css,h1,h2,h3⟩ : ∃ v,ρ id = some v ∧ uF (okOf cx ρ ob) w v E (.int .u8) xs:=hs.obs _ (yF hg);have hse : ρ id = some (a.eval s):=hsr.1;rw [hv] at hse;have hse:=Option.some.inj hse;have hbig : xs.length + b.size ≤ maxLen:=by unfold maxLen;omega
                have h3' : w.ownsRow 0 E 1 v xs.length css.flatten:=h3;obtain ⟨v',w',r1,r2,r3,r4,r5⟩:=run_appS (P:=P) (ty:=o.type) hu hu2 hf hfs hfb hfz h3' hbig hby;have hgr : Grew w w' (blk (ρ id)):=by rw [hv];exact r3
                have hbl : ∀ b,blk (some v') = some b → blk (ρ id) = some b ∨ (w.heap.size ≤ b ∧ b < w'.heap.size):=by rw [hv];exact r4
                have hkp:=wT (o':=.vec E (.int .u8) (xs ++ xX b)) hs hg hgr (fun b hb=>(hbl b hb).imp (fun h=>h) (·.1));have hsw:=hs.swap (o':=.vec E (.int .u8) (xs ++ xX b)) hg hgr hbl (by
                  refine ⟨v',xF,css ++ (xX b).map (fun n=>[Value.int .u8 n]),by simp [h1],?_,?_⟩
                  · intro i hi;rw [bP]
                    by_cases hi' : i < xs.length
                    · rw [if_pos (by omega),List.getElem_append_left hi'];exact Rd.kept (.int .u8) hkp (h2 i hi')
                    · rw [if_neg (by omega),List.getElem_append_right (by omega),h1];have hj : i - xs.length < (xX b).length:=by simp at hi;omega
                      simp only [List.getD,List.getElem?_map,List.getElem?_eq_getElem hj,Option.map_some,Option.getD_some];rfl
                  · rw [List.length_append,List.flatten_append,flat_ints,cW];exact r2)
                obtain ⟨tm',h4,h5⟩:=hsw.put hp (u:=v') ⟨xF,r5⟩;exact hrun v' w' (by rw [hxe,← hse];exact r1) (hn _ _ _ _ _ _ h4 h5)
              · exact h.elim
            · exact h.elim
          · exact h.elim
        · exact h.elim
      · exact h.elim
    · exact h.elim
  · exact h.elim
end
section
variable {P : Program} {te : List (TypeId × TyI)} {cx : Cx} {tm : Tm} {ob : Obs} {nx : Nat} {ρ : Nat → Option Value} {a : Act} {w : World} {ops : Array Oper} {rest : List Oper} {o : Oper} {Q : Exit → Act → World → Prop}
theorem vrK_sound {v : Vr} {K : A → Prop} (h : vrK v K) : v.obl ∧ (v.fact → K v.val):=by
  cases v
  · exact ⟨trivial,fun _=>h⟩
  · exact ⟨h.1,fun _=>h.2⟩
  · exact ⟨trivial,h⟩
  · exact h.elim
theorem opv_wp (hte : TEok P te) {K : Tm → Prop} (h : vrK (opv te ob (look tm) o.op) fun v=>put cx.N o.dst v tm K) (hs : StOk cx tm ob nx ρ a w) {next : Act → World → Prop}
    (hn : ∀ tm a w,K tm → StOk cx tm ob nx ρ a w → next a w) : o.wp P a w next Q:=by
  obtain ⟨h1,h2⟩:=vrK_sound h;obtain ⟨hy,hf⟩:=vN hte h1 (fun x _=>hs.look x) hs.obs;exact wp_yld hs hy (h2 hf) hn
theorem mval_of (hs : StOk cx tm ob nx ρ a w) {x : Operand} {ns : List C} (h : wH (look tm x) = some ns) (hsure : vW ns = true) {g : Bool} (hag : g = aggA (look tm x)) : mval g (a.eval x) (a.eval x).cells.toList:=by
  have hr:=hs.look x;cases e : look tm x with
  | one c =>
    rw [e] at h hr hag;cases h;have h0 : c.sure = true:=by
      unfold vW at hsure;split at hsure
      · assumption
      · cases hsure
    have h1 : (a.eval x).oneCell' = true:=C.sure_one h0 hr;subst hag;show (a.eval x).cells.toList = [a.eval x]
    generalize a.eval x = v at h1
    cases v <;> first|rfl|(simp [Value.oneCell'] at h1)
  | agg cs =>
    rw [e] at hr hag;obtain ⟨vs,hv,_⟩:=hr;subst hag;rw [hv];show Value.agg vs.toArray = .agg (Value.cells (.agg vs.toArray)).toList.toArray;simp [Value.cells]
  | tup _=>rw [e] at h;cases h
  | cond _ _=>rw [e] at h;cases h
theorem uY (hte : TEok P te) {K : Tm → Obs → Nat → Prop} (h : aEff te cx.N cx.nx0 o tm ob nx K) (hs : StOk cx tm ob nx ρ a w) {next : Act → World → Prop}
    (hn : ∀ tm ob nx ρ a w,K tm ob nx → StOk cx tm ob nx ρ a w → next a w) : o.wp P a w next Q:=by
  obtain ⟨dst,op,ty,pos,after,guard⟩:=o;unfold aEff at h;simp only at h;split at h
  · rename_i t;split at h
    · rename_i i hi;have hok:=yO hte hi;have hz : repL (okOf cx ρ ob) ρ w (litL i.zero) i.zeroV.cells.toList:=by
        rw [hok.zeroCells,litL_eq];exact uZ _
      obtain ⟨ρ',w',h1,h2,h3⟩:=box_sound hok hs hz;obtain ⟨tm',h4,h5⟩:=h2.put h h3;refine jQ (v:=.pointer (some ⟨w.heap.size,0,none⟩)) (w':=w') ?_ (hn _ _ _ _ _ _ h4 h5);unfold execOp;have h6 : (Instr.alloc t true (.tuple #[])).run P w = .ok (.pointer (some ⟨w.heap.size,0,none⟩)) w':=by
        unfold Instr.alloc;simp only [Sem.run_bind,hok.zeroValue,Result.andThen_ok]
        simpa using h1
      simp only [Sem.run_bind,h6,Result.andThen_ok,Sem.run_pure]
    · exact h.elim
  · rename_i t x;split at h
    · rename_i i cs hi hcs;have hok:=yO hte hi;split at h
      · rename_i hsz hsure;have hv:=zT hs hcs hsure;obtain ⟨ρ',w',h1,h2,h3⟩:=box_sound hok hs hv;obtain ⟨tm',h4,h5⟩:=h2.put h h3;refine jQ (v:=.pointer (some ⟨w.heap.size,0,none⟩)) (w':=w') ?_ (hn _ _ _ _ _ _ h4 h5);unfold execOp;have h6 : (Instr.box t (a.eval x)).run P w = .ok (.pointer (some ⟨w.heap.size,0,none⟩)) w':=h1;simp only [Sem.run_bind,h6,Result.andThen_ok,Sem.run_pure]
      · exact h.elim
    · exact h.elim
  · rename_i t d x;split at h
    · rename_i i id off hi hd;have hok:=yO hte hi;have hdr:=hs.look d;rw [hd] at hdr;obtain ⟨b,hρ,hde⟩:=hdr;split at h
      · rename_i T cs ns hg hns;split at h
        · rename_i hsz hle hsure;have hsz:=Nat.eq_of_beq_eq_true hsz;have hle:=Nat.le_of_ble_eq_true hle;simp only [jP] at hsz hle;have hv:=zT hs hns hsure;obtain ⟨w',h1,h2⟩:=store_own hok hs hρ hg hv hsure hsz hle;obtain ⟨tm',h4,h5⟩:=h2.put h (u:=undef) trivial;unfold Oper.wp execOp;simp only [Sem.run_bind,hde,h1,Result.andThen_ok,Sem.run_pure];exact hn _ _ _ _ _ _ h4 h5
        · exact h.elim
      · exact h.elim
    · rename_i i id k n hi hd;have hok:=yO hte hi;have hdr:=hs.look d;rw [hd] at hdr;obtain ⟨b,m,cap,hρ,hde⟩:=hdr;obtain ⟨tm1,ob1,hf,hs1⟩:=jU h hs;clear h
      revert hf
      intro h;split at h
      · rename_i β E R xs ns hg hns;split at h
        · rename_i y hsz hnn hsure hy;have hsz:=Nat.eq_of_beq_eq_true hsz;have hnn:=Nat.eq_of_beq_eq_true hnn;simp only [jP] at hsz;subst hnn;have hv:=zT hs1 hns hsure;obtain ⟨w',h1,h2⟩:=store_vel hok hs1 hρ hg hv hsure hsz hy h.1;obtain ⟨tm',h4,h5⟩:=h2.put h.2 (u:=undef) trivial;unfold Oper.wp execOp;simp only [Sem.run_bind,hde,h1,Result.andThen_ok,Sem.run_pure];exact hn _ _ _ _ _ _ h4 h5
        · exact h.elim
      · exact h.elim
    · rename_i i id k n off hi hd;have hok:=yO hte hi;have hdr:=hs.look d;rw [hd] at hdr;obtain ⟨b,m,cap,hρ,hde⟩:=hdr;obtain ⟨tm1,ob1,hf,hs1⟩:=jU h hs;clear h
      revert hf
      intro h;split at h
      · rename_i β E R xs ns hg hns;split at h
        · rename_i y hsz hnn hle hsure hy;have hsz:=Nat.eq_of_beq_eq_true hsz;have hnn:=Nat.eq_of_beq_eq_true hnn;have hle:=Nat.le_of_ble_eq_true hle;simp only [jP] at hsz hle;subst hnn;have hv:=zT hs1 hns hsure;obtain ⟨w',h1,h2⟩:=store_vof hok hs1 hρ hg hv hsure hsz hle hy h.1;obtain ⟨tm',h4,h5⟩:=h2.put h.2 (u:=undef) trivial;unfold Oper.wp execOp;simp only [Sem.run_bind,hde,h1,Result.andThen_ok,Sem.run_pure];exact hn _ _ _ _ _ _ h4 h5
        · exact h.elim
      · exact h.elim
    · exact h.elim
  · rename_i t n ps;obtain ⟨tm1,ob1,h,hs1⟩:=jU h hs;split at h
    · rename_i β R xs e he;have hr:=lks_rep (ok:=okOf cx ρ ob1) (ρ:=ρ) (w:=w) (lk:=look tm1) (ev:=a.eval) (ps:=ps.toList) (fun p _=>hs1.look p.2);obtain ⟨_,_,hlim,css,h1,h2,h3⟩:=dY hte he hr;obtain ⟨ρ',h4,h5⟩:=gR (E:=e) (R:=R) (xs:=xs) hs1 (kU w _) (fun b hb=>by cases hb;exact ⟨Nat.le_refl _,by simp⟩) ⟨_,_,_,rfl⟩
        (fun ok' hk=>vecOk_new h1 h2 hk (small_max R.n_pos hlim) (gH w _))
      obtain ⟨tm',h6,h7⟩:=h4.put h h5;refine jQ (w':=w.alloc (.cells css.flatten.toArray e)) ?_ (hn _ _ _ _ _ _ h6 h7);unfold execOp;have e1 : (ps.map fun (i,x)=>(i,a.eval x)) = (ps.toList.map fun p=>(p.1,a.eval p.2)).toArray:=by
        apply Array.toList_inj.1;simp
      simp only [e1,Sem.run_bind,h3,Result.andThen_ok,Sem.run_pure]
    · exact h.elim
  · rename_i t l c;split at h
    · rename_i ti hti;have hk:=(yO hte hti).kind;split at h
      · rename_i e he;rw [he] at hk;split at h
        · rename_i ei hei;have hok:=yO hte hei;split at h
          · rename_i α R hrd;split at h
            · rename_i kl n kc m z y hl hc hz hy;split at h
              · rename_i hb;have hb:=Nat.le_of_ble_eq_true hb;obtain ⟨⟨h0,hm,hmx⟩,h⟩:=h;subst hm;obtain ⟨k,rfl⟩:=Int.eq_ofNat_of_zero_le h0;have el : a.eval l = .int kl k:=by have:=hs.look l;rw [hl] at this;exact this
                have ec : a.eval c = .int kc k:=by have:=hs.look c;rw [hc] at this;exact this
                obtain ⟨f,hi,hsz,hby,hzz⟩:=hok.info;have hs1 : ei.size = 1:=by rw [← hok.zlen,hz];rfl
                have hzc : ei.zeroV.cells = #[z]:=by rw [hok.zeroCells,hz]
                have hkm : (ei.bytes : Int) * (k : Int) ≤ 1000 * 1000000:=Int.mul_le_mul (by omega) hmx (by omega) (by decide);have hrun:=run_make (P:=P) w t e f _ hk hi hzz kl kc k k (by omega) (Int.le_refl _) (by rw [hby];omega) (by omega);have hcs : madeCells ei.zeroV.cells ((k : Int).toNat * f.size) = (List.replicate k [z]).flatten.toArray:=by
                  rw [hsz,hs1,Nat.mul_one,Int.toNat_natCast,hzc];apply Array.toList_inj.1;rw [toList_madeCells_one];simp
                rw [hcs] at hrun;simp only [Int.toNat_natCast] at hrun h;obtain ⟨us,r,hv,hR,hr0⟩:=jZ (ok:=okOf cx ρ ob) (ρ:=ρ) (w:=w) R hy (by rw [litL_eq];exact uZ ei.zero);have hr0 : r = []:=hr0;subst hr0;rw [hz,List.append_nil] at hv;subst hv;have h2 : ∀ i (h : i < (List.replicate k y).length),R.is (okOf cx ρ ob) w ((List.replicate k [z]).getD i []) (List.replicate k y)[i]:=fun i hi'=>by
                  rw [List.length_replicate] at hi';simp only [List.getElem_replicate,List.getD_eq_getElem?_getD,List.getElem?_replicate,hi',if_true,Option.getD_some];exact hR
                obtain ⟨ρ',h4,h5⟩:=gR (E:=e) (R:=R) (xs:=List.replicate k y) (v:=.slice (some ⟨w.heap.size,0,none⟩) k k) hs (kU w (.cells (List.replicate k [z]).flatten.toArray e)) (fun b hb=>by cases hb;exact ⟨Nat.le_refl _,by simp⟩) ⟨_,_,_,rfl⟩
                  (fun ok' hk'=>by
                    have:=vecOk_new (css:=List.replicate k [z]) (e:=e) (by simp) h2 hk' (by rw [List.length_replicate];unfold maxLen;omega) (gH w _)
                    rwa [List.length_replicate] at this)
                obtain ⟨tm',h6,h7⟩:=h4.put h h5;refine jQ (w':=w.alloc (.cells (List.replicate k [z]).flatten.toArray e)) ?_ (hn _ _ _ _ _ _ h6 h7);unfold execOp;simp only [el,ec,Sem.run_bind,hrun,Result.andThen_ok,Sem.run_pure]
              · exact h.elim
            · exact h.elim
          · exact h.elim
        · exact h.elim
      · exact h.elim
    · exact h.elim
  · rename_i t;split at h
    · rename_i ti hti;split at h
      · rename_i kt et hk;split at h
        · rename_i ei hei;split at h
          · rename_i β R hrd;have h1 : (Instr.makeMap t none).run P w = .ok (.map (some w.heap.size)) (w.alloc (.map #[] 0)):=rfl;have h2:=hs.new (v:=.map (some w.heap.size)) (o:=.map ei.k.agg R []) (kU w (.map #[] 0)) (fun b e=>by cases e;exact ⟨Nat.le_refl _,by simp⟩) ⟨_,xF,#[],0,gH w _,trivial⟩;obtain ⟨tm',h3,h4⟩:=h2.put h (u:=.map (some w.heap.size)) ⟨xF,_,rfl⟩;refine jQ (v:=.map (some w.heap.size)) (w':=w.alloc (.map #[] 0)) ?_ (hn _ _ _ _ _ _ h3 h4);unfold execOp;simp only [Option.map_none,Sem.run_bind,h1,Result.andThen_ok,Sem.run_pure]
          · exact h.elim
        · exact h.elim
      · exact h.elim
    · exact h.elim
  · rename_i t m k x;split at h
    · rename_i ti hti;have hk0:=(yO hte hti).kind;split at h
      · rename_i kt et e1;rw [e1] at hk0;have ht : P.underlying t = some (.map kt et):=hk0;split at h
        · rename_i ki hki;have hk1:=(yO hte hki).kind;split at h
          · rename_i e2;rw [e2] at hk1;have hkt : P.underlying kt = some (.int .i64):=hk1;obtain ⟨tm1,ob1,hf,hs1⟩:=jU h hs;clear h
            revert hf
            intro h;split at h
            · rename_i id n hm hkk;split at h
              · rename_i β g R es ns hg hns;split at h
                · rename_i y hag hsure hy;have hag:=sameB_eq hag;have hmr:=hs1.look m;rw [hm] at hmr;obtain ⟨r,h1,arr,clock,h2,h3⟩:=uR hs1.obs hg;have h4 : ρ id = some (a.eval m):=hmr.1;rw [h1] at h4;have hme : a.eval m = .map (some r):=(Option.some.inj h4).symm;have hke : a.eval k = .int .i64 n:=by have:=hs1.look k;rw [hkk] at this;exact this
                  have hv:=zT hs1 hns hsure;have hmv:=mval_of hs1 hns hsure hag;obtain ⟨us,rr,e3,hus,hrr⟩:=jZ R hy hv;have hrr : rr = []:=hrr;rw [hrr,List.append_nil] at e3;rw [e3] at hmv;have hck : (Instr.checkKey false 10000 kt (.int .i64 n)).run P w = .ok () w:=MapKept.run_checkKey hkt (show MapKept.IsKey (.int .i64) (.int .i64 n) from by simp [MapKept.IsKey]) _ _;have fin : ∀ (arr' : Array MapEntry) (clock' : Nat),(Instr.mapUpdate t (.map (some r)) (.int .i64 n) (a.eval x)).run P w = .ok () { w with heap:=w.heap.setIfInBounds r (.map arr' clock') } → MEs g R (okOf cx ρ ob1) w arr'.toList (setM es n y) →
                      ({ dst:=dst,op:=.mapUpdate t m k x,type:=ty,pos:=pos,after:=after,guard:=guard } : Oper).wp P a w next Q:=by
                    intro arr' clock' hrun hme';have hlt : r < w.heap.size:=(Array.getElem?_eq_some_iff.1 h2).1;have hgr : Grew w { w with heap:=w.heap.setIfInBounds r (.map arr' clock') } (blk (ρ id)):=⟨rfl,rfl,rfl,by simp,fun q hq hne=>by
                      show (w.heap.setIfInBounds r _)[q]? = _;rw [Array.getElem?_setIfInBounds_ne (fun e=>hne (by rw [h1,← e];rfl))]⟩
                    have hkp : xI (okOf cx ρ ob1) (okOf cx ρ ob1) w { w with heap:=w.heap.setIfInBounds r (.map arr' clock') }:=fun _ b hb hl=>⟨hb,hgr.block b hl (fun e=>hb.2 _ (yF hg) e.symm)⟩
                    have hw:=hs1.write (o':=.map g R (setM es n y)) hg hgr (by simp) ⟨r,h1,arr',clock',by show (w.heap.setIfInBounds r _)[r]? = _;simp [hlt],hme'.imp fun _ _ h=>R.kept hkp h⟩;obtain ⟨tm',h5,h6⟩:=hw.put h (u:=undef) trivial;unfold Oper.wp execOp;simp only [Sem.run_bind,hme,hke,hrun,Result.andThen_ok,Sem.run_pure];exact hn _ _ _ _ _ _ h5 h6
                  rcases bQ (n:=n) 0 h3 with ⟨_,g2,g3⟩|⟨_,cs',v',j,m0,_,g2,_,_,g5,g6,g7⟩
                  · refine fin (arr.push { key:=.int .i64 n,val:=a.eval x,born:=clock }) (clock + 1) ?_ ?_
                    · simp only [Instr.mapUpdate,Sem.run_bind,run_underlying ht,Result.andThen_ok,MapKept.run_getObj_map h2,hck,gP hkt g2];exact MapKept.run_setObj_map _ h2
                    · rw [Array.toList_push];exact g3 _ y rfl ⟨us,hmv,hus⟩
                  · have hj : arr[j]? = some m0:=by rw [← g5,Array.getElem?_toList]
                    refine fin (arr.modify (0 + j) fun e=>{ e with key:=.int .i64 n,val:=a.eval x }) clock ?_ ?_
                    · have hks : (Instr.keyThatStays (.int .i64 n) (.int .i64 n)).run P w = .ok (.int .i64 n) w:=by
                        unfold Instr.keyThatStays;rw [if_pos (by simp [Instr.sameBits])];rfl
                      simp only [Instr.mapUpdate,Sem.run_bind,run_underlying ht,Result.andThen_ok,MapKept.run_getObj_map h2,hck,gP hkt g2,Nat.zero_add,hj,Option.map_some,Option.getD_some,g6,hks];exact MapKept.run_setObj_map _ h2
                    · rw [Nat.zero_add,Array.toList_modify];exact g7 _ y fun m'=>⟨rfl,us,hmv,hus⟩
                · exact h.elim
              · exact h.elim
            · exact h.elim
          · exact h.elim
        · exact h.elim
      · exact h.elim
    · exact h.elim
  · exact h.elim
theorem iF {r : A} {K : Prop} (h : sure1 r K) : r.no1 = true ∧ K:=by
  unfold sure1 at h;split at h
  · rename_i e;exact ⟨e,h⟩
  · exact h.elim
theorem vX {as : List A} {r : A} {K : Prop} (h : sureA as r K) : (kH as = true ∨ r.no1 = true) ∧ K:=by
  unfold sureA at h;split at h
  · rename_i e;exact ⟨.inl e,h⟩
  · exact ⟨.inr (iF h).1,(iF h).2⟩
theorem zY (hte : TEok P te) {K : Tm → Obs → Nat → Prop} (h : aop P te cx.N cx.nx0 o tm ob nx K) (hs : StOk cx tm ob nx ρ a w) {next : Act → World → Prop}
    (hn : ∀ tm ob nx ρ a w,K tm ob nx → StOk cx tm ob nx ρ a w → next a w) : o.wp P a w next Q:=by
  unfold aop at h;split at h
  · rename_i args ts hop;split at h
    · rename_i s x t t' hargs hts;split at h
      · rename_i hb;exact aApp_sound hte h hs (fun v w' hrun hnx=>jQ (run_append_op hop hargs hts hb hrun) hnx) hn
      · exact aAppS_sound hte h hs (fun v w' hrun hnx=>jQ (run_appendS_op hop hargs hts hrun) hnx) hn
    · exact h.elim
  · rename_i f args ts hop;rcases h with h|h|h|h
    · obtain ⟨tm1,ob1,h,hs1⟩:=jU h hs;unfold callK at h;split at h
      · rename_i g caps ht;obtain ⟨hcl,r,hc,hk⟩:=h;obtain ⟨hno,hk⟩:=vX hk;refine dQ hs1 hop (fun x _=>hs1.look x) ht hcl hc hno (fun u w' hs' hr=>?_);obtain ⟨tm',h1,h2⟩:=hs'.put hk hr;exact hn _ _ _ _ _ _ h1 h2
      · exact h.elim
    · obtain ⟨F,h⟩:=h;obtain ⟨tm1,ob1,h,hs1⟩:=jU h hs;split at h
      · rename_i g caps ht;obtain ⟨L,as,obc,r,obc',m',hc,he,hl,hd,hk⟩:=h;obtain ⟨cs,hf,hcs⟩:=wL ht (hs1.look f);unfold Oper.wp;rw [uS hop hf hc.1];have hargs:=zX (uN (w:=w) (lk:=look tm1) (xs:=args.toList) (fun x _=>hs1.look x)) hcs;rw [← he] at hargs;refine (dI hs1 hc hargs hl hd).mono ?_
        rintro e w' ⟨u,ρ',rfl,hs2,hr⟩
        obtain ⟨tm',h1,h2⟩:=hs2.put hk hr;exact hn _ _ _ _ _ _ h1 h2
      · exact h.elim
    · unfold callK at h;split at h
      · rename_i g caps ht;obtain ⟨hcl,r,hc,hk⟩:=h;obtain ⟨hno,hk⟩:=vX hk;refine dQ hs hop (fun x _=>hs.look x) ht hcl hc hno (fun u w' hs' hr=>?_);obtain ⟨tm',h1,h2⟩:=hs'.put hk hr;exact hn _ _ _ _ _ _ h1 h2
      · exact h.elim
    · unfold lendX at h;split at h
      · rename_i g caps ht;obtain ⟨L,ps,as,obc,r,obc',m',hc,he,hl,hd,hk⟩:=h;obtain ⟨cs,hf,hcs⟩:=wL ht (hs.look f);unfold Oper.wp;rw [uS hop hf hc.1];have hargs:=cQ (te:=te) (L:=L) hs.obs (zX (uN (w:=w) (lk:=look tm) (xs:=args.toList) (fun x _=>hs.look x)) hcs);rw [← he] at hargs;have hd3 : ndN L = true ∧ no1Ob obc' = true ∧ r.no1 = true:=by
          split at hd
          · rename_i h1 h2 h3;exact ⟨h1,h2,h3⟩
          · cases hd
        refine (lend_gen (Bor ob ρ L) hs hc hargs hl hd3.1 (fun b hb=>hb) (.inr hd3.2) fun j i o hv h1 h2=>by
          have:=bad_ofX (ps:=ps) hl j i o hv h1 (by rw [Nat.zero_add];exact h2)
          rwa [Nat.zero_add] at this).mono ?_
        rintro e w' ⟨u,ρ',rfl,hs2,hr⟩
        obtain ⟨tm',h1,h2⟩:=hs2.put hk hr;exact hn _ _ _ _ _ _ h1 h2
      · exact h.elim
  · exact uY hte h hs hn
  · exact uY hte h hs hn
  · exact uY hte h hs hn
  · exact uY hte h hs hn
  · exact uY hte h hs hn
  · exact uY hte h hs hn
  · exact uY hte h hs hn
  · exact opv_wp hte h hs (fun tm a w hk hs=>hn _ _ _ _ _ _ hk hs)
theorem xV : ∀ {xs : List Operand},vV tm xs → ∀ x ∈ xs,(look tm x).were
  | [],_,_,hx=>by cases hx
  | y :: xs,h,x,hx=>by
    unfold vV at h;split at h
    · rename_i e;rcases List.mem_cons.1 hx with hx|hx
      · subst hx;rw [e];exact h.1
      · exact xV h.2 x hx
    · rename_i hne;rcases List.mem_cons.1 hx with hx|hx
      · subst hx;cases e : look tm x with
        | cond b c=>exact absurd e (hne b c)
        | _=>trivial
      · exact xV h x hx
theorem aopG_sound (hte : TEok P te) {q : Bool} {K : Tm → Prop} (h : aopG P te cx.N o q tm ob K) (hs : StOk cx tm ob nx ρ a w) {next : Act → World → Prop}
    (hn : ∀ tm a w,K tm → StOk cx tm ob nx ρ a w → next a w) : (q = true → o.wp P a w next Q) ∧ (q = false → next (a.put o.dst undef) w):=by
  have skip : ∀ {v : A},put cx.N o.dst (.cond q v) tm K → q = false → next (a.put o.dst undef) w:=by
    intro v hp hq;obtain ⟨tm',h1,h2⟩:=hs.put hp (u:=undef) ⟨fun e=>by (rw [hq] at e;cases e),fun _=>rfl⟩;exact hn _ _ _ h1 h2
  unfold aopG at h;split at h
  · rename_i f args ts hop;split at h
    · rename_i g caps ht;obtain ⟨hcl,r,hc,hp⟩:=h;obtain ⟨hno,hp⟩:=vX hp;refine ⟨fun hq=>?_,skip hp⟩;obtain ⟨hw,hc⟩:=hc hq;refine dQ (lk:=uD tm) hs hop (fun x hx=>A.bare_rep (xV hw x hx) (hs.look x)) ht hcl hc hno (fun u w' hs' hr=>?_);obtain ⟨tm',h1,h2⟩:=hs'.put hp (u:=u) ⟨fun _=>hr,fun e=>by rw [hq] at e;cases e⟩;exact hn _ _ _ h1 h2
    · exact h.elim
  · rename_i c x y hop;have yes : ∀ {v : Vr},v = vPick (uD tm c) (look tm x) (look tm y) → v.obl → vV tm [c] → q = true → put cx.N o.dst (.cond q v.val) tm K → o.wp P a w next Q:=by
      intro v hv ho hw hq hp;subst hv;have hpk:=bA (P:=P) ho (A.bare_rep (xV hw c (by simp)) (hs.look c)) (hs.look x) (hs.look y);obtain ⟨⟨u,w',h1,h2,h3⟩,_⟩:=Yld.of (o:=o) (ev:=a.eval) (by
        unfold execOp;simp only [hop,bind_assoc]
        congr 1
        funext p
        cases p <;> rfl) hpk
      exact wp_yld (v:=.cond q (vPick (uD tm c) (look tm x) (look tm y)).val) hs ⟨u,w',h1,h2,fun _=>h3,fun e=>by rw [hq] at e;cases e⟩ hp hn
    split at h
    · rename_i v e;exact ⟨fun hq=>yes (v:=.ok v) e.symm trivial (h.1 hq) hq h.2,skip h.2⟩
    · rename_i p v e;exact ⟨fun hq=>yes (v:=.need p v) e.symm (h.1 hq).2 (h.1 hq).1 hq h.2,skip h.2⟩
    · exact h.elim
  · have yes : ∀ {v : Vr},v = opv te ob (uD tm) o.op → v.obl → vV tm o.op.operands.toList → q = true → put cx.N o.dst (.cond q v.val) tm K → o.wp P a w next Q:=by
      intro v hv ho hw hq hp;subst hv;obtain ⟨⟨u,w',h1,h2,h3⟩,_⟩:=vN hte ho (fun x hx=>A.bare_rep (xV hw x hx) (hs.look x)) hs.obs;exact wp_yld (v:=.cond q (opv te ob (uD tm) o.op).val) hs ⟨u,w',h1,h2,fun _=>h3,fun e=>by rw [hq] at e;cases e⟩ hp hn
    split at h
    · rename_i v e;exact ⟨fun hq=>yes (v:=.ok v) e.symm trivial (h.1 hq) hq h.2,skip h.2⟩
    · rename_i p v e;exact ⟨fun hq=>yes (v:=.need p v) e.symm (h.1 hq).2 (h.1 hq).1 hq h.2,skip h.2⟩
    · rename_i p v e;exact ⟨fun hq=>yes (v:=.know p v) e.symm trivial (h.1 hq) hq h.2,skip h.2⟩
    · exact h.elim
theorem eV : ∀ {l : List Oper} {j d : Nat},dstAt l j = some d → ∃ o,l[j]? = some o ∧ o.dst = some d
  | [],_,_,h=>by cases h
  | o :: _,0,_,h=>⟨o,rfl,h⟩
  | _ :: r,n + 1,_,h=>by
    obtain ⟨o,h1,h2⟩:=eV (l:=r) h;exact ⟨o,by simpa using h1,h2⟩
theorem fM (hs : StOk cx tm ob nx ρ a w) {j d : Nat} {want b : Bool} (hg : o.guard = some (j,want)) (hd : dstAt ops.toList j = some d) (hlt : Nat.ble (d + 1) cx.N = true) (hb : get tm d = .one (.lit (.bool b))) :
    Region.wanted o (yielded ops a.tmps) = gq want b:=by
  obtain ⟨og,h1,h2⟩:=eV hd;have h1' : ops[j]? = some og:=by simpa using h1
  have hr:=hs.tms d;rw [hb] at hr;have hr : a.tmps.getD d undef = .bool b:=hr;have hlt' : d < a.tmps.size:=by rw [hs.size];exact Nat.lt_of_succ_le (Nat.le_of_ble_eq_true hlt)
  have hv : a.tmps[d]? = some (.bool b):=by
    rw [← hr,Array.getD_eq_getD_getElem?,Array.getElem?_eq_getElem hlt'];rfl
  have hy : yielded ops a.tmps j = some b:=by
    unfold yielded;rw [h1'];simp only [Option.bind_some,h2,hv]
  unfold Region.wanted;rw [hg];simp only [hy];cases want <;> cases b <;> rfl
theorem wanted_at' (hs : StOk cx tm ob nx ρ a w) {j d : Nat} {want b p : Bool} (hg : o.guard = some (j,want)) (hd : dstAt ops.toList j = some d) (hlt : Nat.ble (d + 1) cx.N = true) (hb : get tm d = .cond p (.one (.lit (.bool b)))) :
    Region.wanted o (yielded ops a.tmps) = (p && gq want b):=by
  obtain ⟨og,h1,h2⟩:=eV hd;have h1' : ops[j]? = some og:=by simpa using h1
  have hr:=hs.tms d;rw [hb] at hr;have hlt' : d < a.tmps.size:=by rw [hs.size];exact Nat.lt_of_succ_le (Nat.le_of_ble_eq_true hlt)
  have hv : a.tmps[d]? = some (a.tmps.getD d undef):=by
    rw [Array.getD_eq_getD_getElem?,Array.getElem?_eq_getElem hlt'];rfl
  unfold Region.wanted yielded;rw [hg];simp only [h1',Option.bind_some,h2,hv];cases p with
  | true =>
    rw [show a.tmps.getD d undef = .bool b from hr.1 rfl];cases want <;> cases b <;> rfl
  | false =>
    rw [hr.2 rfl];rfl
theorem aop_plain {o : Oper} {K : Tm → Obs → Nat → Prop} {N nx0 : Nat} (h : aop P te N nx0 o tm ob nx K) : ∀ c,o.op ≠ .defer c:=by
  intro c e;unfold aop at h;rw [e] at h;exact h
theorem aopG_plain {o : Oper} {q : Bool} {K : Tm → Prop} {N : Nat} (h : aopG P te N o q tm ob K) : ∀ c,o.op ≠ .defer c:=by
  intro c e;unfold aopG at h;rw [e] at h;exact h
theorem dS (hs : StOk cx tm ob nx ρ a w) : ∀ {xs : List Operand},(∀ x ∈ xs,(look tm x).were) → StOk cx (cR tm xs) ob nx ρ a w
  | [],_=>hs
  | x :: r,h=>by
    have ih:=dS hs (xs:=r) fun y hy=>h y (List.mem_cons_of_mem _ hy)
    cases x with
    | tmp t =>
      refine ih.act rfl rfl fun i=>?_
      show (get ((t,(get tm t).bare) :: cR tm r) i).rep _ _ _ _;unfold get;simp only;split
      · rename_i e;have e:=Nat.eq_of_beq_eq_true e;subst e;exact A.bare_rep (h (.tmp t) List.mem_cons_self) (hs.tms t)
      · exact ih.tms i
    | const v=>exact ih
    | global g=>exact ih
    | func f=>exact ih
theorem dV (hte : TEok P te) {q : Bool} {K : Tm → Obs → Nat → Prop} (h : aopQ P te cx.N cx.nx0 o q tm ob nx K) (hs : StOk cx tm ob nx ρ a w) {next : Act → World → Prop}
    (hn : ∀ tm ob nx ρ a w,K tm ob nx → StOk cx tm ob nx ρ a w → next a w) : (q = true → o.wp P a w next Q) ∧ (q = false → next (a.put o.dst undef) w):=by
  unfold aopQ at h;split at h
  · rcases h with h|⟨hq,hw,h⟩
    · exact aopG_sound hte h hs fun tm a w hk hs=>hn _ _ _ _ _ _ hk hs
    · exact ⟨fun _=>zY hte h (dS hs (xV hw)) hn,fun e=>by rw [hq] at e;cases e⟩
  · obtain ⟨hq,hw,h⟩:=h;exact ⟨fun _=>zY hte h (dS hs (xV hw)) hn,fun e=>by rw [hq] at e;cases e⟩
  · exact aopG_sound hte h hs fun tm a w hk hs=>hn _ _ _ _ _ _ hk hs
theorem aopQ_plain {o : Oper} {q : Bool} {K : Tm → Obs → Nat → Prop} {N nx0 : Nat} (h : aopQ P te N nx0 o q tm ob nx K) : ∀ c,o.op ≠ .defer c:=by
  unfold aopQ at h;split at h
  · rename_i e;intro c e2;rw [e] at e2;cases e2
  · rename_i e;intro c e2;rw [e] at e2;cases e2
  · exact aopG_plain h
theorem jI {rd : Option Nat} {n : Nat} (hte : TEok P te) (ops : Array Oper) (rest : List Oper) : ∀ (l : List Oper) {tm : Tm} {ob : Obs} {nx : Nat} {K : Tm → Obs → Nat → Prop},awp P te cx.N cx.nx0 ops.toList l tm ob nx K →
    ∀ {ρ : Nat → Option Value} {a : Act} {w : World},StOk cx tm ob nx ρ a w → ∀ {Q : Exit → Act → World → Prop},(∀ tm ob nx ρ a w,K tm ob nx → StOk cx tm ob nx ρ a w → wpListIn (FR rd) n P ops Q rest a w) → wpListIn (FR rd) n P ops Q (l ++ rest) a w
  | [],_,_,_,_,h,_,_,_,hs,_,hQ=>hQ _ _ _ _ _ _ h hs
  | o :: l,tm,ob,nx,K,h,ρ,a,w,hs,Q,hQ=>by
    unfold awp at h;split at h
    · rename_i hg;exact kQ hg (aop_plain h) (zY hte h hs (fun tm ob nx ρ a w hk hs=>jI hte ops rest l hk hs hQ))
    · rename_i j want hg;split at h
      · rename_i d hd;split at h
        · rename_i b hlt hb;have hw:=fM hs hg hd hlt hb;obtain ⟨h1,h2⟩:=dV (Q:=Q) (next:=wpListIn (FR rd) n P ops Q (l ++ rest)) hte h hs (fun tm ob nx ρ a w hk hs=>jI hte ops rest l hk hs hQ);rw [List.cons_append];unfold wpListIn;rw [hw];split
          · rename_i e;exact Oper.lift (aopQ_plain h) (h1 e)
          · rename_i e;exact ⟨fun _ _=>trivial,h2 (by simpa using e)⟩
        · rename_i p b hlt hb;have hw:=wanted_at' hs hg hd hlt hb;obtain ⟨h1,h2⟩:=dV (Q:=Q) (next:=wpListIn (FR rd) n P ops Q (l ++ rest)) hte h hs (fun tm ob nx ρ a w hk hs=>jI hte ops rest l hk hs hQ);rw [List.cons_append];unfold wpListIn;rw [hw];split
          · rename_i e;exact Oper.lift (aopQ_plain h) (h1 e)
          · rename_i e;exact ⟨fun _ _=>trivial,h2 (by simpa using e)⟩
        · exact h.elim
      · exact h.elim
theorem jV {rd : Option Nat} {n : Nat} (hte : TEok P te) (ops : Array Oper) (l : List Oper) {tm : Tm} {ob : Obs} {nx : Nat} {K : Tm → Obs → Nat → Prop} (h : awp P te cx.N cx.nx0 ops.toList l tm ob nx K)
    {ρ : Nat → Option Value} {a : Act} {w : World} (hs : StOk cx tm ob nx ρ a w) {Q : Exit → Act → World → Prop} (hQ : ∀ tm ob nx ρ a w,K tm ob nx → StOk cx tm ob nx ρ a w → Q .normal a w) : wpListIn (FR rd) n P ops Q l a w:=by
  have:=jI (rd:=rd) (n:=n) hte ops [] l h hs (Q:=Q) hQ
  rwa [List.append_nil] at this
end
def stepD (P : Program) (te : List (TypeId × TyI)) (o : Oper) (tm : Tm) (ob : Obs) (K : A → Prop) : Prop :=
  match o.op with
  | .call { callee:=.value f,args,argTypes:=_ }=>callK P te ob (look tm) f args.toList K
  | op=>match opv te ob (look tm) op with
    | .ok v=>K v
    | .need p v=>p ∧ K v
    | .know _ v=>K v
    | .bad=>False
def awpD (P : Program) (te : List (TypeId × TyI)) (N : Nat) (all : List Oper) : List Oper → Tm → Obs → (Tm → Prop) → Prop
  | [],tm,_,K=>K tm
  | o :: rest,tm,ob,K=>match o.guard with
    | none=>stepD P te o tm ob fun v=>put N o.dst v tm fun tm=>awpD P te N all rest tm ob K
    | some (j,want)=>match dstAt all j with
      | some d=>match Nat.ble (d + 1) N,get tm d with
        | true,.one (.lit (.bool b))=>aopG P te N o (gq want b) tm ob fun tm=>awpD P te N all rest tm ob K
        | true,.cond p (.one (.lit (.bool b)))=>aopG P te N o (p && gq want b) tm ob fun tm=>awpD P te N all rest tm ob K
        | _,_=>False
      | none=>False
def putT (d : Option Nat) (v : A) (tm : Tm) : Tm:=match d with
  | none=>tm
  | some d=>(d,v) :: tm
theorem put_putT {N : Nat} {d : Option Nat} {v : A} {tm : Tm} {K : Tm → Prop} (h : put N d v tm K) : K (putT d v tm) ∧ ∀ i,d = some i → i < N:=by
  unfold put at h;cases d with
  | none=>exact ⟨h,fun i hi=>by cases hi⟩
  | some d =>
    simp only at h;split at h
    · rename_i hlt;exact ⟨h,fun i hi=>by cases hi;exact Nat.lt_of_succ_le (Nat.le_of_ble_eq_true hlt)⟩
    · exact h.elim
section
variable (P : Program) (cx : Cx) (ob : Obs) (nx : Nat) (ops : Array Oper) (md : Region.Mode) (tmF : Tm)
def Does (o : Oper) (tm : Tm) (v : A) : Prop :=
  ∀ ρ a w,StOk cx [] ob nx ρ a w → (∀ t ∈ o.looksAt ops,(get tm t).rep (okOf cx ρ ob) ρ w (a.tmps.getD t undef)) → ∀ (K : Act → World → Prop) (Q : Exit → Act → World → Prop),
    (∀ u w',Below w.heap.size w w' → v.rep (okOf cx ρ ob) ρ w' u → K (a.put o.dst u) w') → if Region.wanted o (yielded ops a.tmps) then o.wp P a w K Q else K (a.put o.dst undef) w
def Eqv (tm tm' : Tm) : Prop:=∀ i,get tm i = get tm' i
def qA (i : Nat) (K : Tm → Prop) (tm : Tm) : Prop :=
  match ops[i]? with
  | none=>K tm
  | some o=>∃ v,Does P cx ob nx ops o tm v ∧ (∀ d,o.dst = some d → d < cx.N) ∧ K (putT o.dst v tm)
def anyA : Nat → Array Bool → Tm → Prop
  | 0,listed,tm=>Region.ready md ops listed = [] ∧ Eqv tm tmF
  | fuel + 1,listed,tm=>(Region.ready md ops listed = [] → Eqv tm tmF) ∧ ∀ i ∈ Region.ready md ops listed,qA P cx ob nx ops i (anyA fuel (listed.setIfInBounds i true)) tm
def wpA : List Oper → Tm → Prop
  | [],tm=>Eqv tm tmF
  | o :: l,tm=>∃ v,Does P cx ob nx ops o tm v ∧ (∀ d,o.dst = some d → d < cx.N) ∧ wpA l (putT o.dst v tm)
variable {P cx ob nx ops md tmF}
theorem Does.congr {o : Oper} {tm tm' : Tm} {v : A} (h : Does P cx ob nx ops o tm v) (he : ∀ t ∈ o.looksAt ops,get tm t = get tm' t) : Does P cx ob nx ops o tm' v :=
  fun ρ a w hs hl=>h ρ a w hs fun t ht=>by rw [he t ht];exact hl t ht
theorem kR {d : Option Nat} {v : A} {tm : Tm} {i : Nat} (h : d ≠ some i) : get (putT d v tm) i = get tm i:=by
  cases d with
  | none=>rfl
  | some d =>
    show get ((d,v) :: tm) i = _;unfold get;split
    · rename_i e;have e:=Nat.eq_of_beq_eq_true e;simp only at e;exact absurd (by rw [e]) h
    · cases tm <;> rfl
theorem vC {d : Nat} {v : A} {tm : Tm} : get (putT (some d) v tm) d = v:=by
  show get ((d,v) :: tm) d = v;unfold get;simp
theorem Eqv.put {tm tm' : Tm} (h : Eqv tm tm') (d : Option Nat) (v : A) : Eqv (putT d v tm) (putT d v tm'):=by
  intro i
  by_cases e : d = some i
  · subst e;rw [vC,vC]
  · rw [kR e,kR e];exact h i
theorem Eqv.comm {tm : Tm} {d d' : Option Nat} {v v' : A} (h : ∀ i,d = some i → d' ≠ some i) : Eqv (putT d v (putT d' v' tm)) (putT d' v' (putT d v tm)):=by
  intro i
  by_cases e : d = some i
  · subst e;rw [vC,kR (h i rfl),vC]
  · rw [kR e]
    by_cases e' : d' = some i
    · subst e';rw [vC,vC]
    · rw [kR e',kR e',kR e]
theorem qA_mono {i : Nat} {K K' : Tm → Prop} {tm : Tm} (h : ∀ tm,K tm → K' tm) (hq : qA P cx ob nx ops i K tm) : qA P cx ob nx ops i K' tm:=by
  unfold qA at *;split
  · rename_i e;rw [e] at hq;exact h _ hq
  · rename_i o e;rw [e] at hq;obtain ⟨v,h1,h2,h3⟩:=hq;exact ⟨v,h1,h2,h _ h3⟩
theorem anyA_eqv : ∀ (fuel : Nat) {listed : Array Bool} {tm tm' : Tm},Eqv tm tm' → anyA P cx ob nx ops md tmF fuel listed tm → anyA P cx ob nx ops md tmF fuel listed tm'
  | 0,_,_,_,he,h=>⟨h.1,fun i=>(he i).symm.trans (h.2 i)⟩
  | fuel + 1,listed,tm,tm',he,h=>by
    refine ⟨fun h0 i=>(he i).symm.trans (h.1 h0 i),fun i hi=>?_⟩;have:=h.2 i hi;unfold qA at *;split
    · rename_i e;rw [e] at this;exact anyA_eqv fuel he this
    · rename_i o e;rw [e] at this;obtain ⟨v,h1,h2,h3⟩:=this;exact ⟨v,h1.congr (fun t _=>he t),h2,anyA_eqv fuel (he.put _ _) h3⟩
theorem qA_put {j : Nat} {oi oj : Oper} {v : A} (hj : ops[j]? = some oj) (hap : oi.apart ops oj = true) {K : Tm → Prop} (hK : ∀ tm tm',Eqv tm tm' → K tm → K tm') {tm : Tm} (hy : Does P cx ob nx ops oi tm v)
    (h : qA P cx ob nx ops j K (putT oi.dst v tm)) : qA P cx ob nx ops j (fun tm'=>Does P cx ob nx ops oi tm' v ∧ K (putT oi.dst v tm')) tm:=by
  obtain ⟨h1,h2,h3⟩:=Oper.apart_spec hap;unfold qA at *;rw [hj] at h ⊢;obtain ⟨u,g1,g2,g3⟩:=h;refine ⟨u,g1.congr (fun t ht=>kR (fun e=>h1 t e ht)),g2,hy.congr (fun t ht=>(kR (fun e=>h3 t e ht)).symm),hK _ _ (Eqv.comm fun i e e'=>h2 i e' e) g3⟩
theorem anyA_first {i : Nat} {oi : Oper} {v : A} (hi : ops[i]? = some oi) (hd : ∀ d,oi.dst = some d → d < cx.N) : ∀ (fuel : Nat) (listed : Array Bool) (tm : Tm),
    (∀ j oj,ops[j]? = some oj → j ≠ i → listed.getD j true = false → (∀ e ∈ oj.after,Region.binds md e = true → e.on ≠ i) → oi.apart ops oj = true) →
    i ∈ Region.ready md ops listed → Does P cx ob nx ops oi tm v → anyA P cx ob nx ops md tmF fuel (listed.setIfInBounds i true) (putT oi.dst v tm) → anyA P cx ob nx ops md tmF (fuel + 1) listed tm:=by
  have own : ∀ {K : Tm → Prop} {tm : Tm},Does P cx ob nx ops oi tm v → K (putT oi.dst v tm) → qA P cx ob nx ops i K tm:=by
    intro K tm hy hk;unfold qA;rw [hi];exact ⟨v,hy,hd,hk⟩
  intro fuel
  induction fuel with
  | zero =>
    intro listed tm _ hr hy H;refine ⟨fun h=>(by rw [h] at hr;cases hr),fun j hj=>?_⟩
    by_cases hji : j = i
    · subst hji;exact own hy H
    · have:=ready_mono hj hji;rw [H.1] at this;cases this
  | succ fuel ih =>
    intro listed tm hfree hr hy H;refine ⟨fun h=>(by rw [h] at hr;cases hr),fun j hj=>?_⟩
    by_cases hji : j = i
    · subst hji;exact own hy H
    · have h1:=H.2 j (ready_mono hj hji);obtain ⟨hjun,oj,hoj,hall⟩:=mem_ready.1 hj;have hnot : ∀ e ∈ oj.after,Region.binds md e = true → e.on ≠ i:=fun e he hb heq=>by
        have h1:=hall e he hb;have h0:=(mem_ready.1 hr).1;rw [heq] at h1;rcases Nat.lt_or_ge i listed.size with h'|h'
        · simp [h'] at h0 h1;rw [h0] at h1;cases h1
        · simp [Array.getElem?_eq_none h'] at h1
      have h2:=qA_put hoj (hfree j oj hoj hji hjun hnot) (fun tm tm' he hk=>anyA_eqv fuel he hk) hy h1;have hfree' : ∀ k ok,ops[k]? = some ok → k ≠ i → (listed.setIfInBounds j true).getD k true = false →
          (∀ e ∈ ok.after,Region.binds md e = true → e.on ≠ i) → oi.apart ops ok = true:=fun k ok hk hki hun hno=>by
        refine hfree k ok hk hki ?_ hno
        by_cases hjk : j = k
        · subst hjk;exact hjun
        · rw [getD_set_ne true hjk] at hun;exact hun
      refine qA_mono (fun tm' h3=>ih (listed.setIfInBounds j true) tm' hfree' (ready_mono hr (Ne.symm hji)) h3.1 ?_) h2;rw [Array.setIfInBounds_comm _ _ hji];exact h3.2
theorem anyA_lex : ∀ (l : List Oper) (k : Nat) (listed : Array Bool) (tm : Tm),(∀ j : Nat,l[j]? = ops[k + j]?) → Region.lexFrom md ops l.length k listed = true → wpA P cx ob nx ops tmF l tm → anyA P cx ob nx ops md tmF l.length listed tm
  | [],_,_,_,_,hB,h=>⟨by simpa [Region.lexFrom] using hB,h⟩
  | o :: l,k,listed,tm,hl,hB,h=>by
    have h0 : ops[k]? = some o:=by simpa using (hl 0).symm
    simp only [List.length_cons,Region.lexFrom,Bool.and_eq_true] at hB;obtain ⟨⟨hr,hf⟩,hB'⟩:=hB;obtain ⟨v,hy,hd,hK⟩:=h;exact anyA_first h0 hd l.length listed tm (Region.free_spec h0 hf) (by simpa using hr) hy
      (anyA_lex l (k + 1) _ _ (fun j=>by have:=hl (j + 1);simpa [Nat.add_assoc,Nat.add_comm 1 j] using this) hB' hK)
theorem StOk.putT' {tm : Tm} {ρ : Nat → Option Value} {a : Act} {w w' : World} (hs : StOk cx tm ob nx ρ a w) (hb : Below w.heap.size w w') {d : Option Nat} (hd : ∀ i,d = some i → i < cx.N) {v : A} {u : Value} (hr : v.rep (okOf cx ρ ob) ρ w' u) :
    StOk cx (putT d v tm) ob nx ρ (a.put d u) w':=by
  have hs':=hs.below hb;cases d with
  | none=>exact hs'
  | some d =>
    have hp : Ab.put cx.N (some d) v tm (fun tm'=>tm' = (d,v) :: tm):=by
      unfold Ab.put;simp only;have : Nat.ble (d + 1) cx.N = true:=Nat.ble_eq_true_of_le (hd d rfl);rw [this];trivial
    obtain ⟨tm',h1,h2⟩:=hs'.put hp hr;subst h1;exact h2
theorem anyA_any {Q : Exit → Act → World → Prop} (hQ : ∀ ρ a w,StOk cx tmF ob nx ρ a w → Q .normal a w) : ∀ (fuel : Nat) (listed : Array Bool) (tm : Tm) (ρ : Nat → Option Value) (a : Act) (w : World),anyA P cx ob nx ops md tmF fuel listed tm → StOk cx tm ob nx ρ a w →
    wpAny P md ops Q fuel listed a w:=by
  have fin : ∀ {tm : Tm} {ρ : Nat → Option Value} {a : Act} {w : World},Eqv tm tmF → StOk cx tm ob nx ρ a w → Q .normal a w:=fun he hs=>hQ _ _ _ (hs.act rfl rfl fun i=>by rw [← he i];exact hs.tms i)
  intro fuel
  induction fuel with
  | zero=>intro listed tm ρ a w h hs;exact ⟨h.1,fin h.2 hs⟩
  | succ fuel ih =>
    intro listed tm ρ a w h hs;refine ⟨fun h0=>fin (h.1 h0) hs,fun i hi=>?_⟩;have:=h.2 i hi;unfold qA at this;unfold wpOp;split
    · rename_i e;rw [e] at this;exact ih _ _ ρ a w this hs
    · rename_i o e;rw [e] at this;obtain ⟨v,h1,h2,h3⟩:=this;have h4:=h1 ρ a w (hs.act rfl rfl fun i=>trivial) (fun t _=>hs.tms t) (wpAny P md ops Q fuel (listed.setIfInBounds i true)) Q (fun u w' hb hr=>ih _ _ ρ _ w' h3 (hs.putT' hb h2 hr));split
      · rename_i hw;rw [if_pos hw] at h4;exact .inl h4
      · rename_i hw;rw [if_neg hw] at h4;exact h4
theorem looks_op {o : Oper} {tm : Tm} {ρ : Nat → Option Value} {a : Act} {w : World} (hl : ∀ t ∈ o.looksAt ops,(get tm t).rep (okOf cx ρ ob) ρ w (a.tmps.getD t undef)) : ∀ x ∈ o.op.operands.toList,(look tm x).rep (okOf cx ρ ob) ρ w (a.eval x):=by
  intro x hx;cases x with
  | tmp t=>exact hl t (by
      unfold Oper.looksAt;exact List.mem_append_left _ (List.mem_filterMap.2 ⟨.tmp t,hx,rfl⟩))
  | const v=>rfl
  | global g=>rfl
  | func f=>rfl
theorem does_of {o : Oper} {tm : Tm} {v : A} (hg : o.guard = none) (h : ∀ ρ a w,StOk cx [] ob nx ρ a w → (∀ x ∈ o.op.operands.toList,(look tm x).rep (okOf cx ρ ob) ρ w (a.eval x)) → ∀ (K : Act → World → Prop) (Q : Exit → Act → World → Prop),
    (∀ u w',Below w.heap.size w w' → v.rep (okOf cx ρ ob) ρ w' u → K (a.put o.dst u) w') → o.wp P a w K Q) : Does P cx ob nx ops o tm v:=by
  intro ρ a w hs hl K Q hK;rw [if_pos (by simp [Region.wanted,hg])];exact h ρ a w hs (looks_op hl) K Q hK
theorem yld_wp {o : Oper} {v : A} {ρ : Nat → Option Value} {a : Act} {w : World} (hs : StOk cx [] ob nx ρ a w) (hy : Yld P o a.eval (okOf cx ρ ob) ρ w v) {K : Act → World → Prop} {Q : Exit → Act → World → Prop}
    (hK : ∀ u w',Below w.heap.size w w' → v.rep (okOf cx ρ ob) ρ w' u → K (a.put o.dst u) w') : o.wp P a w K Q:=by
  obtain ⟨u,w',h1,h2,h3⟩:=hy;exact jQ h1 (hK u w' h2 (vG hs h2 h3))
theorem call_wp {te : List (TypeId × TyI)} {o : Oper} {f : Operand} {args : Array Operand} {ts : Array TypeId} {g : FuncId} {caps : List A} {r : A} {lk : Operand → A} {ρ : Nat → Option Value} {a : Act} {w : World} (hs : StOk cx [] ob nx ρ a w) (hop : o.op = .call { callee:=.value f,args:=args,argTypes:=ts })
    (hlk : ∀ x ∈ f :: args.toList,(lk x).rep (okOf cx ρ ob) ρ w (a.eval x)) (ht : tgt (lk f) = some (g,caps)) (hcl : kH (zU te ob [] (appA (mapL lk args.toList) caps)) = true) (hc : qX P g (zU te ob [] (appA (mapL lk args.toList) caps)) r) (hno : kH (appA (mapL lk args.toList) caps) = true ∨ r.no1 = true)
    {K : Act → World → Prop} {Q : Exit → Act → World → Prop} (hK : ∀ u w',Below w.heap.size w w' → r.rep (okOf cx ρ ob) ρ w' u → K (a.put o.dst u) w') : o.wp P a w K Q:=by
  obtain ⟨cs,hf,hcs⟩:=wL ht (hlk f (by simp));obtain ⟨hfn,hcall⟩:=hc;unfold Oper.wp;rw [uS hop hf hfn];have hargs:=zX (uN (w:=w) (lk:=lk) (xs:=args.toList) (fun x hx=>hlk x (by simp [hx]))) hcs;rcases hno with hno|hno
  · rw [aQ hno] at hcall;refine (hcall (okOf cx ρ ob) w _ hs.globAt (kS hno hargs)).mono ?_
    rintro e w' ⟨u,rfl,hb,hr⟩
    exact hK u w' hb (vG hs hb (A.names jS hr))
  have hbk : Back (grow (vM (okOf cx ρ ob) (Bor ob ρ [])) w) (grow (okOf cx ρ ob) w):=fun k b hk h=>h.imp (fun h=>h.elim id fun h=>absurd h.1 hk) id
  refine (hcall (vM (okOf cx ρ ob) (Bor ob ρ [])) w _ ⟨fun g hg=>.inl (hs.globAt.1 g hg),hs.globAt.2⟩ (kS hcl (cQ hs.obs hargs))).mono ?_
  rintro e w' ⟨u,rfl,hb,hr⟩
  exact hK u w' hb (vG hs hb (A.names jS (A.back hbk hno hr)))
theorem ops_call {o : Oper} {f : Operand} {args : Array Operand} {ts : Array TypeId} (hop : o.op = .call { callee:=.value f,args:=args,argTypes:=ts }) : o.op.operands.toList = f :: args.toList:=by
  rw [hop];simp [Op.operands,Call.operands]
theorem stepD_sound {te : List (TypeId × TyI)} (hte : TEok P te) {o : Oper} (hg : o.guard = none) {tm : Tm} {K : A → Prop} (h : stepD P te o tm ob K) : ∃ v,K v ∧ Does P cx ob nx ops o tm v:=by
  have pv : (opv te ob (look tm) o.op).obl → Does P cx ob nx ops o tm (opv te ob (look tm) o.op).val:=fun ho =>
    does_of hg fun ρ a w hs hl K Q hK=>yld_wp hs (vN hte ho hl hs.obs).1 hK
  unfold stepD at h;split at h
  · rename_i f args ts hop;unfold callK at h;split at h
    · rename_i g caps ht;obtain ⟨hcl,r,hc,hk⟩:=h;obtain ⟨hno,hk⟩:=vX hk;exact ⟨r,hk,does_of hg fun ρ a w hs hl K Q hK=>call_wp hs hop (by rw [← ops_call hop];exact hl) ht hcl hc hno hK⟩
    · exact h.elim
  · split at h
    · rename_i v e;rw [e] at pv;exact ⟨v,h,pv trivial⟩
    · rename_i p v e;rw [e] at pv;exact ⟨v,h.2,pv h.1⟩
    · rename_i p v e;rw [e] at pv;exact ⟨v,h,pv trivial⟩
    · exact h.elim
theorem dM {o : Oper} {tm : Tm} {v : A} {q : Bool} (hw : ∀ ρ a w,StOk cx [] ob nx ρ a w → (∀ t ∈ o.looksAt ops,(get tm t).rep (okOf cx ρ ob) ρ w (a.tmps.getD t undef)) → Region.wanted o (yielded ops a.tmps) = q)
    (h : q = true → ∀ ρ a w,StOk cx [] ob nx ρ a w → (∀ x ∈ o.op.operands.toList,(look tm x).rep (okOf cx ρ ob) ρ w (a.eval x)) → ∀ (K : Act → World → Prop) (Q : Exit → Act → World → Prop),
      (∀ u w',Below w.heap.size w w' → v.rep (okOf cx ρ ob) ρ w' u → K (a.put o.dst u) w') → o.wp P a w K Q) : Does P cx ob nx ops o tm (.cond q v):=by
  intro ρ a w hs hl K Q hK;rw [hw ρ a w hs hl];split
  · rename_i hq;exact h hq ρ a w hs (looks_op hl) K Q fun u w' hb hr=>hK u w' hb ⟨fun _=>hr,fun e=>by rw [hq] at e;cases e⟩
  · rename_i hq;exact hK undef w (Below.refl _ _) ⟨fun e=>absurd e hq,fun _=>rfl⟩
theorem guardD {o : Oper} {tm : Tm} {j d : Nat} {want : Bool} (hg : o.guard = some (j,want)) (hd : dstAt ops.toList j = some d) (hlt : Nat.ble (d + 1) cx.N = true) {q : Bool}
    (hb : (∃ b,get tm d = .one (.lit (.bool b)) ∧ q = gq want b) ∨ ∃ p b,get tm d = .cond p (.one (.lit (.bool b))) ∧ q = (p && gq want b)) :
    ∀ ρ a w,StOk cx [] ob nx ρ a w → (∀ t ∈ o.looksAt ops,(get tm t).rep (okOf cx ρ ob) ρ w (a.tmps.getD t undef)) → Region.wanted o (yielded ops a.tmps) = q:=by
  intro ρ a w hs hl;obtain ⟨og,h1,h2⟩:=eV hd;have h1' : ops[j]? = some og:=by simpa using h1
  have hmem : d ∈ o.looksAt ops:=by
    unfold Oper.looksAt;rw [hg];simp [h1',h2]
  have hr:=hl d hmem;have hlt' : d < a.tmps.size:=by rw [hs.size];exact Nat.lt_of_succ_le (Nat.le_of_ble_eq_true hlt)
  have hv : a.tmps[d]? = some (a.tmps.getD d undef):=by
    rw [Array.getD_eq_getD_getElem?,Array.getElem?_eq_getElem hlt'];rfl
  unfold Region.wanted yielded;rw [hg];simp only [h1',Option.bind_some,h2,hv];rcases hb with ⟨b,e1,e2⟩|⟨p,b,e1,e2⟩
  · rw [e1] at hr;rw [show a.tmps.getD d undef = .bool b from hr,e2];cases want <;> cases b <;> rfl
  · rw [e1] at hr;cases p with
    | true =>
      rw [show a.tmps.getD d undef = .bool b from hr.1 rfl,e2];cases want <;> cases b <;> rfl
    | false =>
      rw [hr.2 rfl,e2];rfl
theorem aopG_does {te : List (TypeId × TyI)} (hte : TEok P te) {o : Oper} {tm : Tm} {q : Bool} {K : Tm → Prop} (h : aopG P te cx.N o q tm ob K)
    (hw : ∀ ρ a w,StOk cx [] ob nx ρ a w → (∀ t ∈ o.looksAt ops,(get tm t).rep (okOf cx ρ ob) ρ w (a.tmps.getD t undef)) → Region.wanted o (yielded ops a.tmps) = q) :
    ∃ v,Does P cx ob nx ops o tm v ∧ put cx.N o.dst v tm K:=by
  unfold aopG at h;split at h
  · rename_i f args ts hop;split at h
    · rename_i g caps ht;obtain ⟨hcl,r,hc,hp⟩:=h;obtain ⟨hno,hp⟩:=vX hp;refine ⟨_,dM hw fun hq ρ a w hs hl K Q hK=>?_,hp⟩;obtain ⟨hwr,hc⟩:=hc hq;rw [ops_call hop] at hl;exact call_wp (lk:=uD tm) hs hop (fun x hx=>A.bare_rep (xV hwr x hx) (hl x hx)) ht hcl hc hno hK
    · exact h.elim
  · rename_i c x y hop;have yes : ∀ {v : Vr},v = vPick (uD tm c) (look tm x) (look tm y) → (q = true → v.obl ∧ vV tm [c]) → Does P cx ob nx ops o tm (.cond q v.val):=by
      intro v hv ho;subst hv;refine dM hw fun hq ρ a w hs hl K Q hK=>?_
      have hops : o.op.operands.toList = [c,x,y]:=by rw [hop];simp [Op.operands]
      rw [hops] at hl;have hpk:=bA (P:=P) (ho hq).1 (A.bare_rep (xV (ho hq).2 c (by simp)) (hl c (by simp))) (hl x (by simp)) (hl y (by simp));refine yld_wp hs (Yld.of (o:=o) (ev:=a.eval) ?_ hpk).1 hK;unfold execOp;simp only [hop,bind_assoc]
      congr 1
      funext p
      cases p <;> rfl
    split at h
    · rename_i v e;exact ⟨_,yes (v:=.ok v) e.symm (fun hq=>⟨trivial,h.1 hq⟩),h.2⟩
    · rename_i p v e;exact ⟨_,yes (v:=.need p v) e.symm (fun hq=>⟨(h.1 hq).2,(h.1 hq).1⟩),h.2⟩
    · exact h.elim
  · have yes : ∀ {v : Vr},v = opv te ob (uD tm) o.op → (q = true → v.obl ∧ vV tm o.op.operands.toList) → Does P cx ob nx ops o tm (.cond q v.val):=by
      intro v hv ho;subst hv;exact dM hw fun hq ρ a w hs hl K Q hK=>yld_wp hs (vN hte (ho hq).1 (fun x hx=>A.bare_rep (xV (ho hq).2 x hx) (hl x hx)) hs.obs).1 hK
    split at h
    · rename_i v e;exact ⟨_,yes (v:=.ok v) e.symm (fun hq=>⟨trivial,h.1 hq⟩),h.2⟩
    · rename_i p v e;exact ⟨_,yes (v:=.need p v) e.symm (fun hq=>⟨(h.1 hq).2,(h.1 hq).1⟩),h.2⟩
    · rename_i p v e;exact ⟨_,yes (v:=.know p v) e.symm (fun hq=>⟨trivial,h.1 hq⟩),h.2⟩
    · exact h.elim
theorem awpD_sound {te : List (TypeId × TyI)} (hte : TEok P te) {K : Tm → Prop} : ∀ (l : List Oper) {tm : Tm},awpD P te cx.N ops.toList l tm ob K → ∃ tmF,K tmF ∧ wpA P cx ob nx ops tmF l tm
  | [],tm,h=>⟨tm,h,fun _=>rfl⟩
  | o :: l,tm,h=>by
    have step : ∀ {v : A},Does P cx ob nx ops o tm v → put cx.N o.dst v tm (fun tm=>awpD P te cx.N ops.toList l tm ob K) → ∃ tmF,K tmF ∧ wpA P cx ob nx ops tmF (o :: l) tm:=by
      intro v hd hp;obtain ⟨h1,h2⟩:=put_putT hp;obtain ⟨tmF,h3,h4⟩:=awpD_sound hte l h1;exact ⟨tmF,h3,v,hd,h2,h4⟩
    unfold awpD at h;split at h
    · rename_i hg;obtain ⟨v,hk,hd⟩:=stepD_sound (cx:=cx) (nx:=nx) (ops:=ops) hte hg h;exact step hd hk
    · rename_i j want hg;split at h
      · rename_i d hd;split at h
        · rename_i b hlt hb;obtain ⟨v,h1,h2⟩:=aopG_does (nx:=nx) (ops:=ops) hte h (guardD hg hd hlt (.inl ⟨b,hb,rfl⟩));exact step h1 h2
        · rename_i p b hlt hb;obtain ⟨v,h1,h2⟩:=aopG_does (nx:=nx) (ops:=ops) hte h (guardD hg hd hlt (.inr ⟨p,b,hb,rfl⟩));exact step h1 h2
        · exact h.elim
      · exact h.elim
theorem region_draw {te : List (TypeId × TyI)} (hte : TEok P te) {id : Nat} (hm : P.follows .mixedOrders = true) (hB : (Region.lexB .any ops && vT ops.toList) = true) {K : Tm → Prop} {tm : Tm} (h : awpD P te cx.N ops.toList ops.toList tm ob K) {ρ : Nat → Option Value} {a : Act} {w : World} (hs : StOk cx tm ob nx ρ a w)
    {Q : Exit → Act → World → Prop} {rd : Option Nat} {n : Nat} (hQ : ∀ tm ρ a w,K tm → StOk cx tm ob nx ρ a w → Q .normal a w) : (Code.region id ops true).wpIn (FR rd) n P Q a w:=by
  rw [Bool.and_eq_true] at hB;obtain ⟨hB,hN⟩:=hB;obtain ⟨tmF,h1,h2⟩:=awpD_sound (cx:=cx) (nx:=nx) (ops:=ops) hte ops.toList h;simp only [Region.lexB,Bool.and_eq_true] at hB;have h3:=anyA_lex (md:=.any) ops.toList 0 (Array.replicate ops.size false) tm (by simp) (by simpa using hB.2) h2;rw [Array.length_toList] at h3;have hs' : StOk cx tm ob nx ρ a { w with drawn:=w.drawn + 1 }:=hs.below ⟨rfl,rfl,rfl,Nat.le_refl _,fun _ _=>rfl⟩;refine wpIn_mono (region_fr (Q:=fun e a w=>e = .normal ∧ Q .normal a w) hm hN (fun ⟨_,_,h,_⟩=>by cases h) (anyA_any (fun ρ a w hs=>⟨rfl,hQ tmF ρ a w h1 hs⟩) _ _ tm ρ a _ h3 hs')) ?_
  rintro e a w ⟨rfl,h⟩
  exact h
end
def jK (w : World) (b : Nat) : Prop:=∃ o,w.heap[b]? = some o ∧ ¬ Obj.noCells o
theorem jK.of {w : World} {b : Nat} (h : ∃ cs T f,w.heap[b]? = some (.cells cs T f)) : jK w b:=by
  obtain ⟨cs,T,f,h⟩:=h;exact ⟨_,h,fun hn=>hn.1 _ _ _ rfl⟩
theorem jK.not {w : World} {b : Nat} {o : Obj} (h : w.heap[b]? = some o) (hn : Obj.noCells o) : ¬ jK w b:=fun ⟨o',e,k⟩=>by
  rw [h] at e;cases e;exact k hn
theorem jB {q : Loop} : Obj.noCells (.loop q):=⟨fun _ _ _ e=>(by cases e),fun _ _ e=>(by cases e)⟩
theorem aH {q : Option (List Deferred)} : Obj.noCells (.deferred q):=⟨fun _ _ _ e=>(by cases e),fun _ _ e=>(by cases e)⟩
def okc (ok : Oks) (w : World) : Oks:=fun k b=>ok k b ∧ jK w b
section
variable {ok : Oks} {ρ : Nat → Option Value} {w : World}
theorem fG {b off n : Nat} {cs : List Value} (h : xT w b off n cs) (hn : 0 < n) : jK w b:=by
  have h1:=h.2 0 hn;have h2 : 0 < cs.length:=by rw [h.1];exact hn
  rw [List.getElem?_eq_getElem h2] at h1;unfold World.cell? at h1;cases ho : w.heap[b]? with
  | none=>simp [ho] at h1
  | some o=>cases o <;> simp [ho] at h1;exact jK.of ⟨_,_,_,ho⟩
theorem SlOk.cells {q : Nat} {α : Type} {n : Nat} (hn : 0 < n) {Pr Pr' : List Value → α → Prop} {v : Value} {xs : List α} (hp : ∀ cs x,Pr cs x → Pr' cs x) (h : SlOk n Pr (okU ok w q) w v xs) : SlOk n Pr' (okU (okc ok w) w q) w v xs:=by
  obtain ⟨a,cap,hv,h1,h2,hc⟩:=h;refine ⟨a,cap,hv,h1,h2,fun i hi=>?_⟩;obtain ⟨b,off,cs,ha,hb,hlt,hcell,hr⟩:=hc i hi;exact ⟨b,off,cs,ha,⟨⟨hb.1,fG hcell hn⟩,hb.2⟩,hlt,hcell,hp _ _ hr⟩
theorem Rd.cells : ∀ {α : Type} (R : Rd α) {cs : List Value} {x : α},R.is ok w cs x → R.is (okc ok w) w cs x
  | _,.str,_,_,h=>h
  | _,.int _,_,_,h=>h
  | _,.bool,_,_,h=>h
  | _,.raw,_,_,h=>h
  | _,.unk,_,_,h=>h
  | _,.slk _ R,_,_,h=>by
    obtain ⟨v,e,h⟩:=h;exact ⟨v,e,SlOk.cells R.n_pos (fun _ _ h=>Rd.cells R h) h⟩
  | _,.ptk _ R,_,_,h=>by
    obtain ⟨b,off,ds,e,hb,hlt,hc,hr⟩:=h;exact ⟨b,off,ds,e,⟨⟨hb.1,fG hc R.n_pos⟩,hb.2⟩,hlt,hc,Rd.cells R hr⟩
  | _,.ifc _ R,_,_,h=>by
    obtain ⟨u,e,h⟩:=h;exact ⟨u,e,Rd.cells R h⟩
  | _,.st R S,_,_,h=>by
    obtain ⟨c,d,e,h1,h2⟩:=h;exact ⟨c,d,e,Rd.cells R h1,Rd.cells S h2⟩
theorem C.cells : ∀ {c : C} {v : Value},c.rep ok ρ w v → c.rep (okc ok w) ρ w v
  | .any,_,_=>trivial
  | .lit _,_,h=>h
  | .slk _ R _,_,h=>SlOk.cells R.n_pos (fun _ _ h=>Rd.cells R h) h
  | .full R _,_,h=>⟨SlOk.cells R.n_pos (fun _ _ h=>Rd.cells R h) h.1,h.2⟩
  | .adk _ R _,_,h=>by
    obtain ⟨b,off,cs,hv,hb,hlt,hc,hr⟩:=h;exact ⟨b,off,cs,hv,⟨⟨hb.1,fG hc R.n_pos⟩,hb.2⟩,hlt,hc,Rd.cells R hr⟩
  | .own _ _,_,h=>h
  | .vec _,_,h=>h
  | .vel _ _ _,_,h=>h
  | .ifc _ c,_,h=>by
    obtain ⟨u,hv,h⟩:=h;exact ⟨u,hv,C.cells (c:=c) h⟩
  | .clo _ c,_,h=>by
    obtain ⟨u,hv,h⟩:=h;exact ⟨u,hv,C.cells (c:=c) h⟩
  | .clo2 _ c d,_,h=>by
    obtain ⟨u,x,hv,h,h'⟩:=h;exact ⟨u,x,hv,C.cells (c:=c) h,C.cells (c:=d) h'⟩
  | .clo3 _ c d e,_,h=>by
    obtain ⟨u,x,y,hv,h,h',h''⟩:=h;exact ⟨u,x,y,hv,C.cells (c:=c) h,C.cells (c:=d) h',C.cells (c:=e) h''⟩
  | .ref c,_,h=>by
    obtain ⟨b,off,u,hv,hb,hlt,hc,hr⟩:=h;exact ⟨b,off,u,hv,⟨hb,fG hc Nat.one_pos⟩,hlt,hc,C.cells (c:=c) hr⟩
  | .nself _ _,_,h=>h
  | .fx _ _,_,h=>h
  | .vof _ _ _ _,_,h=>h
  | .mp _,_,h=>h
theorem repL.cells : ∀ {cs : List C} {vs : List Value},repL ok ρ w cs vs → repL (okc ok w) ρ w cs vs
  | [],_,h=>h
  | _ :: _,_,h=>by
    obtain ⟨v,r,e,h1,h2⟩:=h;exact ⟨v,r,e,C.cells h1,repL.cells h2⟩
theorem repV.cells : ∀ {g : Bool} {cs : List C} {v : Value},repV ok ρ w g cs v → repV (okc ok w) ρ w g cs v
  | true,_,_,h=>by obtain ⟨vs,e,h⟩:=h;exact ⟨vs,e,h.cells⟩
  | false,_,_,h=>repL.cells h
theorem repT.cells : ∀ {cs : List (Bool × List C)} {vs : List Value},repT ok ρ w cs vs → repT (okc ok w) ρ w cs vs
  | [],_,h=>h
  | _ :: _,_,h=>by
    obtain ⟨v,r,e,h1,h2⟩:=h;exact ⟨v,r,e,h1.cells,repT.cells h2⟩
theorem A.cells : ∀ {a : A} {v : Value},a.rep ok ρ w v → a.rep (okc ok w) ρ w v
  | .one c,_,h=>C.cells (c:=c) h
  | .agg _,_,h=>repV.cells h
  | .tup _,_,h=>by obtain ⟨vs,e,h⟩:=h;exact ⟨vs,e,h.cells⟩
  | .cond _ a,_,h=>⟨fun hb=>A.cells (a:=a) (h.1 hb),h.2⟩
theorem Ob.okcells {id : Nat} {o : Ob} (h : o.is ok ρ w id) : o.is (okc ok w) ρ w id:=by
  cases o with
  | box T cs =>
    obtain ⟨b,vs,h1,h2,h3⟩:=h;exact ⟨b,vs,h1,h2,h3.cells⟩
  | vec E R xs =>
    obtain ⟨v,hv,css,h1,h2,h3⟩:=h;exact ⟨v,hv,css,h1,fun i hi=>Rd.cells R (h2 i hi),h3⟩
  | map g R es =>
    obtain ⟨r,h1,h2⟩:=h;exact ⟨r,h1,h2.imp rfl fun _ _ h=>Rd.cells R h⟩
end
section
variable {P : Program} {cx : Cx} {tm : Tm} {ob : Obs} {nx : Nat} {ρ : Nat → Option Value} {a : Act} {w : World}
theorem StOk.poke (h : StOk cx tm ob nx ρ a w) {b : Nat} {o : Obj} (hn : ¬ jK w b) (hlow : cx.w0.heap.size ≤ b) {ds : List Deferred} (hd : uL cx ds (w.putObj b o)) : StOk cx tm ob nx ρ ⟨a.tmps,ds⟩ (w.putObj b o):=by
  have hk : xI (okc (okOf cx ρ ob) w) (okOf cx ρ ob) w (w.putObj b o):=fun _ c hc _=>⟨hc.1,World.putObj_heap_other (fun e=>hn (e ▸ hc.2))⟩
  refine ⟨h.size,hd,fun i=>A.kept hk (A.cells (h.tms i)),fun p hp=>Ob.kept hk (fun c hc=>World.putObj_heap_other (fun e=>hn (e ▸ Ob.cells (h.obs p hp) hc))) (Ob.okcells (h.obs p hp)),h.nd,h.fresh,h.names,h.nx0,h.sep,
    fun p hp c hc=>⟨by rw [World.putObj_size];exact (h.low p hp c hc).1,(h.low p hp c hc).2⟩,⟨h.keep.os,h.keep.tape,h.keep.output,by rw [World.putObj_size];exact h.keep.size,fun c hc ho=>?_,fun c hcg=>(h.keep.shape c hcg).trans (.rfl' (World.putObj_heap_other (by have:=(h.bags c hcg).1;omega)))⟩,h.disj,h.pin,h.glob,h.bags⟩
  rw [World.putObj_heap_other (by omega)];exact h.keep.block c hc ho
theorem Defs.putObj {M : Nat → Prop} {b : Nat} {o : Obj} : ∀ {ds : List Deferred},(∀ e ∈ ds,e ≠ { target:=.collected b,args:=#[] }) → Defs M ds w → Defs M ds (w.putObj b o)
  | [],_,_=>trivial
  | d :: ds,hne,h=>by
    obtain ⟨⟨c,h1,h2,h3,h4⟩,h5⟩:=h;refine ⟨⟨c,h1,h2,?_,h4⟩,Defs.putObj (fun e he=>hne e (by simp [he])) h5⟩;rw [World.putObj_heap_other (fun e=>hne d (by simp) (by rw [h1,e]))];exact h3
theorem StOk.unwind {fn : Func} {R : Ending → World → Prop} {n : Nat} (h : StOk cx tm ob nx ρ a w) (hfr : cx.fr = true) (hh : cx.hids = []) (hK : ∀ w2,StOk cx tm ob nx ρ ⟨a.tmps,[]⟩ w2 → ∃ v,(results fn a.tmps).run P w2 = .ok v w2 ∧ R (.returned v) w2) :
    LeavesInM (FR none) n P fn a.tmps R a.defers .returning w:=by
  obtain ⟨tmps,ds⟩:=a;simp only at hK ⊢
  induction ds generalizing w with
  | nil=>exact hK w h
  | cons d ds ih =>
    obtain ⟨⟨b,h1,h2,h3,h4⟩,h5⟩:=h.defers.1.1 hfr;refine ⟨by simp,.inl ⟨b,_,by rw [h1],run_takeDeferred h3,ih ?_⟩⟩;exact h.poke (jK.not h3 aH) (h2.elim id fun hx=>by rw [hh] at hx;cases hx) ⟨⟨fun _=>h5.putObj (fun e he=>h1 ▸ h4 e he),fun e=>by rw [hfr] at e;cases e⟩,by rw [hh];exact fun q hq=>by cases hq⟩
end
def AQ:=Exit → Tm → Obs → Nat → Prop
def rngs : Code → Bool
  | .seq a b=>rngs a || rngs b
  | .cond _ a b=>rngs a || rngs b
  | .block _ c=>rngs c
  | .loop c=>rngs c
  | .scope c=>rngs c
  | .rangeFunc _ _ _ _=>true
  | _=>false
def NoR (rd : Option Nat) (cx : Cx) (c : Code) : Prop:=(1000000 ≤ cx.nx0 → cx.flag) ∧ ((rd = none ∧ cx.fr = true ∧ cx.hids = []) ∨ rngs c = false)
theorem eP {rd : Option Nat} {cx : Cx} {c : Code} (h : Nat.ble 1000000 cx.nx0 = false) (hr : rngs c = false) : NoR rd cx c:=⟨fun e=>(by rw [Nat.ble_eq_true_of_le e] at h;cases h),.inr hr⟩
theorem eQ {c : Code} {cx : Cx} (h : cx.fr = true) (h2 : cx.hids = []) (h3 : ¬ 1000000 ≤ cx.nx0) : NoR none cx c:=⟨fun e=>absurd e h3,.inl ⟨rfl,h,h2⟩⟩
theorem NoR.mono {rd : Option Nat} {cx : Cx} {c c' : Code} (h : NoR rd cx c) (hc : rngs c = false → rngs c' = false) : NoR rd cx c':=⟨h.1,h.2.imp id hc⟩
def qZ (P : Program) (te : List (TypeId × TyI)) (N nx0 : Nat) (c : Code) (tm : Tm) (ob : Obs) (nx : Nat) (Q : AQ) : Prop :=
  TEok P te → ∀ (rd : Option Nat) (n : Nat) (cx : Cx),NoR rd cx c → cx.N = N → cx.nx0 = nx0 → ∀ ρ a w,StOk cx tm ob nx ρ a w → c.wpIn (FR rd) n P (fun e a' w'=>∃ tm' ob' nx' ρ',Q e tm' ob' nx' ∧ StOk cx tm' ob' nx' ρ' a' w') a w
def jX (K : Tm → Obs → Nat → Prop) (Q : AQ) : AQ:=fun e tm ob nx=>match e with
  | .normal=>K tm ob nx
  | .exit i=>Q (.exit i) tm ob nx
  | .goto l=>Q (.goto l) tm ob nx
  | .ret=>Q .ret tm ob nx
  | .panic ch=>Q (.panic ch) tm ob nx
  | .outgrown=>Q .outgrown tm ob nx
def blockQ (id : Nat) (Q : AQ) : AQ:=fun e tm ob nx=>match e with
  | .normal=>Q .normal tm ob nx
  | .exit i=>match Nat.beq i id with
    | true=>Q .normal tm ob nx
    | false=>Q (.exit i) tm ob nx
  | .goto l=>Q (.goto l) tm ob nx
  | .ret=>Q .ret tm ob nx
  | .panic ch=>Q (.panic ch) tm ob nx
  | .outgrown=>Q .outgrown tm ob nx
section
variable {P : Program} {te : List (TypeId × TyI)} {N nx0 nx : Nat} {tm : Tm} {ob : Obs} {Q Q' : AQ}
theorem dW {c : Code} (h : ∀ e tm ob nx,Q e tm ob nx → Q' e tm ob nx) (hc : qZ P te N nx0 c tm ob nx Q) : qZ P te N nx0 c tm ob nx Q' :=
  fun hte rd n cx hnr h1 h2 ρ a w hs=>wpIn_mono (hc hte rd n cx hnr h1 h2 ρ a w hs) (fun _ _ _ ⟨tm',ob',nx',ρ',hq,hs'⟩=>⟨tm',ob',nx',ρ',h _ _ _ _ hq,hs'⟩)
theorem qL (h : Q .normal tm ob nx) : qZ P te N nx0 .skip tm ob nx Q :=
  fun _ _ _ _ _ _ _ ρ _ _ hs=>wpIn_skip ⟨tm,ob,nx,ρ,h,hs⟩
theorem qM (h : Q .ret tm ob nx) : qZ P te N nx0 .ret tm ob nx Q :=
  fun _ _ _ _ _ _ _ ρ _ _ hs=>wpIn_ret ⟨tm,ob,nx,ρ,h,hs⟩
theorem qT {id : Nat} (h : Q (.exit id) tm ob nx) : qZ P te N nx0 (.exit id) tm ob nx Q :=
  fun _ _ _ _ _ _ _ ρ _ _ hs=>wpIn_exit ⟨tm,ob,nx,ρ,h,hs⟩
theorem qI {x y : Code} (h : qZ P te N nx0 x tm ob nx (jX (fun tm ob nx=>qZ P te N nx0 y tm ob nx Q) Q)) : qZ P te N nx0 (.seq x y) tm ob nx Q:=by
  intro hte rd n cx hnr h1 h2 ρ a w hs;refine wpIn_seq (Code.wpIn_mono ?_ (h hte rd n cx (hnr.mono fun e=>(Bool.or_eq_false_iff.1 e).1) h1 h2 ρ a w hs))
  rintro e a' w' ⟨tm',ob',nx',ρ',hq,hs'⟩
  cases e <;> simp only [jX,Exit.then] at hq ⊢
  · exact hq hte rd n cx (hnr.mono fun e=>(Bool.or_eq_false_iff.1 e).2) h1 h2 ρ' a' w' hs'
  all_goals exact ⟨tm',ob',nx',ρ',hq,hs'⟩
theorem qN {id : Nat} {c : Code} (h : qZ P te N nx0 c tm ob nx (blockQ id Q)) : qZ P te N nx0 (.block id c) tm ob nx Q:=by
  intro hte rd n cx hnr h1 h2 ρ a w hs;refine wpIn_block (Code.wpIn_mono ?_ (h hte rd n cx hnr h1 h2 ρ a w hs))
  rintro e a' w' ⟨tm',ob',nx',ρ',hq,hs'⟩
  cases e <;> simp only [blockQ,Exit.inBlock] at hq ⊢
  case exit i =>
    by_cases e : i = id
    · subst e;simp only [Nat.beq_refl] at hq;rw [if_pos rfl];exact ⟨tm',ob',nx',ρ',hq,hs'⟩
    · rw [if_neg e];have : Nat.beq i id = false:=by
        cases hb : Nat.beq i id
        · rfl
        · exact absurd (Nat.eq_of_beq_eq_true hb) e
      rw [this] at hq;exact ⟨tm',ob',nx',ρ',hq,hs'⟩
  all_goals exact ⟨tm',ob',nx',ρ',hq,hs'⟩
theorem qJ {c : Operand} {x y : Code} {b : Bool} (hc : look tm c = ib b) (h1 : b = true → qZ P te N nx0 x tm ob nx Q) (h2 : b = false → qZ P te N nx0 y tm ob nx Q) : qZ P te N nx0 (.cond c x y) tm ob nx Q:=by
  intro hte rd n cx hnr e1 e2 ρ a w hs;have hr:=hs.look c;rw [hc] at hr;exact wpIn_cond_split (t:=b) hr (fun e=>h1 e hte rd n cx (hnr.mono fun e=>(Bool.or_eq_false_iff.1 e).1) e1 e2 ρ a w hs) (fun e=>h2 e hte rd n cx (hnr.mono fun e=>(Bool.or_eq_false_iff.1 e).2) e1 e2 ρ a w hs)
theorem qH {id : Nat} {ops : Array Oper} (h : awp P te N nx0 ops.toList ops.toList tm ob nx (fun tm ob nx=>Q .normal tm ob nx)) : qZ P te N nx0 (.region id ops false) tm ob nx Q:=by
  intro hte rd n cx hnr e1 e2 ρ a w hs;subst e1 e2;exact wpIn_region_list (jV hte ops ops.toList h hs (fun tm ob nx ρ a w hq hs=>⟨tm,ob,nx,ρ,hq,hs⟩))
theorem qB {id : Nat} {ops : Array Oper} {y : Code} (h : awp P te N nx0 ops.toList ops.toList tm ob nx (fun tm ob nx=>jX (fun tm ob nx=>qZ P te N nx0 y tm ob nx Q) Q .normal tm ob nx)) : qZ P te N nx0 (.seq (.region id ops false) y) tm ob nx Q:=qI (qH h)
theorem kF {id : Nat} {ops : Array Oper} (hm : P.follows .mixedOrders = true) (hB : (Region.lexB .any ops && vT ops.toList) = true) (h : awpD P te N ops.toList ops.toList tm ob (fun tm=>Q .normal tm ob nx)) : qZ P te N nx0 (.region id ops true) tm ob nx Q:=by
  intro hte rd n cx hnr e1 e2 ρ a w hs;subst e1 e2;exact region_draw hte hm hB h hs (fun tm ρ a w hq hs=>⟨tm,ob,nx,ρ,hq,hs⟩)
structure Le (nx0 : Nat) (tm : Tm) (ob : Obs) (nx : Nat) (tm' : Tm) (ob' : Obs) (nx' : Nat) : Prop where
  st : ∀ cx : Cx,cx.nx0 = nx0 → ∀ ρ a w,StOk cx tm ob nx ρ a w → ∃ ρ',StOk cx tm' ob' nx' ρ' a w
def C.bd (n : Nat) : C → Bool
  | .own i _=>Nat.ble (i + 1) n
  | .vec i=>Nat.ble (i + 1) n
  | .vel i _ _=>Nat.ble (i + 1) n
  | .ifc _ c=>c.bd n
  | .clo _ c=>c.bd n
  | .clo2 _ c d=>match c.bd n with
    | true=>d.bd n
    | false=>false
  | .clo3 _ c d e=>match c.bd n with
    | true=>match d.bd n with
      | true=>e.bd n
      | false=>false
    | false=>false
  | .ref c=>c.bd n
  | .nself _ i=>Nat.ble (i + 1) n
  | .fx i _=>Nat.ble (i + 1) n
  | .vof i _ _ _=>Nat.ble (i + 1) n
  | .mp i=>Nat.ble (i + 1) n
  | _=>true
def bdL (n : Nat) : List C → Bool
  | []=>true
  | c :: r=>match c.bd n with
    | true=>bdL n r
    | false=>false
def bdT (n : Nat) : List (Bool × List C) → Bool
  | []=>true
  | p :: r=>match bdL n p.2 with
    | true=>bdT n r
    | false=>false
def A.bd (n : Nat) : A → Bool
  | .one c=>c.bd n
  | .agg cs=>bdL n cs
  | .tup cs=>bdT n cs
  | .cond _ a=>a.bd n
def bdTm (n : Nat) : Tm → Bool
  | []=>true
  | p :: r=>match p.2.bd n with
    | true=>bdTm n r
    | false=>false
def Ob.bd (n : Nat) : Ob → Bool
  | .box _ cs=>bdL n cs
  | .vec _ _ _=>true
  | .map _ _ _=>true
def bdOb (n : Nat) : Obs → Bool
  | []=>true
  | p :: r=>match Nat.ble (p.1 + 1) n,p.2.bd n with
    | true,true=>bdOb n r
    | _,_=>false
def noKey (i : Nat) : Obs → Bool
  | []=>true
  | p :: r=>match Nat.beq p.1 i with
    | true=>false
    | false=>noKey i r
def ndOb : Obs → Bool
  | []=>true
  | p :: r=>match noKey p.1 r with
    | true=>ndOb r
    | false=>false
def leT (tm : Tm) : Tm → Prop
  | []=>True
  | [p]=>get tm p.1 = p.2
  | p :: r=>get tm p.1 = p.2 ∧ leT tm r
def leO (ob : Obs) : Obs → Prop
  | []=>True
  | [p]=>getO ob p.1 = some p.2
  | p :: r=>getO ob p.1 = some p.2 ∧ leO ob r
def cut (n : Nat) (ρ : Nat → Option Value) : Nat → Option Value:=fun i=>if i < n then ρ i else none
theorem vL {n : Nat} {ρ : Nat → Option Value} {i : Nat} (h : i < n) : cut n ρ i = ρ i:=if_pos h
section cutting
variable {ok : Oks} {ρ : Nat → Option Value} {w : World} {n : Nat}
theorem C.cut_rep : ∀ {c : C} {v : Value},c.bd n = true → c.rep ok ρ w v → c.rep ok (cut n ρ) w v
  | .any,_,_,_=>trivial
  | .lit _,_,_,h=>h
  | .slk _ _ _,_,_,h=>h
  | .full _ _,_,_,h=>h
  | .adk _ _ _,_,_,h=>h
  | .own _ _,_,hc,h=>by obtain ⟨b,h1,h2⟩:=h;exact ⟨b,by rw [vL (Nat.lt_of_succ_le (Nat.le_of_ble_eq_true hc))];exact h1,h2⟩
  | .vec _,_,hc,h=>⟨by rw [vL (Nat.lt_of_succ_le (Nat.le_of_ble_eq_true hc))];exact h.1,h.2⟩
  | .mp _,_,hc,h=>⟨by rw [vL (Nat.lt_of_succ_le (Nat.le_of_ble_eq_true hc))];exact h.1,h.2⟩
  | .vel _ _ _,_,hc,h=>by obtain ⟨b,m,cap,h1,h2⟩:=h;exact ⟨b,m,cap,by rw [vL (Nat.lt_of_succ_le (Nat.le_of_ble_eq_true hc))];exact h1,h2⟩
  | .ifc _ c,_,hc,h=>by obtain ⟨u,hv,h⟩:=h;exact ⟨u,hv,C.cut_rep (c:=c) hc h⟩
  | .clo _ c,_,hc,h=>by obtain ⟨u,hv,h⟩:=h;exact ⟨u,hv,C.cut_rep (c:=c) hc h⟩
  | .clo2 _ c d,_,hc,h=>by
    obtain ⟨u,x,hv,h,h'⟩:=h;unfold C.bd at hc;split at hc
    · rename_i e;exact ⟨u,x,hv,C.cut_rep (c:=c) e h,C.cut_rep (c:=d) hc h'⟩
    · cases hc
  | .clo3 _ c d k,_,hc,h=>by
    obtain ⟨u,x,y,hv,h,h',h''⟩:=h;unfold C.bd at hc;split at hc
    · rename_i e;split at hc
      · rename_i e2;exact ⟨u,x,y,hv,C.cut_rep (c:=c) e h,C.cut_rep (c:=d) e2 h',C.cut_rep (c:=k) hc h''⟩
      · cases hc
    · cases hc
  | .ref c,_,hc,h=>by obtain ⟨b,off,u,hv,h1,h2,h3,h⟩:=h;exact ⟨b,off,u,hv,h1,h2,h3,C.cut_rep (c:=c) hc h⟩
  | .nself _ _,_,hc,h=>⟨fun e=>by obtain ⟨b,h1,h2⟩:=h.1 e;exact ⟨b,by rw [vL (Nat.lt_of_succ_le (Nat.le_of_ble_eq_true hc))];exact h1,h2⟩,h.2⟩
  | .fx _ _,_,hc,h=>(vL (Nat.lt_of_succ_le (Nat.le_of_ble_eq_true hc))).trans h
  | .vof _ _ _ _,_,hc,h=>by obtain ⟨b,m,cap,h1,h2⟩:=h;exact ⟨b,m,cap,by rw [vL (Nat.lt_of_succ_le (Nat.le_of_ble_eq_true hc))];exact h1,h2⟩
theorem bdL_rep : ∀ {cs : List C} {vs : List Value},bdL n cs = true → repL ok ρ w cs vs → repL ok (cut n ρ) w cs vs
  | [],_,_,h=>h
  | c :: r,_,hc,h=>by
    unfold bdL at hc;split at hc
    · rename_i h1;obtain ⟨v,r,e,h2,h3⟩:=h;exact ⟨v,r,e,C.cut_rep h1 h2,bdL_rep hc h3⟩
    · cases hc
theorem bdV_rep : ∀ {g : Bool} {cs : List C} {v : Value},bdL n cs = true → repV ok ρ w g cs v → repV ok (cut n ρ) w g cs v
  | true,_,_,hc,h=>by obtain ⟨vs,e,h⟩:=h;exact ⟨vs,e,bdL_rep hc h⟩
  | false,_,_,hc,h=>bdL_rep hc h
theorem bdT_rep : ∀ {cs : List (Bool × List C)} {vs : List Value},bdT n cs = true → repT ok ρ w cs vs → repT ok (cut n ρ) w cs vs
  | [],_,_,h=>h
  | c :: r,_,hc,h=>by
    unfold bdT at hc;split at hc
    · rename_i h1;obtain ⟨v,r,e,h2,h3⟩:=h;exact ⟨v,r,e,bdV_rep h1 h2,bdT_rep hc h3⟩
    · cases hc
theorem A.cut_rep : ∀ {a : A} {v : Value},a.bd n = true → a.rep ok ρ w v → a.rep ok (cut n ρ) w v
  | .one _,_,hc,h=>C.cut_rep hc h
  | .agg _,_,hc,h=>bdV_rep (g:=true) hc h
  | .tup _,_,hc,h=>by obtain ⟨vs,e,h⟩:=h;exact ⟨vs,e,bdT_rep hc h⟩
  | .cond _ a,_,hc,h=>⟨fun hb=>A.cut_rep (a:=a) hc (h.1 hb),h.2⟩
theorem Ob.cut_is {i : Nat} (hi : i < n) {o : Ob} (hc : o.bd n = true) (h : o.is ok ρ w i) : o.is ok (cut n ρ) w i:=by
  cases o with
  | box T cs=>obtain ⟨b,vs,h1,h2,h3⟩:=h;exact ⟨b,vs,by rw [vL hi];exact h1,h2,bdL_rep hc h3⟩
  | vec E R xs=>obtain ⟨v,hv,h⟩:=h;exact ⟨v,by rw [vL hi];exact hv,h⟩
  | map g R es=>obtain ⟨r,h1,h⟩:=h;exact ⟨r,by rw [vL hi];exact h1,h⟩
end cutting
theorem bdTm_get {n : Nat} : ∀ {tm : Tm} (i : Nat),bdTm n tm = true → (get tm i).bd n = true
  | [],_,_=>rfl
  | p :: r,i,h=>by
    unfold bdTm at h;split at h
    · rename_i h1;unfold get;split
      · exact h1
      · exact bdTm_get i h
    · cases h
theorem zW {n : Nat} : ∀ {ob : Obs} {p : Nat × Ob},bdOb n ob = true → p ∈ ob → p.1 < n ∧ p.2.bd n = true
  | [],_,_,h=>by cases h
  | q :: r,p,h,hp=>by
    unfold bdOb at h;split at h
    · rename_i h1 h2;rcases List.mem_cons.1 hp with hp|hp
      · subst hp;exact ⟨Nat.lt_of_succ_le (Nat.le_of_ble_eq_true h1),h2⟩
      · exact zW h hp
    · cases h
theorem noKey_ne {i : Nat} : ∀ {ob : Obs},noKey i ob = true → i ∉ ob.map (·.1)
  | [],_=>by simp
  | q :: r,h=>by
    unfold noKey at h;split at h
    · cases h
    · rename_i e;intro hm;rcases List.mem_cons.1 hm with hm|hm
      · subst hm;simp at e
      · exact noKey_ne h hm
theorem ndOb_nd : ∀ {ob : Obs},ndOb ob = true → (ob.map (·.1)).Nodup
  | [],_=>by simp
  | q :: r,h=>by
    unfold ndOb at h;split at h
    · rename_i h1;exact List.nodup_cons.2 ⟨noKey_ne h1,ndOb_nd h⟩
    · cases h
theorem jR (p : Nat × A) (r : Tm) (i : Nat) : get (p :: r) i = (match Nat.beq p.1 i with|true=>p.2|false=>get r i):=rfl
theorem leT_get {tm : Tm} : ∀ {tm' : Tm} (i : Nat),leT tm tm' → get tm' i = .one .any ∨ get tm' i = get tm i
  | [],_,_=>.inl rfl
  | [p],i,h=>by
    rw [jR p];split
    · rename_i e;have e:=Nat.eq_of_beq_eq_true e;subst e;exact .inr (show get tm p.1 = p.2 from h).symm
    · exact .inl rfl
  | p :: q :: r,i,h=>by
    rw [jR p];split
    · rename_i e;have e:=Nat.eq_of_beq_eq_true e;subst e;exact .inr h.1.symm
    · exact leT_get i h.2
theorem leO_mem {ob : Obs} : ∀ {ob' : Obs} {p : Nat × Ob},leO ob ob' → p ∈ ob' → getO ob p.1 = some p.2
  | [],_,_,hp=>by cases hp
  | [q],p,h,hp=>by
    have : p = q:=by simpa using hp
    subst this;exact h
  | q :: q' :: r,p,h,hp=>by
    rcases List.mem_cons.1 hp with hp|hp
    · subst hp;exact h.1
    · exact leO_mem h.2 hp
theorem qP {tm' : Tm} {ob' : Obs} {nx' : Nat} (ht : leT tm tm') (ho : leO ob ob') (hb : (match bdTm nx' tm',bdOb nx' ob',ndOb ob',Nat.ble nx' nx,Nat.ble nx0 nx' with|true,true,true,true,true=>true|_,_,_,_,_=>false) = true) : Le nx0 tm ob nx tm' ob' nx':=by
  split at hb
  · rename_i b1 b2 b3 b4 b5;refine ⟨fun cx e ρ a w hs=>⟨cut nx' ρ,?_⟩⟩;have hmem : ∀ p ∈ ob',p ∈ ob:=fun p hp=>yF (leO_mem ho hp)
    have hlt : ∀ p ∈ ob',p.1 < nx':=fun p hp=>(zW b2 hp).1
    have hblk : ∀ p ∈ ob',blk (cut nx' ρ p.1) = blk (ρ p.1):=fun p hp=>by rw [vL (hlt p hp)]
    have hk : xI (okOf cx ρ ob) (okOf cx (cut nx' ρ) ob') w w:=fun _ b hb _=>⟨⟨hb.1,fun p hp=>by rw [hblk p hp];exact hb.2 p (hmem p hp)⟩,rfl⟩
    refine ⟨hs.size,hs.defers,fun i=>?_,fun p hp=>?_,ndOb_nd b3,hlt,fun i hi=>if_neg (by omega),by rw [e];exact Nat.le_of_ble_eq_true b5,?_,?_,hs.keep,hs.disj,fun i hi p e'=>by rw [vL (Nat.lt_of_lt_of_le (by rw [← e];exact hi) (Nat.le_of_ble_eq_true b5))];exact hs.pin i hi p e',hs.glob,hs.bags⟩
    · rcases leT_get i ht with h|h
      · rw [h];trivial
      · have hbd:=bdTm_get i b1;rw [h] at hbd ⊢;exact A.cut_rep hbd (A.kept hk (hs.tms i))
    · exact Ob.cut_is (hlt p hp) (zW b2 hp).2 (Ob.kept hk (fun _ _=>rfl) (hs.obs p (hmem p hp)))
    · intro p hp q hq hne b;rw [hblk p hp,hblk q hq];exact hs.sep p (hmem p hp) q (hmem q hq) hne b
    · intro p hp b;rw [hblk p hp];exact hs.low p (hmem p hp) b
  · cases hb
theorem xR {c : Code} {tm' : Tm} {ob' : Obs} {nx' : Nat} (hle : Le nx0 tm ob nx tm' ob' nx') (h : qZ P te N nx0 c tm' ob' nx' Q) : qZ P te N nx0 c tm ob nx Q:=by
  intro hte rd n cx hnr e1 e2 ρ a w hs;obtain ⟨ρ',hs'⟩:=hle.st cx e2 ρ a w hs;exact h hte rd n cx hnr e1 e2 ρ' a w hs'
theorem acode_loop {c : Code} {ι : Type} (I : ι → Tm) (O : ι → Obs) (nx' : Nat) (μ : ι → Nat) (i0 : ι) (h0 : Le nx0 tm ob nx (I i0) (O i0) nx')
    (round : ∀ i,qZ P te N nx0 c (I i) (O i) nx' (jX (fun tm ob nx=>∃ j,μ j < μ i ∧ Le nx0 tm ob nx (I j) (O j) nx') Q)) : qZ P te N nx0 (.loop c) tm ob nx Q:=by
  intro hte rd fu cx hnr e1 e2 ρ a w hs;obtain ⟨ρ0,hs0⟩:=h0.st cx e2 ρ a w hs;have key : ∀ n i,μ i < n → ∀ ρ a w,StOk cx (I i) (O i) nx' ρ a w → Code.roundsIn (FR rd) fu P c (fun e a' w'=>∃ tm' ob' nx' ρ',Q e tm' ob' nx' ∧ StOk cx tm' ob' nx' ρ' a' w') n a w:=by
    intro n
    induction n with
    | zero=>intro i hi;omega
    | succ n ih =>
      intro i hi ρ a w hs;refine Code.wpIn_mono ?_ (round i hte rd fu cx hnr e1 e2 ρ a w hs)
      rintro e a' w' ⟨tm',ob',nx'',ρ',hq,hs'⟩
      cases e <;> simp only [jX,Exit.then] at hq ⊢
      · obtain ⟨j,hj,hle⟩:=hq;obtain ⟨ρ'',hs''⟩:=hle.st cx e2 ρ' a' w' hs';exact ih j (by omega) ρ'' a' w' hs''
      all_goals exact ⟨tm',ob',nx'',ρ',hq,hs'⟩
  exact wpIn_loop_rounds _ (key (μ i0 + 1) i0 (Nat.lt_succ_self _) ρ0 a w hs0)
theorem qR {c : Code} {ι : Type} (Pr : ι → Prop) (I : ι → Tm) (O : ι → Obs) (nx' : Nat) (μ : ι → Nat) (i0 : ι) (hp : Pr i0) (h0 : Le nx0 tm ob nx (I i0) (O i0) nx')
    (round : ∀ i,Pr i → qZ P te N nx0 c (I i) (O i) nx' (jX (fun tm ob nx=>∃ j,Pr j ∧ μ j < μ i ∧ Le nx0 tm ob nx (I j) (O j) nx') Q)) : qZ P te N nx0 (.loop c) tm ob nx Q:=by
  refine acode_loop (ι:={i : ι // Pr i}) (fun i=>I i.1) (fun i=>O i.1) nx' (fun i=>μ i.1) ⟨i0,hp⟩ h0 fun i=>dW ?_ (round i.1 i.2)
  intro e tm ob nx h;cases e
  · obtain ⟨j,hj,hm,hle⟩:=h;exact ⟨⟨j,hj⟩,hm,hle⟩
  all_goals exact h
theorem jJ {x y : Code} {ι : Type} (Pr : ι → Prop) (I : ι → Tm) (O : ι → Obs) (nx' : Nat) (h1 : qZ P te N nx0 x tm ob nx (jX (fun tm ob nx=>∃ j,Pr j ∧ Le nx0 tm ob nx (I j) (O j) nx') Q))
    (h2 : ∀ i,Pr i → qZ P te N nx0 y (I i) (O i) nx' Q) : qZ P te N nx0 (.seq x y) tm ob nx Q:=by
  refine qI (dW ?_ h1);intro e tm ob nx h;cases e
  · obtain ⟨j,hj,hle⟩:=h;exact xR hle (h2 j hj)
  all_goals exact h
theorem xE {c : Code} (i : Nat) {α : Type} (E : TypeId) (R : Rd α) (hi : get tm i = .one (.lit (.slice none 0 0))) (h : qZ P te N nx0 c ((i,.one (.vec nx)) :: tm) ((nx,.vec E R []) :: ob) (nx + 1) Q) : qZ P te N nx0 c tm ob nx Q:=by
  intro hte rd n cx hnr e1 e2 ρ a w hs;obtain ⟨ρ',h1,h2⟩:=gR (E:=E) (R:=R) (xs:=[]) (v:=.slice none 0 0) hs (Below.refl _ _) (fun b hb=>by cases hb) ⟨_,_,_,rfl⟩ (fun ok' _=>⟨[],rfl,fun i hi=>absurd hi (by simp),World.ownsRow_nil _ _ _ _⟩);refine h hte rd n cx hnr e1 e2 ρ' a w (h1.act rfl rfl fun j=>?_);rw [jR];split
  · rename_i e;have e : i = j:=Nat.eq_of_beq_eq_true e;subst e;have hv:=hs.tms i;rw [hi] at hv;rw [show a.tmps.getD i undef = _ from hv];exact h2
  · exact h1.tms j
end
attribute [irreducible] qZ
def argT : Nat → List A → Tm
  | _,[]=>[]
  | k,a :: r=>(k,a) :: argT (k + 1) r
def finC (te : List (TypeId × TyI)) (ob : Obs) : C → C
  | .vec id=>match getO ob id with
    | some (.vec _ R xs)=>.sl R xs
    | _=>.any
  | .own id 0=>match getO ob id with
    | some (.box T cs)=>match find te T with
      | some i=>match i.rd with
        | some ⟨_,R⟩=>match ofL R cs with
          | some (x,[])=>.addr R x
          | _=>.any
        | none=>.any
      | none=>.any
    | _=>.any
  | .own _ (_ + 1)=>.any
  | .vel _ _ _=>.any
  | .ifc t c=>.ifc t (finC te ob c)
  | .clo f c=>.clo f (finC te ob c)
  | .clo2 f c d=>.clo2 f (finC te ob c) (finC te ob d)
  | .clo3 f c d e=>.clo3 f (finC te ob c) (finC te ob d) (finC te ob e)
  | .ref c=>.ref (finC te ob c)
  | .nself _ _=>.any
  | .fx _ _=>.any
  | .vof _ _ _ _=>.any
  | .mp _=>.any
  | .any=>.any
  | .lit v=>.lit v
  | .slk k R xs=>.slk k R xs
  | .full R xs=>.full R xs
  | .adk k R x=>.adk k R x
def finL (te : List (TypeId × TyI)) (ob : Obs) : List C → List C
  | []=>[]
  | c :: r=>finC te ob c :: finL te ob r
def finA (te : List (TypeId × TyI)) (ob : Obs) : A → A
  | .one c=>.one (finC te ob c)
  | .agg cs=>match vU cs with
    | true=>.agg cs
    | false=>.agg (finL te ob cs)
  | .tup _=>.one .any
  | .cond _ _=>.one .any
def jG : A → Bool × List C
  | .one c=>(false,[c])
  | .agg cs=>(true,cs)
  | _=>(false,[.any])
def retQ (te : List (TypeId × TyI)) (rs : List Nat) (r : A) : AQ:=fun e tm ob _=>match e with
  | .ret=>match rs with
    | []=>r = .tup []
    | [t]=>finA te ob (get tm t) = r
    | [t,u]=>.tup [jG (finA te ob (get tm t)),jG (finA te ob (get tm u))] = r
    | [t,u,v]=>.tup [jG (finA te ob (get tm t)),jG (finA te ob (get tm u)),jG (finA te ob (get tm v))] = r
    | _=>False
  | .normal=>match rs with
    | []=>r = .tup []
    | _=>False
  | _=>False
section
variable {P : Program} {te : List (TypeId × TyI)} {cx : Cx} {tm : Tm} {ob : Obs} {nx : Nat} {ρ : Nat → Option Value} {a : Act} {w : World}
theorem ok_grow (h0 : cx.nx0 = 0) {k b : Nat} (hb : okOf cx ρ ob k b) : grow cx.ok0 cx.w0 k b:=by
  rcases hb.1 with h|h|⟨_,i,hi,_⟩
  · exact .inl h
  · exact .inr h
  · rw [h0] at hi;exact absurd hi (Nat.not_lt_zero _)
theorem zP (_hs : StOk cx tm ob nx ρ a w) (h0 : cx.nx0 = 0) : xI (okOf cx ρ ob) (grow cx.ok0 cx.w0) w w:=fun _ _ hb _=>⟨ok_grow h0 hb,rfl⟩
theorem own_grow (hs : StOk cx tm ob nx ρ a w) (h0 : cx.nx0 = 0) {id : Nat} {o : Ob} (hg : getO ob id = some o) {b k : Nat} (hb : blk (ρ id) = some b) (hk : frK k) : grow cx.ok0 cx.w0 k b:=by
  rcases (hs.low _ (yF hg) b hb).2 with h|⟨_,h,_⟩
  · exact .inr ⟨h,hk⟩
  · rw [h0] at h;exact absurd h (Nat.not_lt_zero _)
theorem uO (hs : StOk cx tm ob nx ρ a w) (h0 : cx.nx0 = 0) : ∀ {c : C} {v : Value},c.rep (okOf cx ρ ob) ρ w v → (finC te ob c).rep (grow cx.ok0 cx.w0) yI w v
  | .any,_,_=>trivial
  | .lit _,_,h=>h
  | .slk k R xs,v,h=>C.kept (c:=.slk k R xs) (ρ:=yI) (zP hs h0) h
  | .full R xs,v,h=>C.kept (c:=.full R xs) (ρ:=yI) (zP hs h0) h
  | .adk k R x,v,h=>C.kept (c:=.adk k R x) (ρ:=yI) (zP hs h0) h
  | .own id 0,v,h=>by
    unfold finC;split
    · rename_i T cs hg;split
      · split
        · rename_i R _;split
          · rename_i x hx;obtain ⟨b,h1,h2⟩:=h;obtain ⟨b',vs,h3,h4,h5⟩:=hs.obs _ (yF hg);rw [h1] at h3;simp only [Option.some.injEq,Value.pointer.injEq,Addr.mk.injEq,and_true] at h3;subst h3;obtain ⟨us,r,e1,hus,hr⟩:=jZ R hx h5;have hr0 : r = []:=hr;rw [hr0,List.append_nil] at e1;subst e1;have hlt : b < w.heap.size:=(Array.getElem?_eq_some_iff.1 h4).1;refine ⟨b,0,vs,h2,okU0 (own_grow hs h0 hg (by rw [h1];rfl) (by decide)),hlt,⟨R.len hus,fun j _=>?_⟩,R.kept (zP hs h0) hus⟩;simp only [World.cell?,h4,Option.isSome_none,Bool.false_eq_true,if_false,List.getElem?_toArray,Nat.zero_add]
          · trivial
        · trivial
      · trivial
    · trivial
  | .own _ (_ + 1),_,_=>trivial
  | .vec id,v,h=>by
    unfold finC;split
    · rename_i R xs hg;obtain ⟨v',h1,h2⟩ : ∃ v,ρ id = some v ∧ uF (okOf cx ρ ob) w v _ _ _:=hs.obs _ (yF hg);have h3 : ρ id = some v:=h.1;rw [h1] at h3;obtain rfl:=Option.some.inj h3;exact vec_sl 0 h2 (fun _ b hb=>ok_grow h0 hb) (fun b hb=>own_grow hs h0 hg (by rw [h1];exact hb) (by decide))
    · trivial
  | .vel _ _ _,_,_=>trivial
  | .ifc t c,v,h=>by obtain ⟨u,hv,h⟩:=h;exact ⟨u,hv,uO hs h0 h⟩
  | .clo f c,v,h=>by obtain ⟨u,hv,h⟩:=h;exact ⟨u,hv,uO hs h0 h⟩
  | .clo2 f c d,v,h=>by obtain ⟨u,x,hv,h,h'⟩:=h;exact ⟨u,x,hv,uO hs h0 h,uO hs h0 h'⟩
  | .clo3 f c d e,v,h=>by obtain ⟨u,x,y,hv,h,h',h''⟩:=h;exact ⟨u,x,y,hv,uO hs h0 h,uO hs h0 h',uO hs h0 h''⟩
  | .ref c,v,h=>by
    obtain ⟨b,off,u,hv,hb,hlt,hc,hr⟩:=h;exact ⟨b,off,u,hv,ok_grow h0 hb,hlt,hc,uO hs h0 hr⟩
  | .nself _ _,_,_=>trivial
  | .fx _ _,_,_=>trivial
  | .vof _ _ _ _,_,_=>trivial
  | .mp _,_,_=>trivial
theorem finL_rep (hs : StOk cx tm ob nx ρ a w) (h0 : cx.nx0 = 0) : ∀ {cs : List C} {vs : List Value},repL (okOf cx ρ ob) ρ w cs vs → repL (grow cx.ok0 cx.w0) yI w (finL te ob cs) vs
  | [],_,h=>h
  | _ :: _,_,h=>by
    obtain ⟨v,r,e,h1,h2⟩:=h;exact ⟨v,r,e,uO hs h0 h1,finL_rep hs h0 h2⟩
theorem vK (hs : StOk cx tm ob nx ρ a w) (h0 : cx.nx0 = 0) {x : A} {v : Value} (h : x.rep (okOf cx ρ ob) ρ w v) : (finA te ob x).rep (grow cx.ok0 cx.w0) yI w v:=by
  cases x with
  | one c=>exact uO hs h0 h
  | agg cs =>
    show (match vU cs with|true=>A.agg cs|false=>A.agg (finL te ob cs)).rep _ _ _ v;split
    · rename_i hc;exact A.kept (a:=.agg cs) (zP hs h0) (A.closed_rep (a:=.agg cs) hc h)
    · obtain ⟨vs,e,h⟩:=h;exact ⟨vs,e,finL_rep hs h0 h⟩
  | tup _=>trivial
  | cond _ _=>trivial
theorem yY {ok : Oks} {x : A} {v : Value} (h : x.rep ok ρ w v) : repV ok ρ w (jG x).1 (jG x).2 v:=by
  cases x with
  | one c=>exact ⟨v,[],rfl,h,rfl⟩
  | agg cs=>exact h
  | tup _=>exact ⟨v,[],rfl,trivial,rfl⟩
  | cond _ _=>exact ⟨v,[],rfl,trivial,rfl⟩
theorem gL {ok : Oks} : ∀ {as : List A} {vs : List Value} (k i : Nat),yX ok ρ w as vs → (get (argT k as) i).rep ok ρ w (if i < k then undef else vs.getD (i - k) undef) ∨ get (argT k as) i = .one .any
  | [],_,_,_,_=>.inr rfl
  | x :: as,vs,k,i,h=>by
    obtain ⟨v,r,rfl,h1,h2⟩:=h;rw [argT,jR];split
    · rename_i e;have e : k = i:=Nat.eq_of_beq_eq_true e;subst e
      left
      simpa using h1
    · rename_i e;have e : k ≠ i:=fun e'=>by subst e';simp at e
      rcases gL (k + 1) i h2 with h3|h3
      · left
        by_cases hlt : i < k
        · rw [if_pos (by omega)] at h3;rw [if_pos hlt];exact h3
        · rw [if_neg (by omega)] at h3;rw [if_neg hlt];have : i - k = (i - (k + 1)) + 1:=by omega
          rw [this]
          simpa using h3
      · exact .inr h3
theorem yX.len {ok : Oks} : ∀ {as : List A} {vs : List Value},yX ok ρ w as vs → vs.length = as.length
  | [],_,h=>by rw [show _ = _ from h];rfl
  | _ :: _,_,h=>by obtain ⟨v,r,rfl,_,h2⟩:=h;simp [yX.len h2]
theorem qW {f : FuncId} {fn : Func} {c : Code} {args : List A} {rs : List Nat} {r : A} (hf : P.funcs[f]? = some fn) (hb : fn.body = some c) (hname : (fn.name == "runtime.NumGoroutine") = false) (hr : fn.results = (rs.map ResultVar.tmp).toArray) (hte : TEok P te)
    (hn : Nat.ble args.length fn.ntmps = true) (h : qZ P te fn.ntmps 0 c (argT 0 args) [] 0 (retQ te rs r)) : qX P f args r:=by
  refine ⟨⟨fn,hf,by rw [hb];rfl,hname⟩,fun ok w vs hgl hvs=>callsIn_wide.1 (callsIn_of_wp_marks (F:=FR none) (n:=0) hf hb trivial ?_)⟩
  let cx : Cx:=⟨ok,yI,w,fn.ntmps,0,[],true⟩
  have hl:=yX.len hvs;have hn:=Nat.le_of_ble_eq_true hn;have hk : xI ok (okOf cx yI []) w w:=fun _ b hb _=>⟨⟨.inl hb,fun p hp=>by cases hp⟩,rfl⟩
  have hs : StOk cx (argT 0 args) [] 0 yI { tmps:=vs.toArray ++ Array.replicate (fn.ntmps - vs.toArray.size) undef,defers:=[] } w:=by
    refine ⟨?_,uL.none rfl,fun i=>?_,fun p hp=>by (cases hp),by simp,fun p hp=>by (cases hp),fun _ _=>rfl,Nat.le_refl _,fun p hp=>by (cases hp),fun p hp=>by (cases hp),⟨rfl,rfl,rfl,Nat.le_refl _,fun _ _ _ _=>rfl,fun _ _=>.rfl' rfl⟩,fun _ _ h _=>absurd h (Nat.not_lt_zero _),fun _ h=>absurd h (Nat.not_lt_zero _),hgl,.low (show (0 : Nat) < 1000000 by decide)⟩
    · show (vs.toArray ++ Array.replicate (fn.ntmps - vs.toArray.size) undef).size = fn.ntmps;simp;omega
    · rcases gL 0 i hvs with h1|h1
      · have hcell : (vs.toArray ++ Array.replicate (fn.ntmps - vs.toArray.size) undef).getD i undef = if i < 0 then undef else vs.getD (i - 0) undef:=by
          rw [if_neg (Nat.not_lt_zero _),Nat.sub_zero,Array.getD_eq_getD_getElem?,Array.getElem?_append];split
          · simp [List.getD]
          · rename_i hge;rw [Array.getElem?_replicate];simp only [List.size_toArray] at hge ⊢;rw [List.getD,List.getElem?_eq_none (by omega)];split <;> rfl
        rw [hcell];exact A.kept hk h1
      · rw [h1];trivial
  unfold qZ at h;refine Code.wpIn_mono ?_ (h hte none 0 cx (eQ rfl rfl (by show ¬ (1000000 ≤ 0);decide)) rfl rfl yI _ w hs)
  rintro e a' w0' ⟨tm',ob',nx',ρ',hq,hs0'⟩
  cases e with
  | ret =>
    refine StOk.unwind hs0' rfl rfl fun w' hs'=>?_
    have hbel : Below w.heap.size w w':=⟨hs'.keep.os,hs'.keep.tape,hs'.keep.output,hs'.keep.size,fun b hb=>hs'.keep.block b hb (fun ⟨_,h,_⟩=>absurd h (Nat.not_lt_zero _)) (fun hg=>absurd hg.1.1 (by show ¬ (1000000 ≤ 0);decide))⟩;have fin : ∀ t,(finA te ob' (get tm' t)).rep (grow ok w) yI w' (a'.tmps.getD t undef):=fun t=>vK hs' rfl (hs'.tms t)
    simp only [retQ] at hq;split at hq
    · subst hq;exact ⟨_,results_none hr _ _ _,_,rfl,hbel,[],rfl,rfl⟩
    · rename_i t;subst hq;exact ⟨_,results_tmp hr _ _ _,_,rfl,hbel,fin t⟩
    · rename_i t u;subst hq;exact ⟨_,results_tmp2 hr _ _ _,_,rfl,hbel,[_,_],rfl,_,_,rfl,yY (fin t),_,_,rfl,yY (fin u),rfl⟩
    · rename_i t u v;subst hq;exact ⟨_,results_tmp3 hr _ _ _,_,rfl,hbel,[_,_,_],rfl,_,_,rfl,yY (fin t),_,_,rfl,yY (fin u),_,_,rfl,yY (fin v),rfl⟩
    · exact hq.elim
  | normal =>
    refine StOk.unwind hs0' rfl rfl fun w' hs'=>?_
    have hbel : Below w.heap.size w w':=⟨hs'.keep.os,hs'.keep.tape,hs'.keep.output,hs'.keep.size,fun b hb=>hs'.keep.block b hb (fun ⟨_,h,_⟩=>absurd h (Nat.not_lt_zero _)) (fun hg=>absurd hg.1.1 (by show ¬ (1000000 ≤ 0);decide))⟩;have fin : ∀ t,(finA te ob' (get tm' t)).rep (grow ok w) yI w' (a'.tmps.getD t undef):=fun t=>vK hs' rfl (hs'.tms t)
    simp only [retQ] at hq;split at hq
    · subst hq;exact ⟨_,results_none hr _ _ _,_,rfl,hbel,[],rfl,rfl⟩
    · exact hq.elim
  | exit i=>exact (show False from hq).elim
  | goto l=>exact (show False from hq).elim
  | panic ch=>exact (show False from hq).elim
  | outgrown=>exact (show False from hq).elim
end
def wI : List Nat → Tm → Tm
  | [],_=>[]
  | t :: r,tm=>(t,get tm t) :: wI r tm
def resOf (rs : List Nat) (tm : Tm) : A:=match rs with
  | []=>.tup []
  | [t]=>get tm t
  | t :: r=>.tup (jG (get tm t) :: more r tm)
where more : List Nat → Tm → List (Bool × List C)
  | [],_=>[]
  | t :: r,tm=>jG (get tm t) :: more r tm
def retOK (rs : List Nat) (r : A) (m : Nat) (ob' : Obs) (m' : Nat) (tm : Tm) (ob : Obs) (nx : Nat) : Prop :=
  resOf rs tm = r ∧ leO ob ob' ∧ (match bdTm m' (wI rs tm),bdOb m' ob',ndOb ob',Nat.ble m' nx,Nat.ble m m' with|true,true,true,true,true=>true|_,_,_,_,_=>false) = true
def retO (rs : List Nat) (r : A) (m : Nat) (ob' : Obs) (m' : Nat) : AQ:=fun e tm ob nx=>match e with
  | .ret=>retOK rs r m ob' m' tm ob nx
  | .normal=>match rs with
    | []=>retOK rs r m ob' m' tm ob nx
    | _=>False
  | _=>False
section
variable {P : Program} {te : List (TypeId × TyI)} {cx : Cx} {tm : Tm} {ob : Obs} {nx : Nat} {ρ : Nat → Option Value} {a : Act} {w : World}
theorem keepT_le : ∀ {rs : List Nat},leT tm (wI rs tm)
  | []=>trivial
  | [_]=>rfl
  | _ :: t :: r=>⟨rfl,keepT_le (rs:=t :: r)⟩
theorem cN : ∀ {rs : List Nat} {t : Nat},t ∈ rs → get (wI rs tm) t = get tm t
  | [],_,h=>by cases h
  | s :: r,t,h=>by
    rw [wI,jR];split
    · rename_i e;rw [show s = t from Nat.eq_of_beq_eq_true e]
    · rename_i e;rcases List.mem_cons.1 h with h|h
      · subst h;simp at e
      · exact cN h
theorem StOk.anyD (h : StOk cx tm ob nx ρ a w) {tm' : Tm} {a' : Act} (h1 : a'.tmps.size = cx.N) (h2 : uL cx a'.defers w) (h3 : ∀ i,(get tm' i).rep (okOf cx ρ ob) ρ w (a'.tmps.getD i undef)) : StOk cx tm' ob nx ρ a' w :=
  ⟨h1,h2,h3,h.obs,h.nd,h.fresh,h.names,h.nx0,h.sep,h.low,h.keep,h.disj,h.pin,h.glob,h.bags⟩
theorem StOk.anyN (h : StOk cx tm ob nx ρ a w) {N : Nat} {tm' : Tm} {a' : Act} (h1 : a'.tmps.size = N) (h2 : uL cx a'.defers w) (h3 : ∀ i,(get tm' i).rep (okOf cx ρ ob) ρ w (a'.tmps.getD i undef)) :
    StOk { cx with N:=N } tm' ob nx ρ a' w :=
  ⟨h1,h2,h3,h.obs,h.nd,h.fresh,h.names,h.nx0,h.sep,h.low,⟨h.keep.os,h.keep.tape,h.keep.output,h.keep.size,h.keep.block,h.keep.shape⟩,h.disj,h.pin,h.glob,h.bags⟩
theorem yA {f : FuncId} {fn : Func} {c : Code} {args : List A} {rs : List Nat} {r : A} {m : Nat} {ob' : Obs} {m' : Nat} (hf : P.funcs[f]? = some fn) (hb : fn.body = some c) (hname : (fn.name == "runtime.NumGoroutine") = false)
    (hr : fn.results = (rs.map ResultVar.tmp).toArray) (hte : TEok P te) (hl : rs.length ≤ 3) (hn : Nat.ble args.length fn.ntmps = true) (h : qZ P te fn.ntmps m c (argT 0 args) ob m (retO rs r m ob' m')) (hm : Nat.ble 1000000 m = false:=by rfl) : yB P f args ob m r ob' m':=by
  refine ⟨⟨fn,hf,by rw [hb];rfl,hname⟩,fun cx ρ w vs hN hnx hw hs hvs=>callsIn_wide.1 (callsIn_of_wp_marks (F:=FR none) (n:=0) hf hb trivial ?_)⟩;have hlen:=yX.len hvs;have hn:=Nat.le_of_ble_eq_true hn;have hm : cx.nx0 < 1000000:=by
    rw [hnx];exact Nat.lt_of_not_le fun h=>by rw [Nat.ble_eq_true_of_le h] at hm;cases hm
  let a0 : Act:={ tmps:=vs.toArray ++ Array.replicate (fn.ntmps - vs.toArray.size) undef,defers:=[] }
  have hs0 : StOk { cx with N:=fn.ntmps } (argT 0 args) ob m ρ a0 w:=by
    refine hs.anyN ?_ (uL.none hN.2.2) fun i=>?_
    · show (vs.toArray ++ Array.replicate (fn.ntmps - vs.toArray.size) undef).size = fn.ntmps;simp;omega
    · rcases gL 0 i hvs with h1|h1
      · have hcell : (vs.toArray ++ Array.replicate (fn.ntmps - vs.toArray.size) undef).getD i undef = if i < 0 then undef else vs.getD (i - 0) undef:=by
          rw [if_neg (Nat.not_lt_zero _),Nat.sub_zero,Array.getD_eq_getD_getElem?,Array.getElem?_append];split
          · simp [List.getD]
          · rename_i hge;rw [Array.getElem?_replicate];simp only [List.size_toArray] at hge ⊢;rw [List.getD,List.getElem?_eq_none (by omega)];split <;> rfl
        show (get (argT 0 args) i).rep _ _ _ ((vs.toArray ++ Array.replicate (fn.ntmps - vs.toArray.size) undef).getD i undef);rw [hcell];exact h1
      · rw [h1];trivial
  unfold qZ at h;refine Code.wpIn_mono ?_ (h hte none 0 { cx with N:=fn.ntmps } (eQ hN.2.1 hN.2.2 (Nat.not_le.2 hm)) rfl hnx ρ a0 w hs0)
  rintro e a' w0' ⟨tm',ob1,nx',ρ',hq,hs0'⟩
  have fin : ∀ w',StOk { cx with N:=fn.ntmps } tm' ob1 nx' ρ' ⟨a'.tmps,[]⟩ w' → retOK rs r m ob' m' tm' ob1 nx' → ∃ u ρ2,(results fn a'.tmps).run P w' = .ok u w' ∧ StOk cx [] ob' m' ρ2 ⟨#[],[]⟩ w' ∧ r.rep (okOf cx ρ2 ob') ρ2 w' u:=by
    rintro w' hs' ⟨h1,h2,h3⟩
    obtain ⟨ρ2,hs2⟩:=(qP (nx0:=m) keepT_le h2 h3).st { cx with N:=fn.ntmps } hnx ρ' _ w' hs';have hs3 : StOk cx [] ob' m' ρ2 ⟨#[],[]⟩ w':=by
      have:=hs2.anyN (N:=cx.N) (tm':=[]) (a':=⟨#[],[]⟩) (by rw [hN.1];rfl) (uL.none hN.2.2) (fun _=>trivial);exact this
    have hrep : ∀ t ∈ rs,(get tm' t).rep (okOf cx ρ2 ob') ρ2 w' (a'.tmps.getD t undef):=fun t ht=>by
      have:=hs2.tms t;rw [cN ht] at this;exact this
    subst h1
    match rs,hl,hr,hrep with
    | [],_,hr,_=>exact ⟨_,ρ2,results_none hr _ _ _,hs3,[],rfl,rfl⟩
    | [t],_,hr,hrep=>exact ⟨_,ρ2,results_tmp hr _ _ _,hs3,hrep t (by simp)⟩
    | [t,u],_,hr,hrep=>exact ⟨_,ρ2,results_tmp2 hr _ _ _,hs3,[_,_],rfl,_,_,rfl,yY (hrep t (by simp)),_,_,rfl,yY (hrep u (by simp)),rfl⟩
    | [t,u,v],_,hr,hrep=>exact ⟨_,ρ2,results_tmp3 hr _ _ _,hs3,[_,_,_],rfl,_,_,rfl,yY (hrep t (by simp)),_,_,rfl,yY (hrep u (by simp)),_,_,rfl,yY (hrep v (by simp)),rfl⟩
    | _ :: _ :: _ :: _ :: _,hl,_,_=>simp at hl
  cases e with
  | ret =>
    refine StOk.unwind hs0' hN.2.1 hN.2.2 fun w' hs'=>?_
    obtain ⟨u,ρ2,h1,h2,h3⟩:=fin w' hs' hq;exact ⟨u,h1,u,ρ2,rfl,h2,h3⟩
  | normal =>
    cases rs with
    | nil =>
      refine StOk.unwind hs0' hN.2.1 hN.2.2 fun w' hs'=>?_
      obtain ⟨u,ρ2,h1,h2,h3⟩:=fin w' hs' hq;exact ⟨u,h1,u,ρ2,rfl,h2,h3⟩
    | cons t r'=>exact (show False from hq).elim
  | exit i=>exact (show False from hq).elim
  | goto l=>exact (show False from hq).elim
  | panic ch=>exact (show False from hq).elim
  | outgrown=>exact (show False from hq).elim
end
theorem qG {α : Type} {R : Rd α} : (Rd.sl R).dflt = []:=rfl
theorem qF {α β : Type} {R : Rd α} {S : Rd β} : (Rd.st R S).dflt = (R.dflt,S.dflt):=rfl
theorem qE : Rd.str.dflt = ByteArray.empty:=rfl
theorem qD {k : IntKind} : (Rd.int k).dflt = 0:=rfl
theorem qC : Rd.bool.dflt = false:=rfl
theorem zds : (∀ n : Nat,Int.toNat (n : Int) = n) ∧ (∀ {α : Type} {R : Rd α},(Rd.sl R).dflt = []) ∧ (∀ {α β : Type} {R : Rd α} {S : Rd β},(Rd.st R S).dflt = (R.dflt,S.dflt)) ∧ Rd.str.dflt = ByteArray.empty ∧ (∀ {k : IntKind},(Rd.int k).dflt = 0) ∧ Rd.bool.dflt = false:=⟨Int.toNat_natCast,rfl,rfl,rfl,rfl,rfl⟩
theorem zob {a b : Prop} (y : b) (x : a:=by first|omega|assumption|decide|(simp only [zds];omega)|(simp <;> omega)) : a ∧ b:=⟨x,y⟩
theorem qV {α : Type} {E : TypeId} {R : Rd α} {xs ys : List α} (h : xs = ys) : some (Ob.vec E R xs) = some (Ob.vec E R ys):=by rw [h]
theorem sl_eq {α : Type} {R : Rd α} {xs ys : List α} (h : xs = ys) : A.one (.sl R xs) = A.one (.sl R ys):=by rw [h]
theorem xH {a b : Bool} (h : a = b) : ib a = ib b:=by rw [h]
theorem gU {a b : ByteArray} (h : a = b) : is a = is b:=by rw [h]
theorem qS {k : IntKind} {a b : Int} (h : a = b) : ii k a = ii k b:=by rw [h]
theorem yE {α : Type} {l : List α} {i : Nat} (d : α) (h : i < l.length) : l.take i ++ [l.getD i d] = l.take (i + 1):=by
  rw [List.take_succ_eq_append_getElem h];simp [List.getD,List.getElem?_eq_getElem h]
theorem kY {α : Type} (l : List α) (p : α → Bool) (d : α) (i : Nat) (h : i < l.length) : (l.take (i + 1)).any p = ((l.take i).any p || p (l.getD i d)):=by
  rw [List.take_succ_eq_append_getElem h,List.any_append];simp [List.getD,List.getElem?_eq_getElem h]
theorem take_all {α : Type} (l : List α) (p : α → Bool) (d : α) (i : Nat) (h : i < l.length) : (l.take (i + 1)).all p = ((l.take i).all p && p (l.getD i d)):=by
  rw [List.take_succ_eq_append_getElem h,List.all_append];simp [List.getD,List.getElem?_eq_getElem h]
theorem range_any (p : Nat → Bool) (n : Nat) : (List.range (n + 1)).any p = ((List.range n).any p || p n):=by
  rw [List.range_succ,List.any_append];simp
theorem yK {α : Type} {l : List α} {i : Nat} (h : i < l.length) (d : α) : l.getD i d ∈ l:=by
  rw [List.getD_eq_getElem?_getD,List.getElem?_eq_getElem h];exact List.getElem_mem h
theorem any_at {α : Type} {l : List α} {p : α → Bool} {i : Nat} (d : α) (h : i < l.length) (hp : p (l.getD i d) = true) : l.any p = true :=
  List.any_eq_true.2 ⟨_,yK h d,hp⟩
section
variable {P : Program} {te : List (TypeId × TyI)} {N nx0 : Nat} {tm : Tm} {ob : Obs} {nx : Nat} {Q : AQ}
theorem yD {c : Code} (ids : List Nat) (h : frz te nx0 ids tm ob fun tm ob=>qZ P te N nx0 c tm ob nx Q) : qZ P te N nx0 c tm ob nx Q:=by
  unfold qZ;intro hte rd n cx hnr e1 e2 ρ a w hs;subst e2;obtain ⟨tm',ob',h1,h2⟩:=jU h hs;unfold qZ at h1;exact h1 hte rd n cx hnr e1 rfl ρ a w h2
theorem acode_frzk {c : Code} (id q : Nat) {α : Type} {E : TypeId} {R : Rd α} {xs : List α} (hg : getO ob id = some (.vec E R xs)) (h : qZ P te N nx0 c (vF id (.slk q R xs) tm) (kG id (.slk q R xs) (jF id ob)) nx Q) (hq : frK q:=by decide) : qZ P te N nx0 c tm ob nx Q:=by
  unfold qZ at *;intro hte rd n cx hnr e1 e2 ρ a w hs;exact h hte rd n cx hnr e1 e2 ρ a w (hs.freezek q hq hg)
theorem repL_set1 {ok : Oks} {ρ : Nat → Option Value} {w : World} {c c' : C} : ∀ (j : Nat) {cs : List C} {vs : List Value},nthC cs j = c → j < cs.length → (∀ v,c.rep ok ρ w v → c'.rep ok ρ w v) → repL ok ρ w cs vs → repL ok ρ w (setC j [c'] cs) vs
  | _,[],_,_,hl,_,_=>absurd hl (Nat.not_lt_zero _)
  | 0,d :: cs,_,hj,_,hc,h=>by
    obtain ⟨v,r,e,h1,h2⟩:=h;have hj : d = c:=hj;subst hj;refine ⟨v,r,e,hc v h1,?_⟩;cases cs <;> exact h2
  | j + 1,d :: cs,_,hj,hl,hc,h=>by
    obtain ⟨v,r,e,h1,h2⟩:=h;exact ⟨v,r,e,h1,repL_set1 j hj (by simpa using hl) hc h2⟩
theorem yM {c : Code} (id j : Nat) {T : TypeId} {cs : List C} {α : Type} (E : TypeId) (R : Rd α) (hg : getO ob id = some (.box T cs)) (hj : nthC cs j = .lit (.slice none 0 0)) (hl : Nat.ble (j + 1) (lenC cs) = true)
    (h : qZ P te N nx0 c tm ((nx,.vec E R []) :: setO id (.box T (setC j [.vec nx] cs)) ob) (nx + 1) Q) : qZ P te N nx0 c tm ob nx Q:=by
  unfold qZ at h ⊢;intro hte rd n cx hnr e1 e2 ρ a w hs;obtain ⟨ρ',h1,h2⟩:=gR (E:=E) (R:=R) (xs:=[]) (v:=.slice none 0 0) hs (Below.refl _ _) (fun b hb=>by cases hb) ⟨_,_,_,rfl⟩ (fun ok' _=>⟨[],rfl,fun i hi=>absurd hi (by simp),World.ownsRow_nil _ _ _ _⟩);have hne : Nat.beq nx id = false:=by
    have:=hs.fresh _ (yF hg);simp only at this;cases hb : Nat.beq nx id
    · rfl
    · have:=Nat.eq_of_beq_eq_true hb;omega
  have hg1 : getO ((nx,Ob.vec E R []) :: ob) id = some (.box T cs):=by
    unfold getO;simp only [hne];exact hg
  have hset : setO id (.box T (setC j [.vec nx] cs)) ((nx,Ob.vec E R []) :: ob) = (nx,Ob.vec E R []) :: setO id (.box T (setC j [.vec nx] cs)) ob:=by
    rw [setO];simp only [hne]
  have hw:=h1.write (o':=.box T (setC j [.vec nx] cs)) (w':=w) hg1 ⟨rfl,rfl,rfl,Nat.le_refl _,fun _ _ _=>rfl⟩ rfl (by
    obtain ⟨b,vs,r1,r2,r3⟩:=h1.obs _ (yF hg1);refine ⟨b,vs,r1,r2,repL_set1 j hj ?_ (fun v hv=>?_) r3⟩
    · have:=Nat.le_of_ble_eq_true hl;rw [jP] at this;omega
    · rw [show v = _ from hv];exact h2)
  rw [hset] at hw;exact h hte rd n cx hnr e1 e2 ρ' a w hw
theorem acode_bld {c : Code} (id : Nat) {T : TypeId} {α : Type} (E : TypeId) (R : Rd α) (hg : getO ob id = some (.box T [.lit (.pointer none),.lit (.slice none 0 0)]))
    (h : qZ P te N nx0 c tm ((nx,.vec E R []) :: setO id (.box T [.nself false id,.vec nx]) ob) (nx + 1) Q) : qZ P te N nx0 c tm ob nx Q:=by
  unfold qZ at h ⊢;intro hte rd n cx hnr e1 e2 ρ a w hs;obtain ⟨ρ',h1,h2⟩:=gR (E:=E) (R:=R) (xs:=[]) (v:=.slice none 0 0) hs (Below.refl _ _) (fun b hb=>by cases hb) ⟨_,_,_,rfl⟩ (fun ok' _=>⟨[],rfl,fun i hi=>absurd hi (by simp),World.ownsRow_nil _ _ _ _⟩);have hne : Nat.beq nx id = false:=by
    have:=hs.fresh _ (yF hg);simp only at this;cases hb : Nat.beq nx id
    · rfl
    · have:=Nat.eq_of_beq_eq_true hb;omega
  have hg1 : getO ((nx,Ob.vec E R []) :: ob) id = some (.box T [.lit (.pointer none),.lit (.slice none 0 0)]):=by
    unfold getO;simp only [hne];exact hg
  have hset : setO id (.box T [.nself false id,.vec nx]) ((nx,Ob.vec E R []) :: ob) = (nx,Ob.vec E R []) :: setO id (.box T [.nself false id,.vec nx]) ob:=by
    rw [setO];simp only [hne]
  have hw:=h1.write (o':=.box T [.nself false id,.vec nx]) (w':=w) hg1 ⟨rfl,rfl,rfl,Nat.le_refl _,fun _ _ _=>rfl⟩ rfl (by
    obtain ⟨b,vs,r1,r2,v,t,rfl,hv,v2,t2,rfl,hv2,ht⟩:=h1.obs _ (yF hg1);refine ⟨b,_,r1,r2,v,_,rfl,⟨fun e=>by (cases e),fun _=>hv⟩,v2,_,rfl,?_,ht⟩;rw [show v2 = _ from hv2];exact h2)
  rw [hset] at hw;exact h hte rd n cx hnr e1 e2 ρ' a w hw
end
def Rd.unks : {α : Type} → Rd α → Bool
  | _,.unk=>true
  | _,.st R S=>match R.unks with
    | true=>S.unks
    | false=>false
  | _,.str=>false
  | _,.int _=>false
  | _,.bool=>false
  | _,.raw=>false
  | _,.slk _ _=>false
  | _,.ptk _ _=>false
  | _,.ifc _ _=>false
def Rd.thin : {α : Type} → Rd α → Bool
  | _,.unk=>true
  | _,.str=>true
  | _,.int _=>true
  | _,.bool=>true
  | _,.raw=>true
  | _,.slk k R=>match Nat.beq k 7 with
    | true=>R.unks
    | false=>R.thin
  | _,.ptk k R=>match Nat.beq k 7 with
    | true=>false
    | false=>R.thin
  | _,.ifc _ R=>R.thin
  | _,.st R S=>match R.thin with
    | true=>S.thin
    | false=>false
def C.thin : C → Bool
  | .slk k R _=>match Nat.beq k 7 with
    | true=>R.unks
    | false=>R.thin
  | .adk k R _=>match Nat.beq k 7 with
    | true=>R.unks
    | false=>R.thin
  | .full R _=>R.thin
  | .ifc _ c=>c.thin
  | .clo _ c=>c.thin
  | .clo2 _ c d=>match c.thin with
    | true=>d.thin
    | false=>false
  | .clo3 _ c d e=>match c.thin with
    | true=>match d.thin with
      | true=>e.thin
      | false=>false
    | false=>false
  | .ref c=>c.thin
  | _=>true
def thinL : List C → Bool
  | []=>true
  | c :: r=>match c.thin with
    | true=>thinL r
    | false=>false
def thinT : List (Bool × List C) → Bool
  | []=>true
  | p :: r=>match thinL p.2 with
    | true=>thinT r
    | false=>false
def A.thin : A → Bool
  | .one c=>c.thin
  | .agg cs=>thinL cs
  | .tup cs=>thinT cs
  | .cond _ a=>a.thin
def cY : Tm → Bool
  | []=>true
  | p :: r=>match p.2.thin with
    | true=>cY r
    | false=>false
def Ob.thin : Ob → Bool
  | .box _ cs=>thinL cs
  | .vec _ R _=>R.thin
  | .map _ R _=>R.thin
def cZ : Obs → Bool
  | []=>true
  | p :: r=>match p.2.thin with
    | true=>cZ r
    | false=>false
structure Keeps7 (ok ok' : Oks) (w w' : World) : Prop where
  low : ∀ k b,k ≠ 7 → ok k b → b < w.heap.size → ok' k b ∧ w'.heap[b]? = w.heap[b]?
  seven : ∀ b,ok 7 b → b < w.heap.size → ok' 7 b ∧ wK w w' b ∧ b < w'.heap.size
theorem ne7 {k : Nat} (h : Nat.beq k 7 = false) : k ≠ 7:=fun e=>by subst e;cases h
theorem cC : ∀ {α : Type} (R : Rd α),R.unks = true → ∀ {ok : Oks} {w : World} {cs : List Value} {x : α},cs.length = R.n → (∀ v ∈ cs,v.oneCell' = true) → R.is ok w cs x
  | _,.unk,_,_,_,cs,_,hl,hv=>by
    obtain ⟨v,rfl⟩:=List.length_eq_one_iff.1 hl;exact ⟨v,rfl,hv v (by simp)⟩
  | _,.st R S,h,_,_,cs,x,hl,hv=>by
    unfold Rd.unks at h;split at h
    · rename_i e;simp only [Rd.n] at hl;exact ⟨cs.take R.n,cs.drop R.n,(List.take_append_drop _ _).symm,cC R e (by rw [List.length_take];omega) (fun v hm=>hv v (List.mem_of_mem_take hm)),cC S h (by rw [List.length_drop];omega) (fun v hm=>hv v (List.mem_of_mem_drop hm))⟩
    · cases h
theorem xT.shape {w w' : World} {b off n : Nat} {cs : List Value} (hs : wK w w' b) (hn : 0 < n) (h : xT w b off n cs) : ∃ cs',xT w' b off n cs' ∧ ∀ v ∈ cs',v ∈ cs ∨ v.oneCell' = true:=by
  have hlen:=h.1;have hone : ∃ arr T f,w.heap[b]? = some (.cells arr T f):=by
    have h1:=h.2 0 hn;rw [List.getElem?_eq_getElem (by omega)] at h1;unfold World.cell? at h1;cases ho : w.heap[b]? with
    | none=>simp [ho] at h1
    | some o=>cases o <;> simp [ho] at h1;exact ⟨_,_,_,rfl⟩
  obtain ⟨arr,T,f,e⟩:=hone;obtain ⟨arr',e',hsz,hel⟩:=hs arr T f e;have hin : ∀ j,j < n → off + j < arr'.size:=fun j hj=>by
    have h1:=h.2 j hj;simp only [World.cell?,e,Option.isSome_none,Bool.false_eq_true,if_false] at h1;rw [List.getElem?_eq_getElem (by omega)] at h1;rw [hsz];exact (Array.getElem?_eq_some_iff.1 h1).1
  refine ⟨(List.range n).map fun j=>arr'.getD (off + j) undef,⟨by simp,fun j hj=>?_⟩,fun v hv=>?_⟩
  · simp only [World.cell?,e',Option.isSome_none,Bool.false_eq_true,if_false];have:=hin j hj;simp [List.getElem?_map,List.getElem?_range hj,Array.getD_eq_getD_getElem?,this]
  · obtain ⟨j,hj,rfl⟩:=List.mem_map.1 hv;have hj:=List.mem_range.1 hj;have hlt:=hin j hj;have h1 : arr'[off + j]? = some (arr'.getD (off + j) undef):=by simp [Array.getD_eq_getD_getElem?,hlt]
    rcases hel _ _ h1 with h2|h2
    · left
      have h3:=h.2 j hj;simp only [World.cell?,e,Option.isSome_none,Bool.false_eq_true,if_false] at h3;rw [h2] at h3;exact List.mem_of_getElem? h3.symm
    · exact .inr h2
section
variable {ok ok' : Oks} {ρ : Nat → Option Value} {w w' : World}
theorem wK.unfz {b : Nat} (hs : wK w w' b) (h : Unfz w b) : Unfz w' b:=by
  obtain ⟨cs,T,e⟩:=h;obtain ⟨cs',e',_⟩:=hs cs T _ e;exact ⟨cs',T,e'⟩
theorem unks_sl {α : Type} {R : Rd α} (hR : R.unks = true) (hk : Keeps7 ok ok' w w') {v : Value} {xs : List α} (h : SlOk R.n (fun cs x=>R.is ok w cs x) (okU ok w 7) w v xs) : SlOk R.n (fun cs x=>R.is ok' w' cs x) (okU ok' w' 7) w' v xs:=by
  obtain ⟨a,cap,h1,h2,h3,h4⟩:=h;refine ⟨a,cap,h1,h2,h3,fun i hi=>?_⟩;obtain ⟨b,off,cs,h5,h6,h7,h8,h9⟩:=h4 i hi;obtain ⟨g1,g2,g3⟩:=hk.seven b h6.1 h7;obtain ⟨cs',g4,g5⟩:=h8.shape g2 R.n_pos;exact ⟨b,off,cs',h5,⟨g1,fun e=>g2.unfz (h6.2 e)⟩,g3,g4,cC R hR g4.1 fun u hu=>(g5 u hu).elim (R.ones h9 u) id⟩
theorem Rd.kept7 : ∀ {α : Type} (R : Rd α) {cs : List Value} {x : α},R.thin = true → Keeps7 ok ok' w w' → R.is ok w cs x → R.is ok' w' cs x
  | _,.str,_,_,_,_,h=>h
  | _,.int _,_,_,_,_,h=>h
  | _,.bool,_,_,_,_,h=>h
  | _,.raw,_,_,_,_,h=>h
  | _,.unk,_,_,_,_,h=>h
  | _,.slk k R,_,_,ht,hk,h=>by
    unfold Rd.thin at ht;obtain ⟨v,e1,h⟩:=h;split at ht
    · rename_i e;have e:=Nat.eq_of_beq_eq_true e;subst e;exact ⟨v,e1,unks_sl ht hk h⟩
    · rename_i e;obtain ⟨a,cap,h1,h2,h3,h4⟩:=h;refine ⟨v,e1,a,cap,h1,h2,h3,fun i hi=>?_⟩;obtain ⟨b,off,cs,h5,h6,h7,h8,h9⟩:=h4 i hi;have hb:=hk.low k b (ne7 e) h6.1 h7;exact ⟨b,off,cs,h5,⟨hb.1,fun e=>(wK.rfl' hb.2).unfz (h6.2 e)⟩,kL hb.2 h7,h8.of_block hb.2,Rd.kept7 R ht hk h9⟩
  | _,.ptk k R,_,_,ht,hk,h=>by
    unfold Rd.thin at ht;split at ht
    · cases ht
    · rename_i e;obtain ⟨b,off,cs,h5,h6,h7,h8,h9⟩:=h;have hb:=hk.low k b (ne7 e) h6.1 h7;exact ⟨b,off,cs,h5,⟨hb.1,fun e=>(wK.rfl' hb.2).unfz (h6.2 e)⟩,kL hb.2 h7,h8.of_block hb.2,Rd.kept7 R ht hk h9⟩
  | _,.ifc _ R,_,_,ht,hk,h=>by
    obtain ⟨u,e,h⟩:=h;exact ⟨u,e,Rd.kept7 R ht hk h⟩
  | _,.st R S,_,_,ht,hk,h=>by
    unfold Rd.thin at ht;split at ht
    · rename_i e;obtain ⟨c,d,e1,h1,h2⟩:=h;exact ⟨c,d,e1,Rd.kept7 R e hk h1,Rd.kept7 S ht hk h2⟩
    · cases ht
theorem SlOk.kept7 {k : Nat} {α : Type} {R : Rd α} (hk : Keeps7 ok ok' w w') (hk7 : k ≠ 7) (ht : R.thin = true) {v : Value} {xs : List α} (h : SlOk R.n (fun cs x=>R.is ok w cs x) (okU ok w k) w v xs) : SlOk R.n (fun cs x=>R.is ok' w' cs x) (okU ok' w' k) w' v xs:=by
  obtain ⟨a,cap,h1,h2,h3,h4⟩:=h;refine ⟨a,cap,h1,h2,h3,fun i hi=>?_⟩;obtain ⟨b,off,cs,h5,h6,h7,h8,h9⟩:=h4 i hi;have hb:=hk.low k b hk7 h6.1 h7;exact ⟨b,off,cs,h5,⟨hb.1,fun e=>(wK.rfl' hb.2).unfz (h6.2 e)⟩,kL hb.2 h7,h8.of_block hb.2,Rd.kept7 R ht hk h9⟩
theorem C.kept7 (hk : Keeps7 ok ok' w w') : ∀ {c : C} {v : Value},c.thin = true → c.rep ok ρ w v → c.rep ok' ρ w' v
  | .any,_,_,_=>trivial
  | .lit _,_,_,h=>h
  | .slk k R _,_,ht,h=>by
    unfold C.thin at ht;split at ht
    · rename_i e;have e:=Nat.eq_of_beq_eq_true e;subst e;exact unks_sl ht hk h
    · rename_i e;exact SlOk.kept7 hk (ne7 e) ht h
  | .full R _,_,ht,h=>⟨SlOk.kept7 hk (by decide) ht h.1,h.2⟩
  | .adk k R _,_,ht,h=>by
    unfold C.thin at ht;split at ht
    · rename_i e;have e:=Nat.eq_of_beq_eq_true e;subst e;obtain ⟨b,off,cs,h5,h6,h7,h8,h9⟩:=h;obtain ⟨g1,g2,g3⟩:=hk.seven b h6.1 h7;obtain ⟨cs',g4,g5⟩:=h8.shape g2 R.n_pos;exact ⟨b,off,cs',h5,⟨g1,fun e=>g2.unfz (h6.2 e)⟩,g3,g4,cC R ht g4.1 fun u hu=>(g5 u hu).elim (R.ones h9 u) id⟩
    · rename_i e;obtain ⟨b,off,cs,h5,h6,h7,h8,h9⟩:=h;have hb:=hk.low k b (ne7 e) h6.1 h7;exact ⟨b,off,cs,h5,⟨hb.1,fun e=>(wK.rfl' hb.2).unfz (h6.2 e)⟩,kL hb.2 h7,h8.of_block hb.2,Rd.kept7 R ht hk h9⟩
  | .own _ _,_,_,h=>h
  | .vec _,_,_,h=>h
  | .vel _ _ _,_,_,h=>h
  | .ifc _ c,_,ht,h=>by
    obtain ⟨u,hv,h⟩:=h;exact ⟨u,hv,C.kept7 hk (c:=c) ht h⟩
  | .clo _ c,_,ht,h=>by
    obtain ⟨u,hv,h⟩:=h;exact ⟨u,hv,C.kept7 hk (c:=c) ht h⟩
  | .clo2 _ c d,_,ht,h=>by
    obtain ⟨u,x,hv,h,h'⟩:=h;unfold C.thin at ht;split at ht
    · rename_i e;exact ⟨u,x,hv,C.kept7 hk (c:=c) e h,C.kept7 hk (c:=d) ht h'⟩
    · cases ht
  | .clo3 _ c d k,_,ht,h=>by
    obtain ⟨u,x,y,hv,h,h',h''⟩:=h;unfold C.thin at ht;split at ht
    · rename_i e;split at ht
      · rename_i e2;exact ⟨u,x,y,hv,C.kept7 hk (c:=c) e h,C.kept7 hk (c:=d) e2 h',C.kept7 hk (c:=k) ht h''⟩
      · cases ht
    · cases ht
  | .ref c,_,ht,h=>by
    obtain ⟨b,off,u,hv,hb,hlt,hc,hr⟩:=h;have hkb:=hk.low 0 b (by decide) hb hlt;exact ⟨b,off,u,hv,hkb.1,kL hkb.2 hlt,hc.of_block hkb.2,C.kept7 hk (c:=c) ht hr⟩
  | .nself _ _,_,_,h=>h
  | .fx _ _,_,_,h=>h
  | .vof _ _ _ _,_,_,h=>h
  | .mp _,_,_,h=>h
theorem repL.kept7 (hk : Keeps7 ok ok' w w') : ∀ {cs : List C} {vs : List Value},thinL cs = true → repL ok ρ w cs vs → repL ok' ρ w' cs vs
  | [],_,_,h=>h
  | _ :: _,_,ht,h=>by
    unfold thinL at ht;split at ht
    · rename_i e;obtain ⟨v,r,e1,h1,h2⟩:=h;exact ⟨v,r,e1,C.kept7 hk e h1,repL.kept7 hk ht h2⟩
    · cases ht
theorem repV.kept7 (hk : Keeps7 ok ok' w w') : ∀ {g : Bool} {cs : List C} {v : Value},thinL cs = true → repV ok ρ w g cs v → repV ok' ρ w' g cs v
  | true,_,_,ht,h=>by obtain ⟨vs,e,h⟩:=h;exact ⟨vs,e,h.kept7 hk ht⟩
  | false,_,_,ht,h=>repL.kept7 hk ht h
theorem repT.kept7 (hk : Keeps7 ok ok' w w') : ∀ {cs : List (Bool × List C)} {vs : List Value},thinT cs = true → repT ok ρ w cs vs → repT ok' ρ w' cs vs
  | [],_,_,h=>h
  | _ :: _,_,ht,h=>by
    unfold thinT at ht;split at ht
    · rename_i e;obtain ⟨v,r,e1,h1,h2⟩:=h;exact ⟨v,r,e1,h1.kept7 hk e,h2.kept7 hk ht⟩
    · cases ht
theorem A.kept7 (hk : Keeps7 ok ok' w w') : ∀ {a : A} {v : Value},a.thin = true → a.rep ok ρ w v → a.rep ok' ρ w' v
  | .one _,_,ht,h=>C.kept7 hk ht h
  | .agg _,_,ht,h=>repV.kept7 hk ht h
  | .tup _,_,ht,h=>by obtain ⟨vs,e,h⟩:=h;exact ⟨vs,e,h.kept7 hk ht⟩
  | .cond _ a,_,ht,h=>⟨fun hb=>A.kept7 hk (a:=a) ht (h.1 hb),h.2⟩
theorem Ob.kept7 (hk : Keeps7 ok ok' w w') {id : Nat} {o : Ob} (ht : o.thin = true) (hb : ∀ b,blk (ρ id) = some b → w'.heap[b]? = w.heap[b]?) (h : o.is ok ρ w id) : o.is ok' ρ w' id:=by
  cases o with
  | box T cs =>
    obtain ⟨b,vs,h1,h2,h3⟩:=h;exact ⟨b,vs,h1,by rw [hb b (by rw [h1];rfl)];exact h2,h3.kept7 hk ht⟩
  | vec E R xs =>
    obtain ⟨v,hv,css,h1,h2,h3⟩:=h;refine ⟨v,hv,css,h1,fun i hi=>Rd.kept7 R ht hk (h2 i hi),h3.1,?_⟩;rcases h3.2 with h4|⟨g,cap,cur,h4,h5,h6,h7⟩
    · exact .inl h4
    · exact .inr ⟨g,cap,cur,h4,h5,by rw [hb g (by rw [hv,h4];rfl)];exact h6,h7⟩
  | map g R es =>
    obtain ⟨r,h1,h2⟩:=h;exact ⟨r,h1,h2.imp (hb r (by rw [h1];rfl)) fun _ _ h=>Rd.kept7 R ht hk h⟩
theorem thinTm_get : ∀ {tm : Tm} (i : Nat),cY tm = true → (get tm i).thin = true
  | [],_,_=>rfl
  | p :: r,i,h=>by
    unfold cY at h;split at h
    · rename_i h1;rw [jR];split
      · exact h1
      · exact thinTm_get i h
    · cases h
theorem thinOb_mem : ∀ {ob : Obs} {p : Nat × Ob},cZ ob = true → p ∈ ob → p.2.thin = true
  | [],_,_,h=>by cases h
  | q :: r,p,h,hp=>by
    unfold cZ at h;split at h
    · rename_i h1;rcases List.mem_cons.1 hp with hp|hp
      · subst hp;exact h1
      · exact thinOb_mem h hp
    · cases h
end
structure Spoilt (B : Nat → Prop) (w w' : World) : Prop where
  os : w'.os = w.os
  tape : w'.tape = w.tape
  output : w'.output = w.output
  size : w.heap.size ≤ w'.heap.size
  block : ∀ b,b < w.heap.size → ¬ B b → w'.heap[b]? = w.heap[b]?
  shape : ∀ b,wK w w' b
  other : ∀ (b : Nat) (o : Obj),w.heap[b]? = some o → Obj.noCells o → w'.heap[b]? = some o
abbrev rUnk2 : Rd (Unit × Unit):=.st .unk .unk
def ASpoil (P : Program) (f : FuncId) : Prop :=
  FnOk P f ∧ ∀ (ok : Oks) (w : World) (v : Value) (xs : List (Unit × Unit)),cA ok w → (∀ g,g < nGlob → ¬ ok 7 g) → SlOk rUnk2.n (fun cs x=>rUnk2.is ok w cs x) (okU ok w 7) w v xs → Calls P f #[v] w fun e w'=>∃ u,e = .returned u ∧ Spoilt (ok 7) w w'
section
variable {P : Program} {te : List (TypeId × TyI)} {cx : Cx} {tm : Tm} {ob : Obs} {nx N nx0 : Nat} {ρ : Nat → Option Value} {a : Act} {w w' : World} {Q : AQ}
theorem ok7_bag (hf : cx.flag) {b : Nat} (h : okOf cx ρ ob 7 b) : cx.bag b:=by
  rcases h.1 with h1|h1|h1
  · exact ⟨hf,h1⟩
  · exact absurd rfl h1.2.1
  · exact absurd rfl h1.1.1
theorem StOk.spoil (hs : StOk cx tm ob nx ρ a w) (hf : cx.flag) (ht : cY tm = true) (ho : cZ ob = true) (hsp : Spoilt (okOf cx ρ ob 7) w w') : StOk cx tm ob nx ρ a w':=by
  have hno : ∀ k b,k ≠ 7 → okOf cx ρ ob k b → ¬ okOf cx ρ ob 7 b:=fun k b h7 hk h=>by
    have hb:=ok7_bag hf h;obtain ⟨h1,h2⟩:=hs.bags b hb;rcases hk.1 with h3|h3|⟨_,i,hi,h3⟩
    · exact h2 k h7 h3
    · have:=h3.1;omega
    · exact hs.disj i b hi h3 7 hb.2
  have hk : Keeps7 (okOf cx ρ ob) (okOf cx ρ ob) w w':=⟨fun k b h7 h hlt=>⟨h,hsp.block b hlt (hno k b h7 h)⟩,fun b h hlt=>⟨h,hsp.shape b,Nat.lt_of_lt_of_le hlt hsp.size⟩⟩;refine ⟨hs.size,hs.defers.kept (fun b o e hn=>(hsp.other b o e hn).trans e.symm),fun i=>A.kept7 hk (thinTm_get i ht) (hs.tms i),fun p hp=>Ob.kept7 hk (thinOb_mem ho hp) (fun b e=>hsp.block b (hs.low p hp b e).1 fun h=>h.2 p hp e) (hs.obs p hp),hs.nd,hs.fresh,hs.names,hs.nx0,hs.sep,
    fun p hp b e=>⟨Nat.lt_of_lt_of_le (hs.low p hp b e).1 hsp.size,(hs.low p hp b e).2⟩,⟨hsp.os.trans hs.keep.os,hsp.tape.trans hs.keep.tape,hsp.output.trans hs.keep.output,Nat.le_trans hs.keep.size hsp.size,fun b h1 h2 h3=>?_,fun b hb=>(hs.keep.shape b hb).trans (hsp.shape b)⟩,hs.disj,hs.pin,hs.glob,hs.bags⟩
  rw [hsp.block b (Nat.lt_of_lt_of_le h1 hs.keep.size) fun h=>h3 (ok7_bag hf h)];exact hs.keep.block b h1 h2 h3
theorem iS {id : Nat} {ops : Array Oper} (k : Nat) {post : List Oper} {o : Oper} {f : Operand} {args : Array Operand} {ts : Array TypeId} (hk : ops.toList.drop k = o :: post) (hop : o.op = .call { callee:=.value f,args:=args,argTypes:=ts }) (hg : o.guard = none) (hn : Nat.ble 1000000 nx0 = true)
    (h : awp P te N nx0 ops.toList (ops.toList.take k) tm ob nx (fun tm1 ob1 nx1=>∃ g xs,tgt (look tm1 f) = some (g,[]) ∧ ASpoil P g ∧ mapL (look tm1) args.toList = [.one (.slk 7 rUnk2 xs)] ∧ cY tm1 = true ∧ cZ ob1 = true ∧
      put N o.dst (.one .any) tm1 fun tm2=>awp P te N nx0 ops.toList post tm2 ob1 nx1 fun tm ob nx=>Q .normal tm ob nx)) : qZ P te N nx0 (.region id ops false) tm ob nx Q:=by
  unfold qZ;intro hte rd n cx hnr e1 e2 ρ a w hs;subst e1 e2;have hf : cx.flag:=hnr.1 (Nat.le_of_ble_eq_true hn);refine wpIn_region_list ?_;have hops : ops.toList = ops.toList.take k ++ o :: post:=by rw [← hk,List.take_append_drop]
  rw [hops];refine jI hte ops (o :: post) (ops.toList.take k) h hs ?_
  rintro tm1 ob1 nx1 ρ1 a1 w1 ⟨g,xs,ht,hsp,hargs,hth,hto,hput⟩ hs1
  have hreps:=uN (w:=w1) (lk:=look tm1) (xs:=args.toList) (fun x _=>hs1.look x);rw [hargs] at hreps;obtain ⟨v,r,hv,hsl,hr⟩:=hreps;obtain ⟨cs,hfv,hcs⟩:=wL ht (hs1.look f);rw [show cs = [] from hcs] at hfv;have hcall:=hsp.2 (okOf cx ρ1 ob1) w1 v xs hs1.globAt (fun g hg h=>(hs1.bags g (ok7_bag hf h)).2 0 (by decide) (hs1.glob.1 g hg)) hsl;refine kQ hg (fun c e=>by rw [hop] at e;cases e) ?_;unfold Oper.wp;rw [uS (cs:=[]) hop hfv hsp.1,hv,show r = [] from hr];refine hcall.mono ?_
  rintro e w2 ⟨u,rfl,hs2⟩
  obtain ⟨tm2,hk2,hs3⟩:=(hs1.spoil hf hth hto hs2).put (u:=u) hput trivial;exact jV hte ops post hk2 hs3 (fun tm ob nx ρ a w hq hs=>⟨tm,ob,nx,ρ,hq,hs⟩)
end
def xK (ob : Obs) (ρ : Nat → Option Value) : Nat → Option Value:=fun i=>match getO ob i with
  | some _=>ρ i
  | none=>none
def OwnB (ob : Obs) (ρ : Nat → Option Value) (b : Nat) : Prop:=∃ p ∈ ob,blk (ρ p.1) = some b
structure zZ (w w' : World) : Prop where
  os : w'.os = w.os
  tape : w'.tape = w.tape
  output : w'.output = w.output
  size : w.heap.size ≤ w'.heap.size
theorem zZ.trans {a b c : World} (h : zZ a b) (k : zZ b c) : zZ a c:=⟨k.os.trans h.os,k.tape.trans h.tape,k.output.trans h.output,Nat.le_trans h.size k.size⟩
theorem Keep.grows {cx : Cx} {w : World} (h : Keep cx w) : zZ cx.w0 w:=⟨h.os,h.tape,h.output,h.size⟩
theorem zL (w : World) (b : Nat) (o : Obj) : zZ w (w.putObj b o):=⟨rfl,rfl,rfl,by rw [World.putObj_size];exact Nat.le_refl _⟩
theorem getO_mem : ∀ {ob : Obs} {p : Nat × Ob},p ∈ ob → ∃ o,getO ob p.1 = some o
  | [],_,h=>by cases h
  | q :: r,p,h=>by
    unfold getO;split
    · exact ⟨_,rfl⟩
    · rename_i e;rcases List.mem_cons.1 h with h|h
      · subst h;simp at e
      · exact getO_mem h
theorem zJ {ob : Obs} {ρ : Nat → Option Value} {p : Nat × Ob} (h : p ∈ ob) : xK ob ρ p.1 = ρ p.1:=by
  obtain ⟨o,ho⟩:=getO_mem h;unfold xK;rw [ho]
theorem uV {ob : Obs} {ρ : Nat → Option Value} {i : Nat} {v : Value} (h : xK ob ρ i = some v) : ρ i = some v ∧ ∃ o,(i,o) ∈ ob:=by
  unfold xK at h;split at h
  · rename_i o ho;exact ⟨h,o,yF ho⟩
  · cases h
theorem xL {ob : Obs} {ρ : Nat → Option Value} {i b : Nat} (h : blk (xK ob ρ i) = some b) : OwnB ob ρ b:=by
  cases e : xK ob ρ i with
  | none=>rw [e] at h;cases h
  | some v =>
    obtain ⟨h1,o,h2⟩:=uV e;rw [e] at h;exact ⟨_,h2,by rw [h1];exact h⟩
section
variable {P : Program} {te : List (TypeId × TyI)} {cx : Cx} {tm : Tm} {ob : Obs} {nx N : Nat} {ρ : Nat → Option Value} {a : Act} {w w' : World} {ok : Oks} {hids : List (Nat × Obj)}
abbrev anew (ok : Oks) (ob : Obs) (ρ : Nat → Option Value) (w : World) (N nx : Nat) (hids : List (Nat × Obj)) : Cx:=⟨ok,xK ob ρ,w,N,nx,hids,false⟩
theorem xU (hf : ∀ p ∈ ob,p.1 < nx) : xK ob ρ nx = none:=by
  cases h : xK ob ρ nx with
  | none=>rfl
  | some v =>
    obtain ⟨_,o,h1⟩:=uV h;exact absurd (hf _ h1) (Nat.lt_irrefl nx)
theorem StOk.anew (h : StOk cx tm ob nx ρ a w) {ok : Oks} (hok : ∀ k b,okOf cx ρ ob k b → jK w b → ok k b) (hno : ∀ k b,ok k b → ¬ OwnB ob ρ b) (hd : a.defers = []) (hh : HidOk hids w) : StOk (anew ok ob ρ w cx.N nx hids) tm ob nx ρ a w:=by
  have hk : xI (okc (okOf cx ρ ob) w) (okOf (Ab.anew ok ob ρ w cx.N nx hids) ρ ob) w w:=fun _ b hb _=>⟨⟨.inl (hok _ b hb.1 hb.2),hb.1.2⟩,rfl⟩
  refine ⟨h.size,⟨⟨(fun e=>by cases e),fun _=>hd⟩,hh⟩,fun i=>A.kept hk (A.cells (h.tms i)),fun p hp=>Ob.kept hk (fun _ _=>rfl) (Ob.okcells (h.obs p hp)),h.nd,h.fresh,h.names,Nat.le_refl _,h.sep,
    fun p hp b e=>⟨(h.low p hp b e).1,.inr ⟨p.1,h.fresh p hp,by show blk (xK ob ρ p.1) = _;rw [zJ hp];exact e⟩⟩,⟨rfl,rfl,rfl,Nat.le_refl _,fun _ _ _ _=>rfl,fun _ _=>.rfl' rfl⟩,fun i b _ e k hb=>hno k b hb (xL e),fun i _ p e=>?_,?_,.none (xU h.fresh)⟩
  · have e : xK ob ρ i = some (.pointer p):=e;show ρ i = xK ob ρ i;rw [e];exact (uV e).1
  · obtain ⟨h1,h2,h3⟩:=h.globAt;exact ⟨fun g hg=>hok 0 g (h1 g hg) (jK.of (h3.cells g hg)),h2,h3⟩
theorem StOk.other (h : StOk (Ab.anew ok ob ρ w N nx hids) tm ob nx ρ a w) (hg : zZ w w') (hs : ∀ b,b < w.heap.size → ((∃ k,ok k b) ∨ OwnB ob ρ b) → w'.heap[b]? = w.heap[b]?) (hh : HidOk hids w') : StOk (Ab.anew ok ob ρ w' N nx hids) tm ob nx ρ a w':=by
  have hk : xI (okOf (Ab.anew ok ob ρ w N nx hids) ρ ob) (okOf (Ab.anew ok ob ρ w' N nx hids) ρ ob) w w':=fun _ b hb hlt=>by
    rcases hb.1 with h1|h1|⟨_,i,_,h1⟩
    · exact ⟨⟨.inl h1,hb.2⟩,hs b hlt (.inl ⟨_,h1⟩)⟩
    · have : w.heap.size ≤ b:=h1.1;omega
    · obtain ⟨p,hp,e⟩:=xL h1;exact absurd e (hb.2 p hp)
  refine ⟨h.size,⟨⟨(fun e=>by cases e),h.defers.1.2⟩,hh⟩,fun i=>A.kept hk (h.tms i),fun p hp=>Ob.kept hk (fun b hb=>hs b (h.low p hp b hb).1 (.inr ⟨p,hp,hb⟩)) (h.obs p hp),h.nd,h.fresh,h.names,Nat.le_refl _,h.sep,
    fun p hp b e=>⟨Nat.lt_of_lt_of_le (h.low p hp b e).1 hg.size,.inr ⟨p.1,h.fresh p hp,by show blk (xK ob ρ p.1) = _;rw [zJ hp];exact e⟩⟩,⟨rfl,rfl,rfl,Nat.le_refl _,fun _ _ _ _=>rfl,fun _ _=>.rfl' rfl⟩,h.disj,h.pin,?_,.none (xU h.fresh)⟩
  obtain ⟨h1,h2,h3⟩:=h.glob;exact ⟨h1,Nat.le_trans h2 hg.size,h3.kept fun g hlt=>hs g (Nat.lt_of_lt_of_le hlt h2) (.inl ⟨0,h1 g hlt⟩)⟩
theorem StOk.more (h : StOk (Ab.anew ok ob ρ w N nx hids) tm ob nx ρ a w) {ok' : Oks} {hids' : List (Nat × Obj)} (hm : ∀ k b,ok k b → ok' k b) (hno : ∀ k b,ok' k b → ¬ OwnB ob ρ b) (hh : HidOk hids' w) : StOk (Ab.anew ok' ob ρ w N nx hids') tm ob nx ρ a w:=by
  have hk : xI (okOf (Ab.anew ok ob ρ w N nx hids) ρ ob) (okOf (Ab.anew ok' ob ρ w N nx hids') ρ ob) w w:=fun _ b hb _=>⟨⟨hb.1.imp (hm _ b) id,hb.2⟩,rfl⟩
  exact ⟨h.size,⟨⟨(fun e=>by cases e),h.defers.1.2⟩,hh⟩,fun i=>A.kept hk (h.tms i),fun p hp=>Ob.kept hk (fun _ _=>rfl) (h.obs p hp),h.nd,h.fresh,h.names,h.nx0,h.sep,h.low,⟨h.keep.os,h.keep.tape,h.keep.output,h.keep.size,fun b h1 h2 _=>h.keep.block b h1 h2 fun hg=>wE (cx:=Ab.anew ok ob ρ w N nx hids) (xU h.fresh) hg.1,fun b hb=>absurd hb.1 (wE (cx:=Ab.anew ok' ob ρ w N nx hids') (xU h.fresh))⟩,fun i b _ e k hb=>hno k b hb (xL e),h.pin,⟨fun g hg=>hm 0 g (h.glob.1 g hg),h.glob.2⟩,.none (xU h.fresh)⟩
end
structure Two (ok : Oks) (own : Nat → Prop) (ok' : Oks) (own' : Nat → Prop) (w : World) : Prop where
  lt1 : ∀ k b,ok k b → b < w.heap.size
  lt2 : ∀ b,own b → b < w.heap.size
  lt3 : ∀ k b,ok' k b → b < w.heap.size
  lt4 : ∀ b,own' b → b < w.heap.size
  ij : ∀ k b,ok k b → ¬ own' b
  ji : ∀ k b,ok' k b → ¬ own b
  ss : ∀ b,own b → ¬ own' b
def vR {ι : Type} (n0 : Nat) (J : ι → Oks → (Nat → Prop) → World → Prop) : Prop :=
  ∀ i ok own w w',J i ok own w → zZ w w' → (∀ b,b < w.heap.size → b < n0 ∨ (∃ k,ok k b) ∨ own b → w'.heap[b]? = w.heap[b]?) → J i ok own w'
def bY (P : Program) (l : Nat) (xs : List (List A)) {ι : Type} (Pr : Bool → Nat → ι → Prop) (J : ι → Oks → (Nat → Prop) → World → Prop) (U : Oks) (n0 : Nat) : Prop :=
  ∀ (k : Nat) (i : ι) (ok ok' : Oks) (own' : Nat → Prop) (W : World) (vs : List Value) (n : Nat) (hk : k < xs.length),Pr false k i → J i ok' own' W → Two ok (fun _=>False) ok' own' W → (∀ k b,ok k b → U k b) → n0 ≤ W.heap.size → yX ok yI W (xs[k]) vs →
    YieldAt (FR none) n P l vs.toArray W fun e W'=>zZ W W' ∧ (∀ b,b < W.heap.size → ¬ own' b → W'.heap[b]? = W.heap[b]?) ∧ ∃ st j ok2 own2,e = .returned (.bool (!st)) ∧ Pr st (k + 1) j ∧ J j ok2 own2 W' ∧
      (∀ b,own2 b → own' b ∨ W.heap.size ≤ b) ∧ (∀ k b,ok2 k b → ok' k b ∨ ok k b ∨ (frK k ∧ (own' b ∨ W.heap.size ≤ b))) ∧ (∀ k b,ok2 k b → b < W'.heap.size) ∧ ∀ b,own2 b → b < W'.heap.size
def AIter (P : Program) (g : FuncId) (caps : List A) (xs : List (List A)) : Prop :=
  FnOk P g ∧ ∀ (l : Nat) (ι : Type) (Pr : Bool → Nat → ι → Prop) (J : ι → Oks → (Nat → Prop) → World → Prop) (U : Oks) (n0 : Nat),(∀ k b,frK k → n0 ≤ b → U k b) → vR n0 J → bY P l xs Pr J U n0 →
    ∀ (i : ι) (ok ok' : Oks) (own' : Nat → Prop) (W : World) (vs : List Value),Pr false 0 i → J i ok' own' W → cA ok W → Two ok (fun _=>False) ok' own' W → (∀ k b,ok k b → U k b) → n0 = W.heap.size → yX ok yI W caps vs →
      Calls P g (.func (.yield l) #[] #[] :: vs).toArray W fun e W'=>(∃ v,e = .returned v) ∧ ∃ st k j ok2 own2,(st = false → k = xs.length) ∧ Pr st k j ∧ J j ok2 own2 W'
section
variable {P : Program} {te : List (TypeId × TyI)} {N : Nat} {l : Nat} {xs : List (List A)} {ι : Type} {Pr : Bool → Nat → ι → Prop} {J : ι → Oks → (Nat → Prop) → World → Prop} {U : Oks} {n0 : Nat}
def YS (N : Nat) {ι : Type} (Pr : Bool → Nat → ι → Prop) (J : ι → Oks → (Nat → Prop) → World → Prop) (U : Oks) (n0 : Nat) (st : Bool) (k : Nat) (tm : Tm) (ob : Obs) (nx : Nat) (a : Act) (w : World) : Prop :=
  ∃ (ok : Oks) (ρ : Nat → Option Value) (i : ι) (ok' : Oks) (own' : Nat → Prop),StOk (anew ok ob ρ w N nx []) tm ob nx ρ a w ∧ Two ok (OwnB ob ρ) ok' own' w ∧ ((∀ k b,ok k b ∨ (frK k ∧ OwnB ob ρ b) → U k b) ∧ ∀ b,OwnB ob ρ b → n0 ≤ b) ∧ n0 ≤ w.heap.size ∧ Pr st k i ∧ J i ok' own' w
def YQ:=Exit → Bool → Nat → Tm → Obs → Nat → Prop
def kX (P : Program) (te : List (TypeId × TyI)) (N : Nat) {ι : Type} (Pr : Bool → Nat → ι → Prop) (J : ι → Oks → (Nat → Prop) → World → Prop) (U : Oks) (n0 : Nat) (c : Code) (st : Bool) (k : Nat) (tm : Tm) (ob : Obs) (nx : Nat) (Q : YQ) : Prop :=
  TEok P te → ∀ (n : Nat) (a : Act) (w : World),YS N Pr J U n0 st k tm ob nx a w → c.wpIn (FR none) n P (fun e a' w'=>∃ st' k' tm' ob' nx',Q e st' k' tm' ob' nx' ∧ YS N Pr J U n0 st' k' tm' ob' nx' a' w') a w
variable {st : Bool} {k : Nat} {tm : Tm} {ob : Obs} {nx : Nat} {Q : YQ}
theorem vS {tm' : Tm} {ob' : Obs} {nx' : Nat} {a' : Act} {w w' : World} {ok ok' : Oks} {own' : Nat → Prop} {ρ ρ' : Nat → Option Value} {i : ι} (hab : vR n0 J) (hU : ∀ k b,frK k → n0 ≤ b → U k b)
    (h2 : Two ok (OwnB ob ρ) ok' own' w) (hu : (∀ k b,ok k b ∨ (frK k ∧ OwnB ob ρ b) → U k b) ∧ ∀ b,OwnB ob ρ b → n0 ≤ b) (hn : n0 ≤ w.heap.size) (hp : Pr st k i) (hj : J i ok' own' w) (hf : ∀ p ∈ ob,p.1 < nx)
    (hs' : StOk (anew ok ob ρ w N nx []) tm' ob' nx' ρ' a' w') : YS N Pr J U n0 st k tm' ob' nx' a' w':=by
  have hg:=hs'.keep.grows;have hown : ∀ b,OwnB ob' ρ' b → w.heap.size ≤ b ∨ OwnB ob ρ b:=by
    rintro b ⟨p,hp,e⟩
    rcases (hs'.low p hp b e).2 with h|⟨_,_,h⟩
    · exact .inl h
    · exact .inr (xL h)
  have hokk : ∀ k b,okOf (anew ok ob ρ w N nx []) ρ' ob' k b → ok k b ∨ (w.heap.size ≤ b ∧ frK k) ∨ (frK k ∧ OwnB ob ρ b):=by
    rintro k b ⟨h|h|⟨h7,j,_,h⟩,_⟩
    · exact .inl h
    · exact .inr (.inl h)
    · exact .inr (.inr ⟨h7,xL h⟩)
  refine ⟨fun k b=>okOf (anew ok ob ρ w N nx []) ρ' ob' k b ∧ b < w'.heap.size,ρ',i,ok',own',?_,⟨fun k b h=>h.2,?_,?_,?_,?_,?_,?_⟩,?_,Nat.le_trans hn hg.size,hp,?_⟩
  · refine hs'.anew (fun k b h hc=>⟨h,?_⟩) (fun k b h ⟨p,hp,e⟩=>h.1.2 p hp e) (hs'.defers.1.2 rfl) (fun q hq=>by cases hq);obtain ⟨_,e,_⟩:=hc;exact (Array.getElem?_eq_some_iff.1 e).1
  · rintro b ⟨p,hp,e⟩;exact (hs'.low p hp b e).1
  · exact fun k b h=>Nat.lt_of_lt_of_le (h2.lt3 k b h) hg.size
  · exact fun b h=>Nat.lt_of_lt_of_le (h2.lt4 b h) hg.size
  · rintro k b ⟨h,_⟩ h'
    rcases hokk k b h with h|h|h
    · exact h2.ij k b h h'
    · have : w.heap.size ≤ b:=h.1;have:=h2.lt4 b h';omega
    · exact h2.ss b h.2 h'
  · intro k b h h';rcases hown b h' with h1|h1
    · have:=h2.lt3 k b h;omega
    · exact h2.ji k b h h1
  · intro b h h';rcases hown b h with h1|h1
    · have:=h2.lt4 b h';omega
    · exact h2.ss b h1 h'
  · refine ⟨?_,fun b h=>?_⟩
    · rintro k b (h|h)
      · rcases hokk k b h.1 with h|h|h
        · exact hu.1 k b (.inl h)
        · exact hU k b h.2 (Nat.le_trans hn h.1)
        · exact hu.1 k b (.inr h)
      · rcases hown b h.2 with h3|h3
        · exact hU k b h.1 (Nat.le_trans hn h3)
        · exact hu.1 k b (.inr ⟨h.1,h3⟩)
    · rcases hown b h with h|h
      · exact Nat.le_trans hn h
      · exact hu.2 b h
  · refine hab i ok' own' w w' hj hg fun b hb ho=>hs'.keep.block b hb (fun ⟨j,_,e⟩=>?_) (fun hg=>wE (cx:=anew ok ob ρ w N nx []) (xU hf) hg.1)
    have h3:=xL e;rcases ho with ho|⟨k,ho⟩|ho
    · have:=hu.2 b h3;omega
    · exact h2.ji k b ho h3
    · exact h2.ss b h3 ho
theorem xC {c : Code} (hab : vR n0 J) (hU : ∀ k b,frK k → n0 ≤ b → U k b) (hr : rngs c = false) (h : qZ P te N nx c tm ob nx (fun e tm1 ob1 nx1=>∃ tm' ob' nx',Le nx tm1 ob1 nx1 tm' ob' nx' ∧ Q e st k tm' ob' nx')) (hnx : Nat.ble 1000000 nx = false:=by rfl) : kX P te N Pr J U n0 c st k tm ob nx Q:=by
  rintro hte n a w ⟨ok,ρ,i,ok',own',hs,h2,hu,hn,hp,hj⟩
  unfold qZ at h;refine Code.wpIn_mono ?_ (h hte none n (anew ok ob ρ w N nx []) (eP hnx hr) rfl rfl ρ a w hs)
  rintro e a' w' ⟨tm1,ob1,nx1,ρ1,⟨tm',ob',nx',hle,hq⟩,hs1⟩
  obtain ⟨ρ',hs'⟩:=hle.st _ rfl ρ1 a' w' hs1;exact ⟨st,k,tm',ob',nx',hq,vS hab hU h2 hu hn hp hj hs.fresh hs'⟩
def thenY (K : Bool → Nat → Tm → Obs → Nat → Prop) (Q : YQ) : YQ:=fun e st k tm ob nx=>match e with
  | .normal=>K st k tm ob nx
  | e=>Q e st k tm ob nx
def blockY (id : Nat) (Q : YQ) : YQ:=fun e st k tm ob nx=>match e with
  | .exit i=>match Nat.beq i id with
    | true=>Q .normal st k tm ob nx
    | false=>Q (.exit i) st k tm ob nx
  | e=>Q e st k tm ob nx
theorem yL {x y : Code} (h : kX P te N Pr J U n0 x st k tm ob nx (thenY (fun st k tm ob nx=>kX P te N Pr J U n0 y st k tm ob nx Q) Q)) : kX P te N Pr J U n0 (.seq x y) st k tm ob nx Q:=by
  intro hte n a w hs;refine wpIn_seq (Code.wpIn_mono ?_ (h hte n a w hs))
  rintro e a' w' ⟨st',k',tm',ob',nx',hq,hs'⟩
  cases e <;> simp only [thenY,Exit.then] at hq ⊢
  · exact hq hte n a' w' hs'
  all_goals exact ⟨st',k',tm',ob',nx',hq,hs'⟩
theorem kV {id : Nat} {c : Code} (h : kX P te N Pr J U n0 c st k tm ob nx (blockY id Q)) : kX P te N Pr J U n0 (.block id c) st k tm ob nx Q:=by
  intro hte n a w hs;refine wpIn_block (Code.wpIn_mono ?_ (h hte n a w hs))
  rintro e a' w' ⟨st',k',tm',ob',nx',hq,hs'⟩
  cases e <;> simp only [blockY,Exit.inBlock] at hq ⊢
  case exit i =>
    by_cases e : i = id
    · subst e;simp only [Nat.beq_refl] at hq;rw [if_pos rfl];exact ⟨st',k',tm',ob',nx',hq,hs'⟩
    · rw [if_neg e];have : Nat.beq i id = false:=by
        cases hb : Nat.beq i id
        · rfl
        · exact absurd (Nat.eq_of_beq_eq_true hb) e
      rw [this] at hq;exact ⟨st',k',tm',ob',nx',hq,hs'⟩
  all_goals exact ⟨st',k',tm',ob',nx',hq,hs'⟩
theorem aW (h : Q .ret st k tm ob nx) : kX P te N Pr J U n0 .ret st k tm ob nx Q :=
  fun _ _ _ _ hs=>wpIn_ret ⟨st,k,tm,ob,nx,h,hs⟩
theorem zA {id : Nat} (h : Q (.exit id) st k tm ob nx) : kX P te N Pr J U n0 (.exit id) st k tm ob nx Q :=
  fun _ _ _ _ hs=>wpIn_exit ⟨st,k,tm,ob,nx,h,hs⟩
theorem kJ (h : Q .normal st k tm ob nx) : kX P te N Pr J U n0 .skip st k tm ob nx Q :=
  fun _ _ _ _ hs=>wpIn_skip ⟨st,k,tm,ob,nx,h,hs⟩
theorem kK {c : Operand} {x y : Code} {b : Bool} (hc : look tm c = ib b) (h1 : b = true → kX P te N Pr J U n0 x st k tm ob nx Q) (h2 : b = false → kX P te N Pr J U n0 y st k tm ob nx Q) : kX P te N Pr J U n0 (.cond c x y) st k tm ob nx Q:=by
  intro hte n a w hs;have hr : a.eval c = .bool b:=by
    obtain ⟨ok,ρ,i,ok',own',hs,_⟩:=hs;have:=hs.look c;rw [hc] at this;exact this
  exact wpIn_cond_split (t:=b) hr (fun e=>h1 e hte n a w hs) (fun e=>h2 e hte n a w hs)
theorem gZ {c : Code} {κ : Type} (Ip : κ → Prop) (ks : κ → Nat) (I : κ → Tm) (O : κ → Obs) (nx' : Nat) (μ : κ → Nat) (i0 : κ) (hp : Ip i0) (hab : vR n0 J) (hU : ∀ k b,frK k → n0 ≤ b → U k b) (h0 : Le nx tm ob nx (I i0) (O i0) nx') (hk : ks i0 = k)
    (round : ∀ i,Ip i → kX P te N Pr J U n0 c st (ks i) (I i) (O i) nx' (thenY (fun st1 k1 tm1 ob1 nx1=>∃ j,Ip j ∧ μ j < μ i ∧ st1 = st ∧ k1 = ks j ∧ tm1 = I j ∧ ob1 = O j ∧ nx1 = nx') Q)) : kX P te N Pr J U n0 (.loop c) st k tm ob nx Q:=by
  intro hte n a w hs;have hs0 : YS N Pr J U n0 st (ks i0) (I i0) (O i0) nx' a w:=by
    obtain ⟨ok,ρ,i,ok',own',hs,h2,hu,hn,hp,hj⟩:=hs;obtain ⟨ρ',hs'⟩:=h0.st _ rfl ρ a w hs;rw [hk];exact vS hab hU h2 hu hn hp hj hs.fresh hs'
  have key : ∀ m i,Ip i → μ i < m → ∀ a w,YS N Pr J U n0 st (ks i) (I i) (O i) nx' a w → Code.roundsIn (FR none) n P c (fun e a' w'=>∃ st' k' tm' ob' nx',Q e st' k' tm' ob' nx' ∧ YS N Pr J U n0 st' k' tm' ob' nx' a' w') m a w:=by
    intro m
    induction m with
    | zero=>intro i _ hi;omega
    | succ m ih =>
      intro i hpi hi a w hs;refine Code.wpIn_mono ?_ (round i hpi hte n a w hs)
      rintro e a' w' ⟨st',k',tm',ob',nx2,hq,hs'⟩
      cases e <;> simp only [thenY,Exit.then] at hq ⊢
      · obtain ⟨j,hpj,hj,rfl,rfl,rfl,rfl,rfl⟩:=hq;exact ih j hpj (by omega) a' w' hs'
      all_goals exact ⟨st',k',tm',ob',nx2,hq,hs'⟩
  exact wpIn_loop_rounds _ (key (μ i0 + 1) i0 hp (Nat.lt_succ_self _) a w hs0)
theorem iG {o : Oper} {f : Operand} {args : Array Operand} {ts : Array TypeId} {a : Act} {w w' : World} {nxt : Next} (hop : o.op = .call { callee:=.value f,args:=args,argTypes:=ts }) (hf : a.eval f = .func (.yield l) #[] #[]) (h : (Instr.yield l (args.map a.eval)).run P w = .ok nxt w') :
    (execOp a.eval o).run P w = .ok nxt w':=by
  unfold execOp;rw [hop];simp only [resolve,hf];simp [go_sem,invoke];exact h
theorem cH {ok : Oks} {ρ : Nat → Option Value} {w : World} {hids : List (Nat × Obj)} : xI (okOf (anew ok ob ρ w N nx hids) ρ ob) ok w w:=fun _ b hb hlt=>by
  rcases hb.1 with h|h|⟨_,i,_,h⟩
  · exact ⟨h,rfl⟩
  · have : w.heap.size ≤ b:=h.1;omega
  · obtain ⟨p,hp,e⟩:=xL h;exact absurd e (hb.2 p hp)
theorem wW {ok : Oks} {ρ : Nat → Option Value} {a : Act} {w w' : World} {hids : List (Nat × Obj)} {tm' : Tm} (h : StOk (anew ok ob ρ w N nx hids) tm' ob nx ρ a w') {k b : Nat} (hb : ok k b) : ¬ OwnB ob ρ b:=by
  rintro ⟨p,hp,e⟩
  exact h.disj p.1 b (h.fresh p hp) (by show blk (xK ob ρ p.1) = _;rw [zJ hp];exact e) k hb
theorem aV {id : Nat} {ops : Array Oper} (pre post : List Oper) (o : Oper) {f : Operand} {args : Array Operand} {ts : Array TypeId} (hops : ops.toList = pre ++ o :: post) (hop : o.op = .call { callee:=.value f,args:=args,argTypes:=ts }) (hg : o.guard = none)
    (hab : vR n0 J) (hU : ∀ k b,frK k → n0 ≤ b → U k b) (hy : bY P l xs Pr J U n0) (hk : k < xs.length)
    (h : awp P te N nx ops.toList pre tm ob nx (fun tm1 ob1 nx1=>∃ tm2 ob2 nx2,Le nx tm1 ob1 nx1 tm2 ob2 nx2 ∧ look tm2 f = .one (.lit (.func (.yield l) #[] #[])) ∧ mapL (look tm2) args.toList = xs[k] ∧ kH xs[k] = true ∧
      ∀ st,put N o.dst (ib (!st)) tm2 fun tm3=>awp P te N nx2 ops.toList post tm3 ob2 nx2 fun tm4 ob4 nx4=>∃ tm5 ob5 nx5,Le nx2 tm4 ob4 nx4 tm5 ob5 nx5 ∧ Q .normal st (k + 1) tm5 ob5 nx5)) :
    kX P te N Pr J U n0 (.region id ops false) false k tm ob nx Q:=by
  rintro hte n a w ⟨ok,ρ,i,ok',own',hs,h2,hu,hn,hp,hj⟩
  refine wpIn_region_list ?_;rw [hops];refine jI (cx:=anew ok ob ρ w N nx []) hte ops (o :: post) pre h hs ?_
  rintro tm1 ob1 nx1 ρ1 a1 w1 ⟨tm2,ob2,nx2,hle,hf,hargs,hcl,hpost⟩ hs1
  obtain ⟨ρ2,hs2⟩:=hle.st _ rfl ρ1 a1 w1 hs1;obtain ⟨ok2,ρ3,i2,ok3,own3,hs3,h3,hu3,hn3,hp3,hj3⟩:=vS hab hU h2 hu hn hp hj hs.fresh hs2;have hfv : a1.eval f = .func (.yield l) #[] #[]:=by
    have:=hs3.look f;rw [hf] at this;exact this
  have hreps : yX ok2 yI w1 xs[k] (args.toList.map a1.eval):=by
    have:=(uN (w:=w1) (lk:=look tm2) (xs:=args.toList) (fun x _=>hs3.look x)).kept cH;rw [hargs] at this;exact kS hcl this
  obtain ⟨fn,tmps,assign,body,hrun,hround⟩:=hy k i2 ok2 ok3 own3 w1 _ (n - 1) hk hp3 hj3 ⟨h3.lt1,fun _ h=>h.elim,h3.lt3,h3.lt4,h3.ij,fun _ _ _ h=>h,fun _ h=>h.elim⟩ (fun k b h=>hu3.1 k b (.inl h)) hn3 hreps;unfold wpListIn;rw [if_pos (by simp [Region.wanted,hg])];refine ⟨fun _ _=>trivial,?_⟩;rw [show o.semAt (FR none).round a1.eval = execOp a1.eval o from Oper.semAt_none _ _,iG hop hfv (by rw [show args.map a1.eval = (args.toList.map a1.eval).toArray by apply Array.toList_inj.1;simp];exact hrun)];refine ⟨zM,hround.mono ?_⟩
  rintro e' W' ⟨hg',hsame,st,j,ok4,own4,rfl,hp4,hj4,hsub,hoks,hlt4,hlt5⟩
  have hs4:=hs3.other hg' (fun b hb ho=>hsame b hb (by
    rcases ho with ⟨k,ho⟩|ho
    · exact h3.ij k b ho
    · exact h3.ss b ho)) (fun q hq=>by cases hq)
  have h4 : Two ok2 (OwnB ob2 ρ3) ok4 own4 W':=by
    refine ⟨fun k b h=>Nat.lt_of_lt_of_le (h3.lt1 k b h) hg'.size,fun b h=>Nat.lt_of_lt_of_le (h3.lt2 b h) hg'.size,hlt4,hlt5,fun k b h h'=>?_,fun k b h h'=>?_,fun b h h'=>?_⟩
    · rcases hsub b h' with h1|h1
      · exact h3.ij k b h h1
      · have:=h3.lt1 k b h;omega
    · rcases hoks k b h with h1|h1|⟨_,h1|h1⟩
      · exact h3.ji k b h1 h'
      · exact wW hs3 h1 h'
      · exact h3.ss b h' h1
      · have:=h3.lt2 b h';omega
    · rcases hsub b h' with h1|h1
      · exact h3.ss b h h1
      · have:=h3.lt2 b h;omega
  obtain ⟨tm3,hk3,hs5⟩:=hs4.put (v:=ib (!st)) (u:=.bool (!st)) (hpost st) rfl;refine jV (cx:=anew ok2 ob2 ρ3 W' N nx2 []) hte ops post hk3 hs5 ?_
  rintro tm4 ob4 nx4 ρ4 a4 w4 ⟨tm5,ob5,nx5,hle5,hq⟩ hs6
  obtain ⟨ρ6,hs7⟩:=hle5.st _ rfl ρ4 a4 w4 hs6;exact ⟨st,k + 1,tm5,ob5,nx5,hq,vS hab hU h4 hu3 (Nat.le_trans hn3 hg'.size) hp4 hj4 hs3.fresh hs7⟩
theorem acodeY_yieldG {id : Nat} {ops : Array Oper} (pre post : List Oper) (o : Oper) {f : Operand} {args : Array Operand} {ts : Array TypeId} {j d : Nat} {want : Bool} (q : Bool) (hops : ops.toList = pre ++ o :: post) (hop : o.op = .call { callee:=.value f,args:=args,argTypes:=ts }) (hg : o.guard = some (j,want))
    (hd : dstAt ops.toList j = some d) (hN : Nat.ble (d + 1) N = true) (hab : vR n0 J) (hU : ∀ k b,frK k → n0 ≤ b → U k b) (hy : bY P l xs Pr J U n0)
    (h : awp P te N nx ops.toList pre tm ob nx (fun tm1 ob1 nx1=>∃ tm2 ob2 nx2,Le nx tm1 ob1 nx1 tm2 ob2 nx2 ∧ (∃ b,get tm2 d = ib b ∧ gq want b = q) ∧
      (q = true → ∃ hk : k < xs.length,vV tm2 (f :: args.toList) ∧ uD tm2 f = .one (.lit (.func (.yield l) #[] #[])) ∧ mapL (uD tm2) args.toList = xs[k] ∧ kH xs[k] = true ∧
        ∀ st,put N o.dst (.cond true (ib (!st))) tm2 fun tm3=>awp P te N nx2 ops.toList post tm3 ob2 nx2 fun tm4 ob4 nx4=>∃ tm5 ob5 nx5,Le nx2 tm4 ob4 nx4 tm5 ob5 nx5 ∧ Q .normal st (k + 1) tm5 ob5 nx5) ∧
      (q = false → put N o.dst (.cond false (ib false)) tm2 fun tm3=>awp P te N nx2 ops.toList post tm3 ob2 nx2 fun tm4 ob4 nx4=>∃ tm5 ob5 nx5,Le nx2 tm4 ob4 nx4 tm5 ob5 nx5 ∧ Q .normal false k tm5 ob5 nx5))) :
    kX P te N Pr J U n0 (.region id ops false) false k tm ob nx Q:=by
  rintro hte n a w ⟨ok,ρ,i,ok',own',hs,h2,hu,hn,hp,hj⟩
  refine wpIn_region_list ?_;rw [hops];refine jI (cx:=anew ok ob ρ w N nx []) hte ops (o :: post) pre h hs ?_
  rintro tm1 ob1 nx1 ρ1 a1 w1 ⟨tm2,ob2,nx2,hle,⟨b,hb,hq⟩,hyes,hnot⟩ hs1
  obtain ⟨ρ2,hs2⟩:=hle.st _ rfl ρ1 a1 w1 hs1;obtain ⟨ok2,ρ3,i2,ok3,own3,hs3,h3,hu3,hn3,hp3,hj3⟩:=vS hab hU h2 hu hn hp hj hs.fresh hs2;have hwt : Region.wanted o (yielded ops a1.tmps) = q:=(fM (ops:=ops) hs3 hg hd hN hb).trans hq;unfold wpListIn;cases q with
  | false =>
    rw [if_neg (by rw [hwt];decide)];obtain ⟨tm3,hk3,hs5⟩:=hs3.put (v:=.cond false (ib false)) (u:=undef) (hnot rfl) ⟨fun e=>(by cases e),fun _=>rfl⟩;refine ⟨fun _ _=>trivial,?_⟩;refine jV (cx:=anew ok2 ob2 ρ3 w1 N nx2 []) hte ops post hk3 hs5 ?_
    rintro tm4 ob4 nx4 ρ4 a4 w4 ⟨tm5,ob5,nx5,hle5,hq⟩ hs6
    obtain ⟨ρ6,hs7⟩:=hle5.st _ rfl ρ4 a4 w4 hs6;exact ⟨false,k,tm5,ob5,nx5,hq,vS hab hU h3 hu3 hn3 hp3 hj3 hs3.fresh hs7⟩
  | true =>
    obtain ⟨hk,hwr,hf,hargs,hcl,hpost⟩:=hyes rfl;have hfv : a1.eval f = .func (.yield l) #[] #[]:=by
      have:=A.bare_rep (xV hwr f (by simp)) (hs3.look f);rw [show (look tm2 f).bare = _ from hf] at this;exact this
    have hreps : yX ok2 yI w1 xs[k] (args.toList.map a1.eval):=by
      have:=(uN (w:=w1) (lk:=uD tm2) (xs:=args.toList) (fun x hx=>A.bare_rep (xV hwr x (by simp [hx])) (hs3.look x))).kept cH;rw [hargs] at this;exact kS hcl this
    obtain ⟨fn,tmps,assign,body,hrun,hround⟩:=hy k i2 ok2 ok3 own3 w1 _ (n - 1) hk hp3 hj3 ⟨h3.lt1,fun _ h=>h.elim,h3.lt3,h3.lt4,h3.ij,fun _ _ _ h=>h,fun _ h=>h.elim⟩ (fun k b h=>hu3.1 k b (.inl h)) hn3 hreps;rw [if_pos hwt];refine ⟨fun _ _=>trivial,?_⟩;rw [show o.semAt (FR none).round a1.eval = execOp a1.eval o from Oper.semAt_none _ _,iG hop hfv (by rw [show args.map a1.eval = (args.toList.map a1.eval).toArray by apply Array.toList_inj.1;simp];exact hrun)];refine ⟨zM,hround.mono ?_⟩
    rintro e' W' ⟨hg',hsame,st,j,ok4,own4,rfl,hp4,hj4,hsub,hoks,hlt4,hlt5⟩
    have hs4:=hs3.other hg' (fun b hb ho=>hsame b hb (by
      rcases ho with ⟨k,ho⟩|ho
      · exact h3.ij k b ho
      · exact h3.ss b ho)) (fun q hq=>by cases hq)
    have h4 : Two ok2 (OwnB ob2 ρ3) ok4 own4 W':=by
      refine ⟨fun k b h=>Nat.lt_of_lt_of_le (h3.lt1 k b h) hg'.size,fun b h=>Nat.lt_of_lt_of_le (h3.lt2 b h) hg'.size,hlt4,hlt5,fun k b h h'=>?_,fun k b h h'=>?_,fun b h h'=>?_⟩
      · rcases hsub b h' with h1|h1
        · exact h3.ij k b h h1
        · have:=h3.lt1 k b h;omega
      · rcases hoks k b h with h1|h1|⟨_,h1|h1⟩
        · exact h3.ji k b h1 h'
        · exact wW hs3 h1 h'
        · exact h3.ss b h' h1
        · have:=h3.lt2 b h';omega
      · rcases hsub b h' with h1|h1
        · exact h3.ss b h h1
        · have:=h3.lt2 b h;omega
    obtain ⟨tm3,hk3,hs5⟩:=hs4.put (v:=.cond true (ib (!st))) (u:=.bool (!st)) (hpost st) ⟨fun _=>rfl,fun e=>(by cases e)⟩;refine jV (cx:=anew ok2 ob2 ρ3 W' N nx2 []) hte ops post hk3 hs5 ?_
    rintro tm4 ob4 nx4 ρ4 a4 w4 ⟨tm5,ob5,nx5,hle5,hq⟩ hs6
    obtain ⟨ρ6,hs7⟩:=hle5.st _ rfl ρ4 a4 w4 hs6;exact ⟨st,k + 1,tm5,ob5,nx5,hq,vS hab hU h4 hu3 (Nat.le_trans hn3 hg'.size) hp4 hj4 hs3.fresh hs7⟩
theorem aiter_of {g : FuncId} {fn : Func} {c : Code} {caps : List A} (hf : P.funcs[g]? = some fn) (hb : fn.body = some c) (hname : (fn.name == "runtime.NumGoroutine") = false) (hr : fn.results = #[]) (hte : TEok P te) (hn : Nat.ble (caps.length + 1) fn.ntmps = true)
    (h : ∀ (l : Nat) (ι : Type) (Pr : Bool → Nat → ι → Prop) (J : ι → Oks → (Nat → Prop) → World → Prop) (U : Oks) (n0 : Nat),(∀ k b,frK k → n0 ≤ b → U k b) → vR n0 J → bY P l xs Pr J U n0 →
      kX P te fn.ntmps Pr J U n0 c false 0 (argT 0 (.one (.lit (.func (.yield l) #[] #[])) :: caps)) [] 0 (fun e st k _ _ _=>(e = .ret ∨ e = .normal) ∧ (st = false → k = xs.length))) : AIter P g caps xs:=by
  refine ⟨⟨fn,hf,by rw [hb];rfl,hname⟩,fun l ι Pr J U n0 hU hab hy i ok ok' own' W vs hp hj hgl h2 hu hn0 hvs=>callsIn_wide.1 (callsIn_of_wp_marks (F:=FR none) (n:=0) hf hb trivial ?_)⟩;have hvs' : yX ok yI W (.one (.lit (.func (.yield l) #[] #[])) :: caps) (.func (.yield l) #[] #[] :: vs):=⟨_,_,rfl,rfl,hvs⟩;have hl:=yX.len hvs';have hn:=Nat.le_of_ble_eq_true hn;have hk : xI ok (okOf (anew ok [] yI W fn.ntmps 0 []) yI []) W W:=fun _ b hb _=>⟨⟨.inl hb,fun p hp=>by cases hp⟩,rfl⟩
  have hs : StOk (anew ok [] yI W fn.ntmps 0 []) (argT 0 (.one (.lit (.func (.yield l) #[] #[])) :: caps)) [] 0 yI { tmps:=(.func (.yield l) #[] #[] :: vs).toArray ++ Array.replicate (fn.ntmps - (.func (.yield l) #[] #[] :: vs).toArray.size) undef,defers:=[] } W:=by
    refine ⟨?_,⟨⟨(fun e=>by cases e),fun _=>rfl⟩,fun q hq=>by cases hq⟩,fun i=>?_,fun p hp=>by (cases hp),by simp,fun p hp=>by (cases hp),fun _ _=>rfl,Nat.le_refl _,fun p hp=>by (cases hp),fun p hp=>by (cases hp),⟨rfl,rfl,rfl,Nat.le_refl _,fun _ _ _ _=>rfl,fun _ _=>.rfl' rfl⟩,fun _ _ h _=>absurd h (Nat.not_lt_zero _),fun _ h=>absurd h (Nat.not_lt_zero _),hgl,.none rfl⟩
    · show ((.func (.yield l) #[] #[] :: vs).toArray ++ Array.replicate (fn.ntmps - (.func (.yield l) #[] #[] :: vs).toArray.size) undef).size = fn.ntmps;simp only [Array.size_append,List.size_toArray,Array.size_replicate];rw [List.length_cons] at hl ⊢;simp only [List.length_cons] at hl;omega
    · rcases gL 0 i hvs' with h1|h1
      · have hcell : ((.func (.yield l) #[] #[] :: vs).toArray ++ Array.replicate (fn.ntmps - (.func (.yield l) #[] #[] :: vs).toArray.size) undef).getD i undef = if i < 0 then undef else (Value.func (.yield l) #[] #[] :: vs).getD (i - 0) undef:=by
          rw [if_neg (Nat.not_lt_zero _),Nat.sub_zero,Array.getD_eq_getD_getElem?,Array.getElem?_append];split
          · simp [List.getD]
          · rename_i hge;rw [Array.getElem?_replicate];simp only [List.size_toArray] at hge ⊢;rw [List.getD,List.getElem?_eq_none (by omega)];split <;> rfl
        rw [hcell];exact A.kept hk h1
      · rw [h1];trivial
  have hno : ∀ b,¬ OwnB ([] : Obs) yI b:=fun b ⟨p,hp,_⟩=>by cases hp
  refine Code.wpIn_mono ?_ (h l ι Pr J U n0 hU hab hy hte 0 _ W ⟨ok,yI,i,ok',own',hs,⟨h2.lt1,fun b h=>(hno b h).elim,h2.lt3,h2.lt4,h2.ij,fun _ b _ h=>hno b h,fun b h=>(hno b h).elim⟩,⟨fun k b h=>h.elim (hu k b) (fun h=>(hno b h.2).elim),fun b h=>(hno b h).elim⟩,Nat.le_of_eq hn0,hp,hj⟩)
  rintro e a' w' ⟨st,k,tm',ob',nx',⟨he,hst⟩,ok2,ρ2,j,ok3,own3,hs',_,_,_,hp',hj'⟩
  have hd : a'.defers = []:=hs'.defers.1.2 rfl;have fin : LeavesInM (FR none) 0 P fn a'.tmps (fun e W'=>(∃ v,e = .returned v) ∧ ∃ st k j ok2 own2,(st = false → k = xs.length) ∧ Pr st k j ∧ J j ok2 own2 W') a'.defers .returning w':=by
    rw [hd];exact ⟨_,results_none hr _ _ _,⟨_,rfl⟩,st,k,j,ok3,own3,hst,hp',hj'⟩
  rcases he with rfl|rfl
  · exact fin
  · exact fin
end
def appT : List Nat → List A → Tm → Tm
  | p :: ps,x :: xs,tm=>appT ps xs ((p,x) :: tm)
  | _,_,tm=>tm
def hasO (ob : Obs) (i : Nat) : Bool:=match getO ob i with
  | some _=>true
  | none=>false
def dO (ob : Obs) : Nat → Bool
  | 0=>true
  | m + 1=>match hasO ob m with
    | true=>dO ob m
    | false=>false
theorem dN {ob : Obs} : ∀ {m i : Nat},dO ob m = true → i < m → ∃ o,getO ob i = some o
  | m + 1,i,h,hi=>by
    unfold dO at h;split at h
    · rename_i h1;rcases Nat.lt_or_ge i m with h2|h2
      · exact dN h h2
      · obtain rfl : i = m:=by omega
        unfold hasO at h1;split at h1
        · rename_i o e;exact ⟨o,e⟩
        · cases h1
    · cases h
def downN : Nat → List Nat
  | 0=>[]
  | m + 1=>m :: downN m
theorem memN_down : ∀ {m i : Nat},i < m → memN (downN m) i = true
  | m + 1,i,h=>by
    unfold downN memN;split
    · rfl
    · rename_i e;exact memN_down (by
        have : m ≠ i:=fun e'=>by subst e';simp at e
        omega)
def rndQ {ι : Type} (Pr : Bool → Nat → ι → Prop) (I : ι → Obs) (Xc : ι → Code) (m k : Nat) : AQ:=fun e tm ob nx=>match e with
  | .normal=>∃ j,Pr false (k + 1) j ∧ Le m tm ob nx [] (I j) m
  | .ret=>∃ j,Pr true (k + 1) j ∧ Xc j = .ret ∧ Le m tm ob nx [] (I j) m
  | .exit id=>∃ j,Pr true (k + 1) j ∧ Xc j = .exit id ∧ Le m tm ob nx [] (I j) m
  | _=>False
def asnQ (K : Tm → Obs → Nat → Prop) : AQ:=fun e tm ob nx=>match e with
  | .normal=>K tm ob nx
  | _=>False
def bZ (ds : List Deferred) (b : Nat) : Prop:={ target:=.collected b,args:=#[] } ∈ ds
section
variable {P : Program} {te : List (TypeId × TyI)} {cx : Cx} {tm : Tm} {ob : Obs} {nx : Nat} {ρ : Nat → Option Value} {a : Act} {w w' : World}
theorem Defs.mark {M : Nat → Prop} : ∀ {ds : List Deferred},Defs M ds w → ∀ b,bZ ds b → w.heap[b]? = some (Obj.deferred (some [])) ∧ M b
  | d :: ds,h,b,hb=>by
    obtain ⟨⟨c,h1,h2,h3,_⟩,h5⟩:=h;rcases List.mem_cons.1 hb with e|e
    · rw [h1] at e
      injection e with e _
      injection e with e
      subst e;exact ⟨h3,h2⟩
    · exact Defs.mark h5 b e
theorem Defs.same {M : Nat → Prop} : ∀ {ds : List Deferred},Defs M ds w → (∀ b,bZ ds b → w'.heap[b]? = w.heap[b]?) → Defs M ds w'
  | [],_,_=>trivial
  | d :: ds,h,hs=>by
    obtain ⟨⟨c,h1,h2,h3,h4⟩,h5⟩:=h;exact ⟨⟨c,h1,h2,(hs c (by rw [h1];exact List.mem_cons_self)).trans h3,h4⟩,h5.same fun b hb=>hs b (List.mem_cons_of_mem _ hb)⟩
def UOk (cx : Cx) (k b : Nat) : Prop:=cx.ok0 k b ∨ (cx.w0.heap.size ≤ b ∧ frK k) ∨ (frK k ∧ ∃ i,i < cx.nx0 ∧ blk (cx.nm i) = some b)
theorem StOk.reput {ok : Oks} {nm : Nat → Option Value} {w0 : World} {N n0 l : Nat} {h1 h2 : List (Nat × Obj)} {o q : Obj} (h : StOk ⟨ok,nm,w0,N,n0,h1,false⟩ tm ob nx ρ a w) (hl0 : w0.heap[l]? = some q) (hq : Obj.noCells q) (hl : w.heap[l]? = some q) (hh : HidOk h2 (w.putObj l o)) :
    StOk ⟨ok,nm,w0.putObj l o,N,n0,h2,false⟩ tm ob nx ρ a (w.putObj l o):=by
  have hn : ¬ jK w l:=jK.not hl hq;have hok : ∀ k b,okOf ⟨ok,nm,w0,N,n0,h1,false⟩ ρ ob k b → okOf ⟨ok,nm,w0.putObj l o,N,n0,h2,false⟩ ρ ob k b:=fun k b hb=>⟨hb.1.imp id (Or.imp (fun h=>⟨by show (w0.putObj l o).heap.size ≤ b;rw [World.putObj_size];exact h.1,h.2⟩) id),hb.2⟩
  have hk : xI (okc (okOf ⟨ok,nm,w0,N,n0,h1,false⟩ ρ ob) w) (okOf ⟨ok,nm,w0.putObj l o,N,n0,h2,false⟩ ρ ob) w (w.putObj l o):=fun k c hc _=>⟨hok k c hc.1,World.putObj_heap_other (fun e=>hn (e ▸ hc.2))⟩
  have hlt0 : l < w0.heap.size:=(Array.getElem?_eq_some_iff.1 hl0).1;have hlt : l < w.heap.size:=(Array.getElem?_eq_some_iff.1 hl).1;refine ⟨h.size,⟨⟨(fun e=>by cases e),h.defers.1.2⟩,hh⟩,fun i=>A.kept hk (A.cells (h.tms i)),fun p hp=>Ob.kept hk (fun c hc=>World.putObj_heap_other (fun e=>hn (e ▸ Ob.cells (h.obs p hp) hc))) (Ob.okcells (h.obs p hp)),h.nd,h.fresh,h.names,h.nx0,h.sep,
    fun p hp c hc=>⟨by rw [World.putObj_size];exact (h.low p hp c hc).1,(h.low p hp c hc).2.imp (fun h=>by show (w0.putObj l o).heap.size ≤ c;rw [World.putObj_size];exact h) id⟩,
    ⟨h.keep.os,h.keep.tape,h.keep.output,?_,fun c hc ho hcg=>?_,fun c hcg=>?_⟩,h.disj,h.pin,?_,fun b hb=>⟨by show b < (w0.putObj l o).heap.size;rw [World.putObj_size];exact (h.bags b hb).1,(h.bags b hb).2⟩⟩
  · show (w0.putObj l o).heap.size ≤ _;rw [World.putObj_size,World.putObj_size];exact h.keep.size
  · have hc : c < (w0.putObj l o).heap.size:=hc;rw [World.putObj_size] at hc;show (w.putObj l o).heap[c]? = (w0.putObj l o).heap[c]?
    by_cases e : c = l
    · subst e;rw [World.putObj_heap_same hlt,World.putObj_heap_same hlt0]
    · rw [World.putObj_heap_other e,World.putObj_heap_other e];exact h.keep.block c hc ho hcg
  · by_cases e : c = l
    · subst e;exact .rfl' (by rw [World.putObj_heap_same hlt,World.putObj_heap_same hlt0])
    · intro cs T f e2;have e2 : (w0.putObj l o).heap[c]? = some (.cells cs T f):=e2;rw [World.putObj_heap_other e] at e2;obtain ⟨cs',e3,h3⟩:=h.keep.shape c hcg cs T f e2;exact ⟨cs',(World.putObj_heap_other e).trans e3,h3⟩
  · obtain ⟨g1,g2,g3⟩:=h.glob;refine ⟨g1,by show _ ≤ (w0.putObj l o).heap.size;rw [World.putObj_size];exact g2,g3.kept fun g hg=>World.putObj_heap_other fun e=>?_⟩;obtain ⟨cs,T,f,hc⟩:=g3.cells g hg;rw [e,hl0] at hc;exact hq.1 _ _ _ (Option.some.inj hc)
theorem appT_st {N : Nat} : ∀ {ps : List Nat} {xs : List A} {vs : List Value} {tm : Tm} {tmps : Array Value},StOk cx tm ob nx ρ ⟨tmps,[]⟩ w → cx.N = N → ps.all (fun p=>decide (p < N)) = true → yX (okOf cx ρ ob) ρ w xs vs →
    StOk cx (appT ps xs tm) ob nx ρ ⟨(ps.zip vs).foldl (fun t (p,v)=>t.setIfInBounds p v) tmps,[]⟩ w
  | [],_,_,_,_,h,_,_,_=>h
  | _ :: _,[],_,_,_,h,_,_,hr=>by rw [show _ = _ from hr];exact h
  | p :: ps,x :: xs,vs,tm,tmps,h,hN,hp,hr=>by
    obtain ⟨v,r,rfl,h1,h2⟩:=hr;rw [List.all_cons,Bool.and_eq_true,decide_eq_true_eq] at hp;have hput : put cx.N (some p) x tm (fun tm'=>tm' = (p,x) :: tm):=by
      unfold put;simp only;rw [Nat.ble_eq_true_of_le (by rw [hN];exact hp.1)];trivial
    obtain ⟨tm',e,h3⟩:=h.put hput h1;subst e;exact appT_st (tm:=(p,x) :: tm) (tmps:=tmps.setIfInBounds p v) h3 hN hp.2 h2
end
section
variable {P : Program} {te : List (TypeId × TyI)} {N nx0 nx : Nat} {tm : Tm} {ob : Obs} {Q : AQ}
theorem uL.kept' {cx : Cx} {ds : List Deferred} {w : World} (h : uL cx ds w) {l : Nat} {q : Loop} (hl : w.heap[l]? = some (.loop q)) (o : Obj) (hh : cx.hids = []:=by first|assumption|rfl) : uL cx ds (w.putObj l o):=by
  refine ⟨⟨fun e=>(h.1.1 e).same fun b hb=>World.putObj_heap_other fun e2=>?_,h.1.2⟩,by rw [hh];exact fun q hq=>by cases hq⟩;have:=((h.1.1 e).mark b hb).1;rw [e2,hl] at this;cases this
structure LS {ι : Type} (cx : Cx) (a : Act) (tm1 : Tm) (m l D : Nat) (I : ι → Obs) (rec : LoopState → Option Code → Loop) (Xc : ι → Code) (N : Nat) (si : Bool × ι) (ok : Oks) (own : Nat → Prop) (W : World) (ρ : Nat → Option Value) : Prop where
  st : StOk (anew ok (I si.2) ρ W N m []) tm1 (I si.2) m ρ ⟨a.tmps,[]⟩ W
  own : ∀ b,own b ↔ OwnB (I si.2) ρ b ∨ b = l ∨ b = D ∨ bZ a.defers b
  loop : W.heap[l]? = some (.loop (if si.1 then rec .done (some (Xc si.2)) else rec .ready none))
  defs : Defs cx.mark ({ target:=.collected D,args:=#[] } :: a.defers) W
  keep : Keep cx W
  low : cx.w0.heap.size ≤ l
  okU : ∀ k b,ok k b → UOk cx k b
  okl : ∀ k b,ok k b → b < W.heap.size ∧ b ≠ l
  ownl : ∀ p ∈ I si.2,∀ b,blk (ρ p.1) = some b → cx.w0.heap.size ≤ b ∨ ∃ i,i < cx.nx0 ∧ blk (cx.nm i) = some b
  pin : ∀ i,i < cx.nx0 → ∀ p,cx.nm i = some (.pointer p) → ρ i = cx.nm i
variable {ι : Type} {cx : Cx} {a : Act} {tm1 : Tm} {m l D : Nat} {I : ι → Obs} {rec : LoopState → Option Code → Loop} {Xc : ι → Code} {si : Bool × ι} {ok : Oks} {own : Nat → Prop} {W : World} {ρ : Nat → Option Value}
theorem LS.lt (h : LS cx a tm1 m l D I rec Xc N si ok own W ρ) {b : Nat} (hb : own b) : b < W.heap.size:=by
  rcases (h.own b).1 hb with ⟨p,hp,e⟩|rfl|rfl|h1
  · exact (h.st.low p hp b e).1
  · exact (Array.getElem?_eq_some_iff.1 h.loop).1
  · exact (Array.getElem?_eq_some_iff.1 (h.defs.mark b (List.mem_cons_self)).1).1
  · exact (Array.getElem?_eq_some_iff.1 (h.defs.mark b (List.mem_cons_of_mem _ h1)).1).1
theorem LS.abides (n0 : Nat) (hn : cx.w0.heap.size ≤ n0) (hbk : ∀ b,cx.bag b → b < cx.w0.heap.size) : vR n0 (fun (si : Bool × ι) ok own W=>∃ ρ,LS cx a tm1 m l D I rec Xc N si ok own W ρ):=by
  rintro si ok own w w' ⟨ρ,h⟩ hg hs
  have hown : ∀ b,own b → w'.heap[b]? = w.heap[b]?:=fun b hb=>hs b (h.lt hb) (.inr (.inr hb))
  refine ⟨ρ,h.st.other hg (fun b hb ho=>hs b hb (.inr (ho.imp id fun ho=>(h.own b).2 (.inl ho)))) (fun q hq=>by cases hq),h.own,(hown l ((h.own l).2 (.inr (.inl rfl)))).trans h.loop,h.defs.same fun b hb=>hown b ((h.own b).2 ?_),?_,h.low,h.okU,fun k b hb=>⟨Nat.lt_of_lt_of_le (h.okl k b hb).1 hg.size,(h.okl k b hb).2⟩,h.ownl,h.pin⟩
  · rcases List.mem_cons.1 hb with e|e
    · injection e with e _
      injection e with e
      exact .inr (.inr (.inl e))
    · exact .inr (.inr (.inr e))
  · exact ⟨hg.os.trans h.keep.os,hg.tape.trans h.keep.tape,hg.output.trans h.keep.output,Nat.le_trans h.keep.size hg.size,fun b hb ho hg=>(hs b (Nat.lt_of_lt_of_le hb h.keep.size) (.inl (Nat.lt_of_lt_of_le hb hn))).trans (h.keep.block b hb ho hg),fun b hbg=>(h.keep.shape b hbg).trans (.rfl' (hs b (Nat.lt_of_lt_of_le (hbk b hbg) h.keep.size) (.inl (Nat.lt_of_lt_of_le (hbk b hbg) hn))))⟩
theorem LS.back (h : LS cx a tm1 m l D I rec Xc N si ok own W ρ) (hfr : cx.fr = true) (hh : cx.hids = []) (hN : cx.N = N) (hnx : cx.nx0 ≤ m) (hdj : ∀ i b,i < cx.nx0 → blk (cx.nm i) = some b → ∀ k,¬ cx.ok0 k b) (hgl : cA cx.ok0 cx.w0) (hbg : BagOk cx) :
    StOk cx tm1 (I si.2) m ρ ⟨a.tmps,{ target:=.collected D,args:=#[] } :: a.defers⟩ W:=by
  have hk : xI (okOf (anew ok (I si.2) ρ W N m []) ρ (I si.2)) (okOf cx ρ (I si.2)) W W:=fun _ b hb hlt=>by
    refine ⟨⟨?_,hb.2⟩,rfl⟩;exact h.okU _ b (cH _ b hb hlt).1
  refine ⟨h.st.size.trans hN.symm,⟨⟨fun _=>h.defs,fun e=>by rw [hfr] at e;cases e⟩,by rw [hh];exact fun q hq=>by cases hq⟩,fun i=>A.kept hk (h.st.tms i),fun p hp=>Ob.kept hk (fun _ _=>rfl) (h.st.obs p hp),h.st.nd,h.st.fresh,h.st.names,hnx,h.st.sep,fun p hp b e=>⟨(h.st.low p hp b e).1,h.ownl p hp b e⟩,h.keep,hdj,h.pin,hgl,hbg⟩
theorem LS.next {sj : Bool × ι} {okU : Oks} {tm3 : Tm} {W3 : World} {ρ4 : Nat → Option Value} {a3 : Act} {q : Loop} {ok1 : Oks} (h : LS cx a tm1 m l D I rec Xc N si ok own W ρ) (hok1 : ∀ k b,ok k b → okU k b) (hokU : ∀ k b,okU k b → ok k b ∨ ok1 k b) (hU1 : ∀ k b,ok1 k b → UOk cx k b)
    (hdj : ∀ i b,i < cx.nx0 → blk (cx.nm i) = some b → ∀ k,¬ cx.ok0 k b) (hbgs : BagOk cx) (hn1 : cx.nx0 ≤ m) (hde : dO (I si.2) m = true) (hcalm : gW (downN m) tm1 = tm1)
    (hs4 : StOk ⟨okU,xK (I si.2) ρ,W.putObj l (.loop q),N,m,[(l,.loop q)],false⟩ tm3 (I sj.2) m ρ4 a3 W3) :
    ∃ ok2 own2,LS cx a tm1 m l D I rec Xc N sj ok2 own2 (W3.putObj l (.loop (if sj.1 then rec .done (some (Xc sj.2)) else rec .ready none))) ρ4 ∧
      (∀ b,own2 b → own b ∨ W.heap.size ≤ b) ∧ (∀ k b,ok2 k b → ok k b ∨ ok1 k b ∨ (frK k ∧ (own b ∨ W.heap.size ≤ b))):=by
  obtain ⟨X,hX⟩ : ∃ X,Obj.loop (if sj.1 then rec .done (some (Xc sj.2)) else rec .ready none) = X:=⟨_,rfl⟩;rw [hX];have hXn : Obj.noCells X:=by rw [← hX];exact jB
  have hl3 : W3.heap[l]? = some (.loop q):=(hs4.defers.2 (l,.loop q) (by simp)).1;have hl3n : ¬ jK W3 l:=jK.not hl3 jB;have hsz : (W.putObj l (.loop q)).heap.size = W.heap.size:=World.putObj_size;have hlW : l < W.heap.size:=(Array.getElem?_eq_some_iff.1 h.loop).1;have hlW3 : l < W3.heap.size:=(Array.getElem?_eq_some_iff.1 hl3).1;have hgr : W.heap.size ≤ W3.heap.size:=by rw [← hsz];exact hs4.keep.size
  have hsame : ∀ b,b < W.heap.size → b ≠ l → ¬ OwnB (I si.2) ρ b → W3.heap[b]? = W.heap[b]?:=fun b hb hbl ho=>by
    rw [hs4.keep.block b (by show b < (W.putObj l (.loop q)).heap.size;rw [hsz];exact hb) (fun ⟨i,_,e⟩=>ho (xL e)) (fun hg=>wE (cx:=⟨okU,xK (I si.2) ρ,W.putObj l (.loop q),N,m,[(l,.loop q)],false⟩) (xU h.st.fresh) hg.1)];exact World.putObj_heap_other hbl
  have hown4 : ∀ b,OwnB (I sj.2) ρ4 b → W.heap.size ≤ b ∨ OwnB (I si.2) ρ b:=by
    rintro b ⟨p,hp,e⟩
    rcases (hs4.low p hp b e).2 with h1|⟨_,_,h1⟩
    · left;rw [← hsz];exact h1
    · exact .inr (xL h1)
  have hown4l : ∀ b,OwnB (I sj.2) ρ4 b → b ≠ l:=fun b ⟨p,hp,e⟩ e'=>by
    subst e';exact hl3n (Ob.cells (hs4.obs p hp) e)
  have hUo : ∀ k b,frK k → OwnB (I si.2) ρ b → UOk cx k b:=fun k b h7 ⟨p,hp,e⟩=>by
    rcases h.ownl p hp b e with h1|h1
    · exact .inr (.inl ⟨h1,h7⟩)
    · exact .inr (.inr ⟨h7,h1⟩)
  have hW0 : cx.w0.heap.size ≤ W.heap.size:=h.keep.size
  let okN : Oks:=fun k b=>okOf ⟨okU,xK (I si.2) ρ,W.putObj l (.loop q),N,m,[(l,.loop q)],false⟩ ρ4 (I sj.2) k b ∧ b < W3.heap.size ∧ jK W3 b
  have hokN : ∀ k b,okN k b → ok k b ∨ ok1 k b ∨ (frK k ∧ (OwnB (I si.2) ρ b ∨ W.heap.size ≤ b)):=by
    rintro k b ⟨⟨h1|h1|⟨h7,i,_,h1⟩,_⟩,_,_⟩
    · exact (hokU k b h1).imp id .inl
    · exact .inr (.inr ⟨h1.2,.inr (by rw [← hsz];exact h1.1)⟩)
    · exact .inr (.inr ⟨h7,.inl (xL h1)⟩)
  have hst1 : StOk (anew okN (I sj.2) ρ4 W3 N m []) tm3 (I sj.2) m ρ4 a3 W3:=hs4.anew (fun k b hb hc=>⟨hb,(by obtain ⟨_,e,_⟩:=hc;exact (Array.getElem?_eq_some_iff.1 e).1),hc⟩) (fun k b hb ⟨p,hp,e⟩=>hb.1.2 p hp e) (hs4.defers.1.2 rfl) (fun q hq=>by cases hq);have hst2 : StOk (anew okN (I sj.2) ρ4 (W3.putObj l X) N m []) tm3 (I sj.2) m ρ4 a3 (W3.putObj l X):=hst1.other (zL _ _ _) (fun b _ ho=>World.putObj_heap_other (fun e=>by
    subst e;rcases ho with ⟨k,ho⟩|ho
    · exact hl3n ho.2.2
    · exact hown4l _ ho rfl)) (fun q hq=>by cases hq)
  have hkeyed : ∀ i,i < m → xK (I si.2) ρ i = ρ i:=fun i hi=>by
    obtain ⟨o,ho⟩:=dN hde hi;unfold xK;rw [ho]
  have hdrp : Drp (downN m) (okc (okOf (anew ok (I si.2) ρ W N m []) ρ (I si.2)) W) (okOf (anew okN (I sj.2) ρ4 (W3.putObj l X) N m []) ρ4 (I sj.2)) ρ ρ4 W (W3.putObj l X):=by
    refine ⟨fun i p e=>?_,fun i v hb e=>?_,fun kc b hb hlt=>?_⟩
    · have hi : i < m:=Nat.lt_of_not_ge fun h'=>by rw [h.st.names i h'] at e;cases e
      have hnm : xK (I si.2) ρ i = some (.pointer p):=(hkeyed i hi).trans e;exact (hs4.pin i hi p hnm).trans hnm
    · exfalso
      have hi : i < m:=Nat.lt_of_not_ge fun h'=>by rw [h.st.names i h'] at e;cases e
      rw [memN_down hi] at hb;cases hb
    · have hokb : ok kc b:=(cH kc b hb.1 hlt).1;have hbl : b ≠ l:=(h.okl kc b hokb).2;have hno : ¬ OwnB (I si.2) ρ b:=fun ⟨p,hp,e⟩=>hb.1.2 p hp e
      have hno4 : ¬ OwnB (I sj.2) ρ4 b:=fun ho=>by
        rcases hown4 b ho with h1|h1
        · omega
        · exact hno h1
      have hsb:=hsame b hlt hbl hno;refine ⟨⟨.inl ⟨⟨.inl (hok1 kc b hokb),fun p hp e=>hno4 ⟨p,hp,e⟩⟩,Nat.lt_of_lt_of_le hlt hgr,?_⟩,fun p hp e=>hno4 ⟨p,hp,e⟩⟩,?_⟩
      · obtain ⟨o',e,hno'⟩:=hb.2;exact ⟨o',hsb.trans e,hno'⟩
      · rw [World.putObj_heap_other hbl];exact hsb
  have hst : StOk (anew okN (I sj.2) ρ4 (W3.putObj l X) N m []) tm1 (I sj.2) m ρ4 ⟨a.tmps,[]⟩ (W3.putObj l X):=by
    have:=hst2.anyD (tm':=tm1) (a':=⟨a.tmps,[]⟩) h.st.size ⟨⟨(fun e=>by cases e),fun _=>rfl⟩,fun q hq=>by cases hq⟩ (fun i=>?_)
    · exact this
    · have h1:=A.drp_rep hdrp (A.cells (h.st.tms i));rw [← get_drp,hcalm] at h1;exact h1
  have hmark : ∀ b,bZ ({ target:=.collected D,args:=#[] } :: a.defers) b → (W3.putObj l X).heap[b]? = W.heap[b]?:=fun b hb=>by
    have h1:=(h.defs.mark b hb).1;have hbl : b ≠ l:=fun e=>by
      rw [e,h.loop] at h1;cases h1
    rw [World.putObj_heap_other hbl];refine hsame b (Array.getElem?_eq_some_iff.1 h1).1 hbl fun ⟨p,hp,e⟩=>?_
    exact jK.not h1 aH (Ob.cells (h.st.obs p hp) e)
  refine ⟨okN,fun b=>OwnB (I sj.2) ρ4 b ∨ b = l ∨ b = D ∨ bZ a.defers b,⟨hst,fun b=>Iff.rfl,?_,h.defs.same hmark,?_,h.low,fun k b hb=>?_,fun k b hb=>⟨by rw [World.putObj_size];exact hb.2.1,fun e=>hl3n (e ▸ hb.2.2)⟩,?_,?_⟩,?_,fun k b hb=>?_⟩
  · rw [hX];exact World.putObj_heap_same hlW3
  · have hk:=hs4.keep;refine ⟨hk.os.trans h.keep.os,hk.tape.trans h.keep.tape,hk.output.trans h.keep.output,by rw [World.putObj_size];exact Nat.le_trans hW0 hgr,fun b hb ho hbg=>?_,fun b hbg=>?_⟩
    rotate_left
    · have hb:=(hbgs b hbg).1;have hbl : b ≠ l:=by have:=h.low;omega
      refine (h.keep.shape b hbg).trans (.rfl' ?_);rw [World.putObj_heap_other hbl];refine hsame b (Nat.lt_of_lt_of_le hb hW0) hbl fun ⟨p,hp,e⟩=>?_
      rcases h.ownl p hp b e with h1|⟨i,hi,h1⟩
      · omega
      · exact hdj i b hi h1 7 hbg.2
    have hbl : b ≠ l:=by have:=h.low;omega
    rw [World.putObj_heap_other hbl,hsame b (Nat.lt_of_lt_of_le hb hW0) hbl ?_]
    · exact h.keep.block b hb ho hbg
    · rintro ⟨p,hp,e⟩
      rcases h.ownl p hp b e with h1|h1
      · omega
      · exact ho h1
  · rcases hokN k b hb with h1|h1|⟨h7,h1|h1⟩
    · exact h.okU k b h1
    · exact hU1 k b h1
    · exact hUo k b h7 h1
    · exact .inr (.inl ⟨Nat.le_trans hW0 h1,h7⟩)
  · intro p hp b e;rcases (hs4.low p hp b e).2 with h1|⟨i,h0,h1⟩
    · left
      have : (W.putObj l (.loop q)).heap.size ≤ b:=h1;rw [hsz] at this;omega
    · have hnm : blk (xK (I si.2) ρ i) = some b:=h1;cases e2 : xK (I si.2) ρ i with
      | none=>rw [e2] at hnm;cases hnm
      | some v =>
        obtain ⟨e3,o,e4⟩:=uV e2;rw [e2] at hnm;exact h.ownl (i,o) e4 b (by rw [e3];exact hnm)
  · intro i hi p e;have h1:=(h.pin i hi p e).trans e;have him : i < m:=Nat.lt_of_lt_of_le hi hn1;have hnm : xK (I si.2) ρ i = some (.pointer p):=(hkeyed i him).trans h1;exact ((hs4.pin i him p hnm).trans hnm).trans e.symm
  · rintro b (h1|rfl|rfl|h1)
    · rcases hown4 b h1 with h2|h2
      · exact .inr h2
      · exact .inl ((h.own b).2 (.inl h2))
    · exact .inl ((h.own _).2 (.inr (.inl rfl)))
    · exact .inl ((h.own _).2 (.inr (.inr (.inl rfl))))
    · exact .inl ((h.own b).2 (.inr (.inr (.inr h1))))
  · rcases hokN k b hb with h1|h1|⟨h7,h1|h1⟩
    · exact .inl h1
    · exact .inr (.inl h1)
    · exact .inr (.inr ⟨h7,.inl ((h.own b).2 (.inl h1))⟩)
    · exact .inr (.inr ⟨h7,.inr h1⟩)
theorem run_func {f : FuncId} {args : Array Value} {w : World} (h : FnOk P f) : (callFunc f args).run P w = .ok (.enter f args) w:=by
  obtain ⟨fn,hfn,hb,hn⟩:=h;have hb' : fn.body.isNone = false:=by cases h : fn.body <;> simp [h] at hb ⊢
  simp only [callFunc,Sem.run_bind,run_program,Result.andThen_ok,hfn,hn,hb',Bool.false_eq_true,if_false,Sem.run_pure]
theorem iT {g : Operand} {ps : List Nat} {assign body : Code} {f : FuncId} {caps : List A} {xs : List (List A)} {ι : Type} (tm1 : Tm) (m : Nat) (Pr : Bool → Nat → ι → Prop) (I : ι → Obs) (Xc : ι → Code) (i0 : ι)
    (hg : tgt (look tm1 g) = some (f,caps)) (hcl : kH caps = true) (hit : AIter P f caps xs) (hle : Le nx0 tm ob nx tm1 (I i0) m) (hp0 : Pr false 0 i0) (hps : ∀ (k : Nat) (hk : k < xs.length),(xs[k]).length = ps.length) (hpN : ps.all (fun p=>decide (p < N)) = true)
    (hra : rngs assign = false) (hrb : rngs body = false) (hI : ∀ k i,Pr false k i → dO (I i) m = true) (hcalm : gW (downN m) tm1 = tm1)
    (round : ∀ (k : Nat) (i : ι) (hk : k < xs.length),Pr false k i → qZ P te N m assign (appT ps xs[k] tm1) (I i) m (asnQ fun tm2 ob2 nx2=>qZ P te N m body tm2 ob2 nx2 (rndQ Pr I Xc m k)))
    (done : ∀ i,Pr false xs.length i → Q .normal tm1 (I i) m) (stop : ∀ k i,Pr true k i → qZ P te N nx0 (Xc i) tm1 (I i) m Q) (hm : Nat.ble 1000000 m = false:=by rfl) : qZ P te N nx0 (.rangeFunc g ps.toArray assign body) tm ob nx Q:=by
  unfold qZ;intro hte rd n cx hnr e1 e2 ρ a w hs;obtain ⟨rfl,hfr,hh⟩ : rd = none ∧ cx.fr = true ∧ cx.hids = []:=by
    rcases hnr.2 with h|h
    · exact h
    · cases h
  obtain ⟨ρ1,hs1⟩:=hle.st cx e2 ρ a w hs;refine wpIn_rangeFunc ?_;intro fn _;obtain ⟨rec,hrec⟩ : ∃ rec : LoopState → Option Code → Loop,rec = fun st pe=>{ state:=st,pending:=pe,fn,tmps:=a.tmps,params:=ps.toArray,assign,body,defers:=w.heap.size }:=⟨_,rfl⟩
  obtain ⟨W1,hW1⟩ : ∃ W1,(w.alloc (.deferred (some []))).alloc (.loop (rec .ready none)) = W1:=⟨_,rfl⟩;have hL1 : W1.heap[w.heap.size + 1]? = some (.loop (rec .ready none)):=by
    rw [← hW1];have:=World.alloc_heap_new (w.alloc (.deferred (some []))) (.loop (rec .ready none));rwa [World.size_alloc] at this
  have hK1 : W1.heap[w.heap.size]? = some (.deferred (some [])):=by
    rw [← hW1];exact (Below.heap_alloc _ _ _ (by simp)).trans (World.alloc_heap_new w _)
  have hsz1 : W1.heap.size = w.heap.size + 2:=by rw [← hW1];simp
  have hb1 : Below w.heap.size w W1:=by
    rw [← hW1];exact ((Below.refl _ w).alloc (Nat.le_refl _) _).alloc (by simp) _
  have hs2:=hs1.below hb1;have hcell1 : ∀ b,jK W1 b → b < w.heap.size:=fun b ⟨o',e,hno'⟩=>by
    have h1:=(Array.getElem?_eq_some_iff.1 e).1;rcases Nat.lt_or_ge b w.heap.size with h2|h2
    · exact h2
    · exfalso
      rcases Nat.eq_or_lt_of_le h2 with h3|h3
      · rw [← h3,hK1] at e;cases e;exact hno' aH
      · obtain rfl : b = w.heap.size + 1:=by omega
        rw [hL1] at e;cases e;exact hno' jB
  let okS : Oks:=fun k b=>okOf cx ρ1 (I i0) k b ∧ jK W1 b
  have hs3 : StOk cx tm1 (I i0) m ρ1 ⟨a.tmps,[]⟩ W1:=by
    have:=hs2.anyD (tm':=tm1) (a':=⟨a.tmps,[]⟩) hs2.size ⟨⟨fun _=>trivial,fun _=>rfl⟩,hs2.defers.2⟩ hs2.tms;exact this
  have hsJ : StOk (anew okS (I i0) ρ1 W1 N m []) tm1 (I i0) m ρ1 ⟨a.tmps,[]⟩ W1:=by
    have:=hs3.anew (ok:=okS) (hids:=[]) (fun k b hb hc=>⟨hb,hc⟩) (fun k b hb ⟨p,hp,e⟩=>hb.1.2 p hp e) rfl (fun q hq=>by cases hq);rw [e1] at this;exact this
  have hdefs : Defs cx.mark a.defers W1:=hs2.defers.1.1 hfr;have hmark0 : ∀ b,bZ a.defers b → b < w.heap.size:=fun b hb=>(Array.getElem?_eq_some_iff.1 ((hs1.defers.1.1 hfr).mark b hb).1).1
  have L0 : LS cx a tm1 m (w.heap.size + 1) w.heap.size I rec Xc N (false,i0) okS (fun b=>OwnB (I i0) ρ1 b ∨ b = w.heap.size + 1 ∨ b = w.heap.size ∨ bZ a.defers b) W1 ρ1:=by
    refine ⟨hsJ,fun b=>Iff.rfl,hL1,⟨⟨w.heap.size,rfl,.inl hs1.keep.size,hK1,fun e he h=>?_⟩,hdefs⟩,hs2.keep,Nat.le_succ_of_le hs1.keep.size,fun k b hb=>hb.1.1,fun k b hb=>⟨by have:=hcell1 b hb.2;omega,by have:=hcell1 b hb.2;omega⟩,fun p hp b e=>(hs2.low p hp b e).2,hs2.pin⟩;subst h;have:=hmark0 w.heap.size he;omega
  obtain ⟨cs,hgv,hcs⟩:=wL hg (hsJ.look g);have hgv : a.eval g = .func (.func f) #[] cs.toArray:=by
    rw [← hgv];cases g <;> rfl
  have hcs' : yX okS yI W1 caps cs:=kS hcl (hcs.kept cH);have hU : ∀ k b,frK k → W1.heap.size ≤ b → UOk cx k b:=fun k b h7 hb=>.inr (.inl ⟨Nat.le_trans (Nat.le_trans hs1.keep.size hb1.size) hb,h7⟩)
  have hyl : bY P (w.heap.size + 1) xs (fun st k (si : Bool × ι)=>si.1 = st ∧ Pr st k si.2) (fun (si : Bool × ι) ok own W=>∃ ρ,LS cx a tm1 m (w.heap.size + 1) w.heap.size I rec Xc N si ok own W ρ) (fun k b=>UOk cx k b) W1.heap.size:=by
    rintro k ⟨s,i⟩ ok ok' own' W vs n' hk ⟨rfl,hp⟩ ⟨ρ',L⟩ h2 hu hn hvs
    have hl : W.heap[w.heap.size + 1]? = some (.loop (rec .ready none)):=L.loop;have hvl:=yX.len hvs;have hy:=run_yield (P:=P) (args:=vs.toArray) hl (by rw [hrec];simp [hvl,hps k hk]);rw [hrec] at hy;refine ⟨fn,_,assign,body,hy,roundIn_of_wpIn trivial ?_⟩;clear hy;have hokown : ∀ k b,ok' k b ∨ ok k b → ¬ OwnB (I i) ρ' b:=by
      rintro k b (h|h) ho
      · exact wW L.st h ho
      · exact h2.ij k b h ((L.own b).2 (.inl ho))
    have hsU:=L.st.more (ok':=fun k b=>ok' k b ∨ ok k b) (hids':=[(w.heap.size + 1,.loop (rec .ready none))]) (fun k b h=>.inl h) hokown (fun q hq=>by
      rw [List.mem_singleton.1 hq];exact ⟨hl,jB⟩)
    have hvs2 : yX (okOf (anew (fun k b=>ok' k b ∨ ok k b) (I i) ρ' W N m [(w.heap.size + 1,.loop (rec .ready none))]) ρ' (I i)) ρ' W xs[k] vs:=by
      have hk2 : xI ok (okOf (anew (fun k b=>ok' k b ∨ ok k b) (I i) ρ' W N m [(w.heap.size + 1,.loop (rec .ready none))]) ρ' (I i)) W W:=fun _ b hb _=>⟨⟨.inl (.inr hb),fun p hp e=>hokown _ b (.inr hb) ⟨p,hp,e⟩⟩,rfl⟩
      have h3:=yX.kept hk2 hvs;clear hk2 hvl hvs
      revert h3
      generalize xs[k] = as
      intro h3
      induction as generalizing vs with
      | nil=>exact h3
      | cons x as ih =>
        obtain ⟨v,r,rfl,h4,h5⟩:=h3;exact ⟨v,r,rfl,A.names jS h4,ih r h5⟩
    have hsA:=appT_st (ps:=ps) hsU rfl hpN hvs2;have hr:=round k i hk hp;unfold qZ at hr;have hrun:=hr hte (some (w.heap.size + 1)) n' _ (eP hm hra) rfl rfl ρ' _ W hsA;have hzip : (ps.toArray.zip vs.toArray).foldl (fun (tmps : Array Value) (x : Nat × Value)=>tmps.setIfInBounds x.1 x.2) a.tmps = (ps.zip vs).foldl (fun t (p,v)=>t.setIfInBounds p v) a.tmps:=by
      rw [← Array.foldl_toList];simp
    refine Code.wpIn_mono ?_ (show assign.wpIn ((FR none).inRound (w.heap.size + 1)) n' P _ { tmps:=(ps.toArray.zip vs.toArray).foldl (fun (tmps : Array Value) (x : Nat × Value)=>tmps.setIfInBounds x.1 x.2) a.tmps,defers:=[] } W by rw [hzip];exact hrun)
    rintro e a2 W2 ⟨tm2,ob2,nx2,ρ2,hq,hs4⟩
    cases e <;> simp only [asnQ,Exit.then] at hq ⊢
    have hl2 : W2.heap[w.heap.size + 1]? = some (.loop (rec .ready none)):=(hs4.defers.2 (w.heap.size + 1,.loop (rec .ready none)) (by simp)).1;have hlW2 : w.heap.size + 1 < W2.heap.size:=(Array.getElem?_eq_some_iff.1 hl2).1;refine ⟨_,run_beginRound hl2 (by rw [hrec]),?_⟩;obtain ⟨busy,hbusy⟩ : ∃ q : Loop,q = { rec .ready none with state:=.busy }:=⟨_,rfl⟩;rw [← hbusy];have hs5:=hs4.reput (h2:=[(w.heap.size + 1,.loop busy)]) (o:=.loop busy) hl jB hl2 (fun q hq=>by
      rw [List.mem_singleton.1 hq];exact ⟨World.putObj_heap_same hlW2,jB⟩)
    refine Code.wpIn_mono ?_ (hq hte (some (w.heap.size + 1)) n' _ (eP hm hrb) rfl rfl ρ2 a2 _ hs5);have fin : ∀ (s : Bool) (j : ι) (tm3 : Tm) (ob3 : Obs) (nx3 : Nat) (ρ3 : Nat → Option Value) (a3 : Act) (W3 : World) (jump : Option Code),Le m tm3 ob3 nx3 [] (I j) m → jump = (if s then some (Xc j) else none) → Pr s (k + 1) j →
        StOk ⟨fun k b=>ok' k b ∨ ok k b,xK (I i) ρ',W.putObj (w.heap.size + 1) (.loop busy),N,m,[(w.heap.size + 1,.loop busy)],false⟩ tm3 ob3 nx3 ρ3 a3 W3 →
        ∃ v w',(Instr.endRound (w.heap.size + 1) jump).run P W3 = .ok v w' ∧ zZ W w' ∧ (∀ b,b < W.heap.size → ¬ own' b → w'.heap[b]? = W.heap[b]?) ∧ ∃ (st : Bool) (j : Bool × ι) (ok2 : Oks) (own2 : Nat → Prop),Ending.returned v = .returned (.bool (!st)) ∧ (j.1 = st ∧ Pr st (k + 1) j.2) ∧ (∃ ρ,LS cx a tm1 m (w.heap.size + 1) w.heap.size I rec Xc N j ok2 own2 w' ρ) ∧
          (∀ b,own2 b → own' b ∨ W.heap.size ≤ b) ∧ (∀ k b,ok2 k b → ok' k b ∨ ok k b ∨ (frK k ∧ (own' b ∨ W.heap.size ≤ b))) ∧ (∀ k b,ok2 k b → b < w'.heap.size) ∧ ∀ b,own2 b → b < w'.heap.size:=by
      intro s j tm3 ob3 nx3 ρ3 a3 W3 jump hle hj hpj hs6;obtain ⟨ρ4,hs7⟩:=hle.st _ rfl ρ3 a3 W3 hs6;obtain ⟨ok2,own2,LN,hsub,hoks⟩:=L.next (sj:=(s,j)) (ok1:=ok) (fun k b h=>.inl h) (fun k b h=>h) hu hs1.disj hs1.bags hs1.nx0 (hI k i hp) hcalm hs7;have hl3 : W3.heap[w.heap.size + 1]? = some (.loop busy):=(hs7.defers.2 (w.heap.size + 1,.loop busy) (by simp)).1;have hend:=run_endRound (P:=P) jump hl3;have hrec2 : Obj.loop { busy with state:=if jump.isNone then .ready else .done,pending:=jump } = .loop (if s then rec .done (some (Xc j)) else rec .ready none):=by
        rw [hbusy,hj,hrec];cases s <;> rfl
      rw [hrec2] at hend;refine ⟨_,_,hend,?_,fun b hb ho=>?_,s,(s,j),ok2,own2,?_,⟨rfl,hpj⟩,⟨ρ4,LN⟩,hsub,hoks,fun k b hb=>(LN.okl k b hb).1,fun b hb=>LN.lt hb⟩
      · exact (zL W _ _).trans (hs7.keep.grows.trans (zL W3 _ _))
      · have hbl : b ≠ w.heap.size + 1:=fun e=>ho ((L.own b).2 (.inr (.inl e)))
        rw [World.putObj_heap_other hbl,hs7.keep.block b (by show b < (W.putObj _ _).heap.size;rw [World.putObj_size];exact hb) (fun ⟨q,_,e⟩=>ho ((L.own b).2 (.inl (xL e)))) (fun hg=>wE (cx:=⟨fun k b=>ok' k b ∨ ok k b,xK (I i) ρ',W.putObj (w.heap.size + 1) (.loop busy),N,m,[(w.heap.size + 1,.loop busy)],false⟩) (xU L.st.fresh) hg.1)];exact World.putObj_heap_other hbl
      · rw [hj];cases s <;> rfl
    rintro e a3 W3 ⟨tm3,ob3,nx3,ρ3,hq3,hs6⟩
    cases e <;> simp only [rndQ,roundPost] at hq3 ⊢
    · obtain ⟨j,hpj,hle⟩:=hq3;exact fin false j tm3 ob3 nx3 ρ3 a3 W3 none hle rfl hpj hs6
    · obtain ⟨j,hpj,hx,hle⟩:=hq3;exact fin true j tm3 ob3 nx3 ρ3 a3 W3 _ hle (by rw [hx];rfl) hpj hs6
    · obtain ⟨j,hpj,hx,hle⟩:=hq3;exact fin true j tm3 ob3 nx3 ρ3 a3 W3 _ hle (by rw [hx];rfl) hpj hs6
  have htwo : Two okS (fun _=>False) okS (fun b=>OwnB (I i0) ρ1 b ∨ b = w.heap.size + 1 ∨ b = w.heap.size ∨ bZ a.defers b) W1:=by
    refine ⟨fun k b h=>(L0.okl k b h).1,fun _ h=>h.elim,fun k b h=>(L0.okl k b h).1,fun b h=>L0.lt h,fun k b h h'=>?_,fun _ _ _ h=>h,fun _ h=>h.elim⟩;have hb:=hcell1 b h.2;rcases h' with ⟨p,hp,e⟩|rfl|rfl|h1
    · exact h.1.2 p hp e
    · omega
    · omega
    · exact jK.not (hdefs.mark b h1).1 aH h.2
  refine ⟨w.heap.size + 1,[{ target:=.collected w.heap.size,args:=#[] }],W1,{ target:=.fn (.func f) cs.toArray,args:=#[.func (.yield (w.heap.size + 1)) #[] #[]] },W1,f,
    #[.func (.yield (w.heap.size + 1)) #[] #[]] ++ cs.toArray,W1,?_,?_,fun _ _=>trivial,?_,zM,?_⟩
  · rw [← hW1,hrec];exact run_enterLoop_outer _ _ _ _ _
  · simp only [resolve,hgv];simp [go_sem]
  · simp [invoke,go_sem,run_func hit.1]
  · have hcall:=hit.2 (w.heap.size + 1) (Bool × ι) _ _ _ W1.heap.size hU (LS.abides W1.heap.size (Nat.le_trans hs1.keep.size hb1.size) fun b hb=>(hs1.bags b hb).1) hyl (false,i0) okS okS _ W1 cs ⟨rfl,hp0⟩ ⟨ρ1,L0⟩ hsJ.glob htwo (fun k b h=>L0.okU k b h) rfl hcs';rw [show (#[.func (.yield (w.heap.size + 1)) #[] #[]] ++ cs.toArray : Array Value) = (.func (.yield (w.heap.size + 1)) #[] #[] :: cs).toArray by simp];refine calls_fr (hcall.mono ?_)
    rintro e W3 ⟨⟨v,rfl⟩,st,k,⟨s,j⟩,ok2,own2,hst,⟨rfl,hpj⟩,ρ3,LN⟩
    have hback:=LN.back hfr hh e1 hs1.nx0 hs1.disj hs1.glob hs1.bags;have hl3:=LN.loop;have hl3n : ¬ jK W3 (w.heap.size + 1):=jK.not hl3 jB;have hpoke : ∀ o,StOk cx tm1 (I j) m ρ3 ⟨a.tmps,{ target:=.collected w.heap.size,args:=#[] } :: a.defers⟩ (W3.putObj (w.heap.size + 1) o):=fun o =>
      hback.poke hl3n LN.low (hback.defers.kept' hl3 o)
    cases s with
    | false =>
      have:=run_endLoop (P:=P) hl3 (by rw [hrec];simp);refine ⟨_,_,this,?_⟩;rw [hrec];exact ⟨tm1,I j,m,ρ3,done j (hst rfl ▸ hpj),hpoke _⟩
    | true =>
      have:=run_endLoop (P:=P) hl3 (by rw [hrec];simp);refine ⟨_,_,this,?_⟩;rw [hrec];have hstop:=stop k j hpj;unfold qZ at hstop;exact hstop hte none n cx ⟨hnr.1,.inl ⟨rfl,hfr,hh⟩⟩ e1 e2 ρ3 _ _ (hpoke _)
end
def Rd.only3 : {α : Type} → Rd α → Bool
  | _,.unk=>true
  | _,.str=>true
  | _,.int _=>true
  | _,.bool=>true
  | _,.raw=>true
  | _,.slk k R=>match Nat.beq k 3 with
    | true=>R.only3
    | false=>false
  | _,.ptk _ _=>false
  | _,.ifc _ R=>R.only3
  | _,.st R S=>match R.only3 with
    | true=>S.only3
    | false=>false
def C.only3 : C → Bool
  | .any=>true
  | .lit _=>true
  | .slk k R _=>match Nat.beq k 3 with
    | true=>R.only3
    | false=>false
  | .vec _=>true
  | .own _ _=>true
  | .ifc _ c=>c.only3
  | _=>false
def only3L : List C → Bool
  | []=>true
  | c :: r=>match c.only3 with
    | true=>only3L r
    | false=>false
def only3T : List (Bool × List C) → Bool
  | []=>true
  | p :: r=>match only3L p.2 with
    | true=>only3T r
    | false=>false
def A.only3 : A → Bool
  | .one c=>c.only3
  | .agg cs=>only3L cs
  | .tup cs=>only3T cs
  | .cond _ _=>false
def Ob.only3 : Ob → Bool
  | .box _ cs=>only3L cs
  | .vec _ R _=>R.only3
  | .map _ _ _=>false
def only3Ob : Obs → Bool
  | []=>true
  | p :: r=>match p.2.only3 with
    | true=>only3Ob r
    | false=>false
section
variable {ok ok' : Oks} {ρ : Nat → Option Value} {w : World}
end
def noqTm (q : Nat) : Tm → Bool
  | []=>true
  | p :: r=>match p.2.noq q with
    | true=>noqTm q r
    | false=>false
def Ob.noq (q : Nat) : Ob → Bool
  | .box _ cs=>noqL q cs
  | .vec _ R _=>R.noq q
  | .map _ R _=>R.noq q
def noqOb (q : Nat) : Obs → Bool
  | []=>true
  | p :: r=>match p.2.noq q with
    | true=>noqOb q r
    | false=>false
section
variable {q : Nat} {ok ok' : Oks} {ρ : Nat → Option Value} {w : World}
theorem noqTm_get : ∀ {tm : Tm} (i : Nat),noqTm q tm = true → (get tm i).noq q = true
  | [],_,_=>rfl
  | p :: r,i,h=>by
    unfold noqTm at h;split at h
    · rename_i h1;rw [jR];split
      · exact h1
      · exact noqTm_get i h
    · cases h
theorem noqOb_mem : ∀ {ob : Obs} {p : Nat × Ob},noqOb q ob = true → p ∈ ob → p.2.noq q = true
  | [],_,_,h=>by cases h
  | x :: r,p,h,hp=>by
    unfold noqOb at h;split at h
    · rename_i h1;rcases List.mem_cons.1 hp with hp|hp
      · subst hp;exact h1
      · exact noqOb_mem h hp
    · cases h
theorem Ob.backq (hq : q ≠ 0) (hk : BackQ q ok ok') {id : Nat} : ∀ {o : Ob},o.noq q = true → o.is ok ρ w id → o.is ok' ρ w id
  | .box _ _,hn,h=>by
    obtain ⟨b,vs,h1,h2,h3⟩:=h;exact ⟨b,vs,h1,h2,h3.backq hq hk hn⟩
  | .vec _ R _,hn,h=>by
    obtain ⟨v,hv,css,h1,h2,h3⟩:=h;exact ⟨v,hv,css,h1,fun i hi=>R.backq hk hn (h2 i hi),h3⟩
  | .map _ R _,hn,h=>by
    obtain ⟨r,h1,h2⟩:=h;exact ⟨r,h1,h2.imp rfl fun _ _ h=>R.backq hk hn h⟩
end
def gG : List Nat → Obs → Obs
  | [],_=>[]
  | i :: r,ob=>match getO ob i with
    | some o=>(i,o) :: gG r ob
    | none=>gG r ob
theorem kP : ∀ {ids : List Nat} {ob : Obs} {p : Nat × Ob},p ∈ gG ids ob → p ∈ ob ∧ p.1 ∈ ids
  | [],_,_,h=>by cases h
  | i :: r,ob,p,h=>by
    unfold gG at h;split at h
    · rename_i o ho;rcases List.mem_cons.1 h with h|h
      · subst h;exact ⟨yF ho,by simp⟩
      · exact ⟨(kP h).1,List.mem_cons_of_mem _ (kP h).2⟩
    · exact ⟨(kP h).1,List.mem_cons_of_mem _ (kP h).2⟩
theorem keepO_nd : ∀ {ids : List Nat} {ob : Obs},ids.Nodup → ((gG ids ob).map (·.1)).Nodup
  | [],_,_=>List.nodup_nil
  | i :: r,ob,h=>by
    obtain ⟨h1,h2⟩:=List.nodup_cons.1 h;unfold gG;split
    · refine List.nodup_cons.2 ⟨fun hm=>?_,keepO_nd h2⟩;obtain ⟨p,hp,e⟩:=List.mem_map.1 hm;have:=(kP hp).2;rw [e] at this;exact h1 this
    · exact keepO_nd h2
theorem keepT_any : ∀ {rs : List Nat} {tm : Tm} (i : Nat),get (wI rs tm) i = .one .any ∨ get (wI rs tm) i = get tm i
  | [],_,_=>.inl rfl
  | t :: r,tm,i=>by
    rw [wI,jR];split
    · rename_i e;rw [show t = i from Nat.eq_of_beq_eq_true e];exact .inr rfl
    · exact keepT_any i
def dH : List Deferred → List (Nat × Obj)
  | []=>[]
  | d :: ds=>match d.target with
    | .collected b=>(b,Obj.deferred (some [])) :: dH ds
    | _=>dH ds
theorem dG : ∀ {ds : List Deferred} {b : Nat},{ target:=.collected b,args:=#[] } ∈ ds → (b,Obj.deferred (some [])) ∈ dH ds
  | d :: ds,b,h=>by
    rcases List.mem_cons.1 h with h|h
    · subst h;exact List.mem_cons_self
    · have:=dG h;unfold dH;split
      · exact List.mem_cons_of_mem _ this
      · exact this
theorem fZ {M : Nat → Prop} {w : World} : ∀ {ds : List Deferred} {q : Nat × Obj},Defs M ds w → q ∈ dH ds → q.2 = Obj.deferred (some []) ∧ M q.1 ∧ w.heap[q.1]? = some (Obj.deferred (some []))
  | d :: ds,q,h,hq=>by
    obtain ⟨⟨b,h1,h2,h3,_⟩,h5⟩:=h;rw [h1] at hq;rcases List.mem_cons.1 hq with e|e
    · subst e;exact ⟨rfl,h2,h3⟩
    · exact fZ h5 e
def bagCx (cx : Cx) (ρ : Nat → Option Value) (ob : Obs) (w : World) (rows : Nat → Prop) (ρ2 : Nat → Option Value) (ob2 : Obs) (w1 : World) (nz : Nat) (ds : List Deferred) : Cx :=
  ⟨fun k b=>(k ≠ 7 ∧ okOf cx ρ ob k b ∧ b < w.heap.size) ∨ (k = 7 ∧ rows b),fun i=>if i = nz then some (.agg #[]) else xK ob2 ρ2 i,w1,cx.N,nz,cx.hids ++ dH ds,cx.fr⟩
section
variable {P : Program} {te : List (TypeId × TyI)} {cx : Cx} {tm : Tm} {ob : Obs} {nx N nx0 : Nat} {ρ : Nat → Option Value} {a : Act} {w : World} {Q : AQ}
def bagQ (rs ids : List Nat) (Q : AQ) : AQ:=fun e tm ob nx=>match noqTm 7 (wI rs tm),noqOb 7 (gG ids ob) with
  | true,true=>Q e (wI rs tm) (gG ids ob) nx
  | _,_=>False
theorem zF {c : Code} (i : Nat) {α β : Type} {E : TypeId} {R : Rd α} {xs : List α} {S : Rd β} {ys : List β} (hi : getO ob i = some (.vec E R xs)) (hn : R.n = S.n) (hl : xs.length = ys.length) (himp : ∀ (ok : Oks) (w : World) (cs : List Value) (j : Nat) (hj : j < xs.length) (hj' : j < ys.length),R.is ok w cs xs[j] → S.is ok w cs ys[j])
    (h : qZ P te N nx0 c tm (setO i (.vec E S ys) ob) nx Q) : qZ P te N nx0 c tm ob nx Q:=by
  unfold qZ at *;intro hte rd n cx hnr e1 e2 ρ a w hs;refine h hte rd n cx hnr e1 e2 ρ a w ?_;have hmem:=yF hi;have hk : ∀ p ∈ setO i (.vec E S ys) ob,∃ q ∈ ob,q.1 = p.1:=fun p hp=>by
    rcases wA hs.nd hp with ⟨h1,_⟩|⟨h1,_⟩
    · exact ⟨_,hmem,h1.symm⟩
    · exact ⟨p,h1,rfl⟩
  refine ⟨hs.size,hs.defers,fun j=>by rw [wU];exact hs.tms j,fun p hp=>?_,by rw [wR];exact hs.nd,fun p hp=>?_,hs.names,hs.nx0,fun p hp q hq hne=>?_,fun p hp=>?_,hs.keep,hs.disj,hs.pin,hs.glob,hs.bags⟩
  · rw [wU];rcases wA hs.nd hp with ⟨h1,h2⟩|⟨h1,_⟩
    · rw [h1,h2];obtain ⟨v,hv,css,h3,h4,h5⟩ : ∃ v,ρ i = some v ∧ uF (okOf cx ρ ob) w v E R xs:=hs.obs _ hmem;refine ⟨v,hv,css,h3.trans hl,fun j hj=>himp _ _ _ j (by omega) hj (h4 j (by omega)),?_⟩;rw [← hn,← hl];exact h5
    · exact hs.obs p h1
  · obtain ⟨q,h1,h2⟩:=hk p hp;rw [← h2];exact hs.fresh q h1
  · obtain ⟨p',h1,h2⟩:=hk p hp;obtain ⟨q',h3,h4⟩:=hk q hq;rw [← h2,← h4] at hne ⊢;exact hs.sep p' h1 q' h3 hne
  · obtain ⟨q,h1,h2⟩:=hk p hp;rw [← h2];exact hs.low q h1
end
def Rd.rk (s : Nat → Nat) : {α : Type} → Rd α → Rd α
  | _,.unk=>.unk
  | _,.str=>.str
  | _,.int k=>.int k
  | _,.bool=>.bool
  | _,.raw=>.raw
  | _,.slk k R=>.slk (s k) (R.rk s)
  | _,.ptk k R=>.ptk (s k) (R.rk s)
  | _,.ifc t R=>.ifc t (R.rk s)
  | _,.st R S=>.st (R.rk s) (S.rk s)
def Rd.kin (p : Nat → Bool) : {α : Type} → Rd α → Bool
  | _,.unk=>true
  | _,.str=>true
  | _,.int _=>true
  | _,.bool=>true
  | _,.raw=>true
  | _,.slk k R=>match p k with
    | true=>R.kin p
    | false=>false
  | _,.ptk k R=>match p k with
    | true=>R.kin p
    | false=>false
  | _,.ifc _ R=>R.kin p
  | _,.st R S=>match R.kin p with
    | true=>S.kin p
    | false=>false
variable {s : Nat → Nat} {p : Nat → Bool} {ok ok' : Oks} {ρ : Nat → Option Value} {w : World}
theorem Rd.rk_n : ∀ {α : Type} (R : Rd α),(R.rk s).n = R.n
  | _,.unk=>rfl
  | _,.str=>rfl
  | _,.int _=>rfl
  | _,.bool=>rfl
  | _,.raw=>rfl
  | _,.slk _ _=>rfl
  | _,.ptk _ _=>rfl
  | _,.ifc _ _=>rfl
  | _,.st R S=>by simp only [Rd.rk,Rd.n,Rd.rk_n R,Rd.rk_n S]
def Rek (s : Nat → Nat) (p : Nat → Bool) (ok ok' : Oks) (w : World) : Prop:=∀ k,p k = true → ∀ b,okU ok w k b → b < w.heap.size → okU ok' w (s k) b
theorem Rd.rk_is (hk : Rek s p ok ok' w) : ∀ {α : Type} (R : Rd α) {cs : List Value} {x : α},R.kin p = true → R.is ok w cs x → (R.rk s).is ok' w cs x
  | _,.str,_,_,_,h=>h
  | _,.int _,_,_,_,h=>h
  | _,.bool,_,_,_,h=>h
  | _,.raw,_,_,_,h=>h
  | _,.unk,_,_,_,h=>h
  | _,.slk k R,_,_,ho,h=>by
    unfold Rd.kin at ho;split at ho
    · rename_i e;obtain ⟨v,e1,a,cap,h1,h2,h3,h4⟩:=h;refine ⟨v,e1,a,cap,h1,h2,h3,fun i hi=>?_⟩;obtain ⟨b,off,cs,h5,h6,h7,h8,h9⟩:=h4 i hi;exact ⟨b,off,cs,h5,hk k e b h6 h7,h7,by rw [Rd.rk_n];exact h8,Rd.rk_is hk R ho h9⟩
    · cases ho
  | _,.ptk k R,_,_,ho,h=>by
    unfold Rd.kin at ho;split at ho
    · rename_i e;obtain ⟨b,off,ds,e1,h1,h2,h3,h4⟩:=h;exact ⟨b,off,ds,e1,hk k e b h1 h2,h2,by rw [Rd.rk_n];exact h3,Rd.rk_is hk R ho h4⟩
    · cases ho
  | _,.ifc _ R,_,_,ho,h=>by
    obtain ⟨u,e,h⟩:=h;exact ⟨u,e,Rd.rk_is hk R ho h⟩
  | _,.st R S,_,_,ho,h=>by
    unfold Rd.kin at ho;split at ho
    · rename_i e;obtain ⟨c,d,e1,h1,h2⟩:=h;exact ⟨c,d,e1,Rd.rk_is hk R e h1,Rd.rk_is hk S ho h2⟩
    · cases ho
def C.rk (s : Nat → Nat) (p : Nat → Bool) : C → C
  | .lit v=>.lit v
  | .slk k R xs=>match p k,R.kin p with
    | true,true=>.slk (s k) (R.rk s) xs
    | _,_=>.any
  | .adk k R x=>match p k,R.kin p with
    | true,true=>.adk (s k) (R.rk s) x
    | _,_=>.any
  | .ifc t c=>.ifc t (c.rk s p)
  | .own i o=>.own i o
  | .vec i=>.vec i
  | .vel i k n=>.vel i k n
  | .vof i k n o=>.vof i k n o
  | .nself u i=>.nself u i
  | .fx i u=>.fx i u
  | .mp i=>.mp i
  | _=>.any
theorem C.rk_rep (hk : Rek s p ok ok' w) : ∀ {c : C} {v : Value},c.rep ok ρ w v → (c.rk s p).rep ok' ρ w v
  | .any,_,_=>trivial
  | .lit _,_,h=>h
  | .slk k R xs,v,h=>by
    unfold C.rk;split
    · rename_i e1 e2;obtain ⟨a,cap,h1,h2,h3,h4⟩:=h;refine ⟨a,cap,h1,h2,h3,fun i hi=>?_⟩;obtain ⟨b,off,cs,h5,h6,h7,h8,h9⟩:=h4 i hi;exact ⟨b,off,cs,h5,hk k e1 b h6 h7,h7,by rw [Rd.rk_n];exact h8,Rd.rk_is hk R e2 h9⟩
    · trivial
  | .adk k R x,v,h=>by
    unfold C.rk;split
    · rename_i e1 e2;obtain ⟨b,off,cs,h1,h2,h3,h4,h5⟩:=h;exact ⟨b,off,cs,h1,hk k e1 b h2 h3,h3,by rw [Rd.rk_n];exact h4,Rd.rk_is hk R e2 h5⟩
    · trivial
  | .full _ _,_,_=>trivial
  | .ifc _ c,_,h=>by
    obtain ⟨u,hv,h⟩:=h;exact ⟨u,hv,C.rk_rep hk h⟩
  | .own _ _,_,h=>h
  | .vec _,_,h=>h
  | .vel _ _ _,_,h=>h
  | .vof _ _ _ _,_,h=>h
  | .nself _ _,_,h=>h
  | .fx _ _,_,h=>h
  | .mp _,_,h=>h
  | .clo _ _,_,_=>trivial
  | .clo2 _ _ _,_,_=>trivial
  | .clo3 _ _ _ _,_,_=>trivial
  | .ref _,_,_=>trivial
def rkL (s : Nat → Nat) (p : Nat → Bool) : List C → List C
  | []=>[]
  | c :: r=>c.rk s p :: rkL s p r
def rkT (s : Nat → Nat) (p : Nat → Bool) : List (Bool × List C) → List (Bool × List C)
  | []=>[]
  | c :: r=>(c.1,rkL s p c.2) :: rkT s p r
def A.rk (s : Nat → Nat) (p : Nat → Bool) : A → A
  | .one c=>.one (c.rk s p)
  | .agg cs=>.agg (rkL s p cs)
  | .tup cs=>.tup (rkT s p cs)
  | .cond b a=>.cond b (a.rk s p)
theorem rkL_rep (hk : Rek s p ok ok' w) : ∀ {cs : List C} {vs : List Value},repL ok ρ w cs vs → repL ok' ρ w (rkL s p cs) vs
  | [],_,h=>h
  | _ :: _,_,h=>by
    obtain ⟨v,r,e,h1,h2⟩:=h;exact ⟨v,r,e,C.rk_rep hk h1,rkL_rep hk h2⟩
theorem rkV_rep (hk : Rek s p ok ok' w) : ∀ {g : Bool} {cs : List C} {v : Value},repV ok ρ w g cs v → repV ok' ρ w g (rkL s p cs) v
  | true,_,_,h=>by obtain ⟨vs,e,h⟩:=h;exact ⟨vs,e,rkL_rep hk h⟩
  | false,_,_,h=>rkL_rep hk h
theorem rkT_rep (hk : Rek s p ok ok' w) : ∀ {cs : List (Bool × List C)} {vs : List Value},repT ok ρ w cs vs → repT ok' ρ w (rkT s p cs) vs
  | [],_,h=>h
  | _ :: _,_,h=>by
    obtain ⟨v,r,e,h1,h2⟩:=h;exact ⟨v,r,e,rkV_rep hk h1,rkT_rep hk h2⟩
theorem A.rk_rep (hk : Rek s p ok ok' w) : ∀ {a : A} {v : Value},a.rep ok ρ w v → (a.rk s p).rep ok' ρ w v
  | .one _,_,h=>C.rk_rep hk h
  | .agg _,_,h=>rkV_rep hk h
  | .tup _,_,h=>by obtain ⟨vs,e,h⟩:=h;exact ⟨vs,e,rkT_rep hk h⟩
  | .cond _ _,_,h=>⟨fun hb=>A.rk_rep hk (h.1 hb),h.2⟩
def rkTm (s : Nat → Nat) (p : Nat → Bool) : Tm → Tm
  | []=>[]
  | q :: r=>(q.1,q.2.rk s p) :: rkTm s p r
theorem get_rk : ∀ (tm : Tm) (i : Nat),get (rkTm s p tm) i = (get tm i).rk s p
  | [],_=>rfl
  | q :: r,i=>by
    simp only [rkTm,get];split
    · rfl
    · exact get_rk r i
def Ob.kin (p : Nat → Bool) : Ob → Bool
  | .box _ _=>true
  | .vec _ R _=>R.kin p
  | .map _ R _=>R.kin p
def Ob.rk (s : Nat → Nat) (p : Nat → Bool) : Ob → Ob
  | .box T cs=>.box T (rkL s p cs)
  | .vec E R xs=>.vec E (R.rk s) xs
  | .map g R es=>.map g (R.rk s) es
theorem Ob.rk_is (hk : Rek s p ok ok' w) {id : Nat} : ∀ {o : Ob},o.kin p = true → o.is ok ρ w id → (o.rk s p).is ok' ρ w id
  | .box T cs,_,h=>by
    obtain ⟨b,vs,h1,h2,h3⟩:=h;exact ⟨b,vs,h1,h2,rkL_rep hk h3⟩
  | .vec E R xs,ho,h=>by
    obtain ⟨v,hv,css,h1,h2,h3⟩:=h;exact ⟨v,hv,css,h1,fun i hi=>Rd.rk_is hk R ho (h2 i hi),by rw [Rd.rk_n];exact h3⟩
  | .map g R es,ho,h=>by
    obtain ⟨r,hv,arr,clock,h2,h3⟩:=h;exact ⟨r,hv,arr,clock,h2,h3.imp fun cs x h=>Rd.rk_is hk R ho h⟩
def rkOb (s : Nat → Nat) (p : Nat → Bool) : Obs → Obs
  | []=>[]
  | q :: r=>(q.1,q.2.rk s p) :: rkOb s p r
def kinOb (p : Nat → Bool) : Obs → Bool
  | []=>true
  | q :: r=>match q.2.kin p with
    | true=>kinOb p r
    | false=>false
theorem jC : ∀ {ob : Obs} {x : Nat × Ob},x ∈ rkOb s p ob → ∃ q ∈ ob,x = (q.1,q.2.rk s p)
  | q :: r,x,h=>by
    rcases List.mem_cons.1 h with h|h
    · exact ⟨q,List.mem_cons_self,h⟩
    · obtain ⟨q',h1,h2⟩:=jC h;exact ⟨q',List.mem_cons_of_mem _ h1,h2⟩
theorem fS : ∀ {ob : Obs},(rkOb s p ob).map (·.1) = ob.map (·.1)
  | []=>rfl
  | q :: r=>by simp only [rkOb,List.map_cons,fS (ob:=r)]
theorem hH : ∀ {ob : Obs} {q : Nat × Ob},kinOb p ob = true → q ∈ ob → q.2.kin p = true
  | x :: r,q,h,hq=>by
    unfold kinOb at h;split at h
    · rename_i e;rcases List.mem_cons.1 hq with hq|hq
      · rw [hq];exact e
      · exact hH h hq
    · cases h
def is0 (k : Nat) : Bool:=Nat.beq k 0
def is93 (k : Nat) : Bool:=Nat.beq k 9 || Nat.beq k 3
def to9 (_ : Nat) : Nat:=9
def to07 (k : Nat) : Nat:=if k = 9 then 0 else 7
section
variable {P : Program} {te : List (TypeId × TyI)} {cx : Cx} {tm : Tm} {ob : Obs} {nx N nx0 : Nat} {ρ : Nat → Option Value} {a : Act} {w : World} {Q : AQ}
def wG (cx : Cx) (ρ : Nat → Option Value) (ob : Obs) (w : World) (nx : Nat) (ds : List Deferred) : Cx :=
  ⟨fun k b=>(k = 9 ∧ okOf cx ρ ob 0 b ∧ b < w.heap.size) ∨ (k = 0 ∧ b < nGlob),xK ob ρ,w,cx.N,nx,cx.hids ++ dH ds,cx.fr⟩
theorem rek_hold : Rek to9 is0 (okOf cx ρ ob) (okOf (wG cx ρ ob w nx a.defers) ρ (rkOb to9 is0 ob)) w:=by
  intro k hk b hb hlt;obtain rfl : k = 0:=Nat.eq_of_beq_eq_true hk;refine ⟨⟨.inl (.inl ⟨rfl,hb.1,hlt⟩),fun p hp e=>?_⟩,fun e=>by rcases e with e|e <;> cases e⟩;obtain ⟨q,hq,rfl⟩:=jC hp;exact hb.1.2 q hq e
theorem hold_st (hs : StOk cx tm ob nx ρ a w) (h0 : kinOb is0 ob = true) : StOk (wG cx ρ ob w nx a.defers) (rkTm to9 is0 tm) (rkOb to9 is0 ob) nx ρ a w:=by
  have hnone : (wG cx ρ ob w nx a.defers).nm (wG cx ρ ob w nx a.defers).nx0 = none:=xU hs.fresh;refine ⟨hs.size,⟨⟨fun e=>(hs.defers.1.1 e).imp fun b _ _ hm=>.inr (List.mem_append_right _ (dG hm)),hs.defers.1.2⟩,fun q hq=>?_⟩,fun i=>by rw [get_rk];exact A.rk_rep rek_hold (hs.tms i),fun p hp=>?_,by rw [fS];exact hs.nd,fun p hp=>?_,hs.names,Nat.le_refl _,fun p hp q hq hne b e1 e2=>?_,fun p hp b e=>?_,⟨rfl,rfl,rfl,Nat.le_refl _,fun _ _ _ _=>rfl,fun _ _=>.rfl' rfl⟩,fun i b hi e k hk=>?_,fun i hi p e=>?_,⟨fun g hg=>.inr ⟨rfl,hg⟩,hs.globAt.2⟩,.none hnone⟩
  · rcases List.mem_append.1 hq with h1|h1
    · exact hs.defers.2 q h1
    · cases hfr : cx.fr with
      | true =>
        obtain ⟨h2,_,h3⟩:=fZ (hs.defers.1.1 hfr) h1;rw [h2];exact ⟨h3,aH⟩
      | false=>rw [hs.defers.1.2 hfr] at h1;cases h1
  · obtain ⟨q,hq,rfl⟩:=jC hp;exact Ob.rk_is rek_hold (hH h0 hq) (hs.obs q hq)
  · obtain ⟨q,hq,rfl⟩:=jC hp;exact hs.fresh q hq
  · obtain ⟨p',hp',rfl⟩:=jC hp;obtain ⟨q',hq',rfl⟩:=jC hq;exact hs.sep p' hp' q' hq' hne b e1 e2
  · obtain ⟨q,hq,rfl⟩:=jC hp;have h1:=(hs.low q hq b e).1;refine ⟨h1,.inr ⟨q.1,hs.fresh q hq,?_⟩⟩;show blk (xK ob ρ q.1) = some b;rw [zJ hq];exact e
  · obtain ⟨p,hp,e2⟩:=xL (show blk (xK ob ρ i) = some b from e);rcases hk with ⟨_,h1,_⟩|⟨_,h1⟩
    · exact h1.2 p hp e2
    · exact (hs.globAt.1 b h1).2 p hp e2
  · have e : xK ob ρ i = some (.pointer p):=e;show ρ i = xK ob ρ i;rw [e];exact (uV e).1
def rowsL (ρ : Nat → Option Value) (ob : Obs) (w : World) (ρ2 : Nat → Option Value) (ob2 : Obs) (w1 : World) : Nat → Prop:=fun b=>(w.heap.size ≤ b ∨ OwnB ob ρ b) ∧ b < w1.heap.size ∧ ∀ q ∈ ob2,blk (ρ2 q.1) ≠ some b
theorem bagL_back {ρ2 ρ' : Nat → Option Value} {ob2 ob' : Obs} {w1 w' : World} {nx2 nz nx' : Nat} {tm2 tm' : Tm} {a' : Act} {rs ids : List Nat} (hs : StOk cx tm ob nx ρ a w) (hn0 : cx.nx0 = 0) (hs2 : StOk (wG cx ρ ob w nx a.defers) tm2 ob2 nx2 ρ2 a w1)
    (h : StOk (bagCx cx ρ ob w (rowsL ρ ob w ρ2 ob2 w1) ρ2 ob2 w1 nz a.defers) tm' ob' nx' ρ' a' w') (h7 : noqTm 7 (wI rs tm') = true) (h7o : noqOb 7 (gG ids ob') = true) (hnd : ids.Nodup) : StOk cx (wI rs tm') (gG ids ob') nx' ρ' a' w':=by
  have hnone : (wG cx ρ ob w nx a.defers).nm (wG cx ρ ob w nx a.defers).nx0 = none:=xU hs.fresh;have hsz : w.heap.size ≤ w1.heap.size:=hs2.keep.size;have hlo : ∀ b,OwnB ob ρ b → cx.w0.heap.size ≤ b:=fun b ⟨p,hp,e⟩=>by
    rcases (hs.low p hp b e).2 with h1|⟨i,hi,_⟩
    · exact h1
    · rw [hn0] at hi;exact absurd hi (Nat.not_lt_zero _)
  have hblock : ∀ b,b < w.heap.size → ¬ OwnB ob ρ b → w1.heap[b]? = w.heap[b]?:=fun b hb hno=>hs2.keep.block b hb (fun ⟨i,_,e⟩=>hno (xL e)) (fun hg=>wE hnone hg.1)
  have hw1 : cx.w0.heap.size ≤ w1.heap.size:=Nat.le_trans hs.keep.size hsz;have hkey : ∀ i b,i < nz → blk ((bagCx cx ρ ob w (rowsL ρ ob w ρ2 ob2 w1) ρ2 ob2 w1 nz a.defers).nm i) = some b → cx.w0.heap.size ≤ b:=fun i b hi e=>by
    have e : blk (if i = nz then some (.agg #[]) else xK ob2 ρ2 i) = some b:=e;rw [if_neg (by omega)] at e;obtain ⟨p,hp,e⟩:=xL e;rcases (hs2.low p hp b e).2 with h1|⟨j,_,h1⟩
    · exact Nat.le_trans hs.keep.size h1
    · exact hlo b (xL h1)
  have hk : BackQ 7 (okOf (bagCx cx ρ ob w (rowsL ρ ob w ρ2 ob2 w1) ρ2 ob2 w1 nz a.defers) ρ' ob') (okOf cx ρ' (gG ids ob')):=by
    rintro k b hk7 ⟨h1,h2⟩
    refine ⟨?_,fun p hp=>h2 p (kP hp).1⟩;rcases h1 with (⟨_,h1,_⟩|⟨h1,_⟩)|⟨h1,hfr⟩|⟨hfr,i,hi,h1⟩
    · exact h1.1
    · exact absurd h1 hk7
    · exact .inr (.inl ⟨Nat.le_trans hw1 h1,hfr⟩)
    · exact .inr (.inl ⟨hkey i b hi h1,hfr⟩)
  have hsame : ∀ b,b < cx.w0.heap.size → w'.heap[b]? = w.heap[b]?:=fun b g1=>by
    rw [h.keep.block b (Nat.lt_of_lt_of_le g1 hw1) (fun ⟨i,hi,e⟩=>?_) (fun hg=>?_)]
    · exact hblock b (Nat.lt_of_lt_of_le g1 hs.keep.size) fun hO=>by have:=hlo b hO;omega
    · have:=hkey i b hi e;omega
    · rcases hg.2 with ⟨h1,_⟩|⟨_,h1,_⟩
      · exact h1 rfl
      · have h3:=hs.keep.size;rcases h1 with h1|h1
        · omega
        · have:=hlo b h1;omega
  refine ⟨h.size,⟨⟨fun e=>?_,h.defers.1.2⟩,fun q hq=>h.defers.2 q (List.mem_append_left _ hq)⟩,fun i=>?_,fun p hp=>Ob.backq (by decide) hk (noqOb_mem h7o hp) (h.obs p (kP hp).1),keepO_nd hnd,fun p hp=>h.fresh p (kP hp).1,h.names,by rw [hn0];exact Nat.zero_le _,
    fun p hp q hq=>h.sep p (kP hp).1 q (kP hq).1,fun p hp b e=>⟨(h.low p (kP hp).1 b e).1,.inl ?_⟩,⟨h.keep.os.trans (hs2.keep.os.trans hs.keep.os),h.keep.tape.trans (hs2.keep.tape.trans hs.keep.tape),h.keep.output.trans (hs2.keep.output.trans hs.keep.output),Nat.le_trans hw1 h.keep.size,fun b g1 g2 g3=>(hsame b g1).trans (hs.keep.block b g1 g2 g3),fun b hbg=>(hs.keep.shape b hbg).trans (.rfl' (hsame b (hs.bags b hbg).1))⟩,hs.disj,fun i hi p e=>?_,hs.glob,hs.bags⟩
  · refine (h.defers.1.1 e).imp fun b h1 _ _=>?_
    rcases h1 with h1|h1
    · exact .inl (Nat.le_trans hw1 h1)
    · rcases List.mem_append.1 h1 with h1|h1
      · exact .inr h1
      · exact (fZ (hs.defers.1.1 e) h1).2.1
  · rcases keepT_any (rs:=rs) (tm:=tm') i with e|e
    · rw [e];trivial
    · have:=noqTm_get i h7;rw [e] at this ⊢;exact A.backq (by decide) hk this (h.tms i)
  · rcases (h.low p (kP hp).1 b e).2 with h1|⟨i,hi,h1⟩
    · exact Nat.le_trans hw1 h1
    · exact hkey i b hi h1
  · rw [hn0] at hi;exact absurd hi (Nat.not_lt_zero _)
theorem rek_bagL (hs : StOk cx tm ob nx ρ a w) {tm2 : Tm} {ob2 : Obs} {nx2 nz : Nat} {ρ2 : Nat → Option Value} {w1 : World} (hs2 : StOk (wG cx ρ ob w nx a.defers) tm2 ob2 nx2 ρ2 a w1) :
    Rek to07 is93 (okOf (wG cx ρ ob w nx a.defers) ρ2 ob2) (okOf (bagCx cx ρ ob w (rowsL ρ ob w ρ2 ob2 w1) ρ2 ob2 w1 nz a.defers) ρ2 (rkOb to07 is93 ob2)) w1:=by
  intro k hk b hb hlt;have hno : ∀ p ∈ rkOb to07 is93 ob2,blk (ρ2 p.1) ≠ some b:=fun p hp e=>by
    obtain ⟨q,hq,rfl⟩:=jC hp;exact hb.1.2 q hq e
  unfold is93 at hk;rcases Bool.or_eq_true_iff.1 hk with hk|hk
  · obtain rfl : k = 9:=Nat.eq_of_beq_eq_true hk;rcases hb.1.1 with (h1|h1)|h1|h1
    · exact ⟨⟨.inl (.inl ⟨by decide,h1.2.1,h1.2.2⟩),hno⟩,fun e=>by rcases e with e|e <;> cases e⟩
    · exact absurd h1.1 (by decide)
    · exact absurd rfl h1.2.2
    · exact absurd rfl h1.1.2
  · obtain rfl : k = 3:=Nat.eq_of_beq_eq_true hk;refine ⟨⟨.inl (.inr ⟨rfl,?_,hlt,fun q hq=>hb.1.2 q hq⟩),hno⟩,fun _=>hb.2 (.inl rfl)⟩;rcases hb.1.1 with (h1|h1)|h1|⟨_,i,_,h1⟩
    · exact absurd h1.1 (by decide)
    · exact absurd h1.1 (by decide)
    · exact .inl h1.1
    · exact .inr (xL h1)
theorem bagL_st (hs : StOk cx tm ob nx ρ a w) {tm2 : Tm} {ob2 : Obs} {nx2 nz : Nat} {ρ2 : Nat → Option Value} {w1 : World} (hs2 : StOk (wG cx ρ ob w nx a.defers) tm2 ob2 nx2 ρ2 a w1) (hk : kinOb is93 ob2 = true) (hz1 : nx2 ≤ nz) (hz2 : 1000000 ≤ nz) :
    (bagCx cx ρ ob w (rowsL ρ ob w ρ2 ob2 w1) ρ2 ob2 w1 nz a.defers).flag ∧ StOk (bagCx cx ρ ob w (rowsL ρ ob w ρ2 ob2 w1) ρ2 ob2 w1 nz a.defers) (rkTm to07 is93 tm2) (rkOb to07 is93 ob2) nz ρ2 a w1:=by
  have hnm : ∀ p ∈ ob2,(bagCx cx ρ ob w (rowsL ρ ob w ρ2 ob2 w1) ρ2 ob2 w1 nz a.defers).nm p.1 = ρ2 p.1:=fun p hp=>by
    show (if p.1 = nz then some (.agg #[]) else xK ob2 ρ2 p.1) = _;have:=hs2.fresh p hp;rw [if_neg (by omega),zJ hp]
  have hkeyb : ∀ i b,blk ((bagCx cx ρ ob w (rowsL ρ ob w ρ2 ob2 w1) ρ2 ob2 w1 nz a.defers).nm i) = some b → OwnB ob2 ρ2 b:=fun i b e=>by
    have e : blk (if i = nz then some (.agg #[]) else xK ob2 ρ2 i) = some b:=e
    by_cases hi : i = nz
    · rw [if_pos hi] at e;cases e
    · rw [if_neg hi] at e;exact xL e
  refine ⟨⟨hz2,if_pos rfl⟩,⟨hs2.size,⟨⟨fun e=>(hs2.defers.1.1 e).imp fun b _ _ hm=>.inr (List.mem_append_right _ (dG hm)),hs2.defers.1.2⟩,hs2.defers.2⟩,fun i=>by rw [get_rk];exact A.rk_rep (rek_bagL hs hs2) (hs2.tms i),fun p hp=>?_,by rw [fS];exact hs2.nd,fun p hp=>?_,fun i hi=>hs2.names i (Nat.le_trans hz1 hi),Nat.le_refl _,fun p hp q hq hne b e1 e2=>?_,fun p hp b e=>?_,
    ⟨rfl,rfl,rfl,Nat.le_refl _,fun _ _ _ _=>rfl,fun _ _=>.rfl' rfl⟩,fun i b hi e k hk=>?_,fun i hi p e=>?_,⟨fun g hg=>.inl ⟨by decide,hs.globAt.1 g hg,Nat.lt_of_lt_of_le hg hs.globAt.2.1⟩,hs2.globAt.2⟩,fun b hb=>?_⟩⟩
  · obtain ⟨q,hq,rfl⟩:=jC hp;exact Ob.rk_is (rek_bagL hs hs2) (hH hk hq) (hs2.obs q hq)
  · obtain ⟨q,hq,rfl⟩:=jC hp;exact Nat.lt_of_lt_of_le (hs2.fresh q hq) hz1
  · obtain ⟨p',hp',rfl⟩:=jC hp;obtain ⟨q',hq',rfl⟩:=jC hq;exact hs2.sep p' hp' q' hq' hne b e1 e2
  · obtain ⟨q,hq,rfl⟩:=jC hp;exact ⟨(hs2.low q hq b e).1,.inr ⟨q.1,Nat.lt_of_lt_of_le (hs2.fresh q hq) hz1,by rw [hnm q hq];exact e⟩⟩
  · obtain ⟨q,hq,e2⟩:=hkeyb i b e;rcases hk with ⟨_,h1,h2⟩|⟨_,_,_,h3⟩
    · rcases (hs2.low q hq b e2).2 with h4|⟨j,_,h4⟩
      · exact absurd h4 (Nat.not_le_of_lt h2)
      · obtain ⟨p,hp,h5⟩:=xL (show blk (xK ob ρ j) = some b from h4);exact h1.2 p hp h5
    · exact h3 q hq e2
  · have e0 : (if i = nz then some (.agg #[]) else xK ob2 ρ2 i) = some (.pointer p):=e;show ρ2 i = (if i = nz then some (.agg #[]) else xK ob2 ρ2 i);have hne : i ≠ nz:=fun h=>by rw [if_pos h] at e0;cases e0
    rw [if_neg hne] at e0 ⊢;rw [e0];exact (uV e0).1
  · rcases hb.2 with ⟨h1,_⟩|⟨_,h1,h2,_⟩
    · exact absurd rfl h1
    · refine ⟨h2,fun k hk7 hk=>?_⟩;rcases hk with ⟨_,h3,h4⟩|⟨h3,_⟩
      · rcases h1 with h1|⟨p,hp,h5⟩
        · exact absurd h1 (Nat.not_le_of_lt h4)
        · exact h3.2 p hp h5
      · exact hk7 h3
end
def BackP (cx cx2 : Cx) : Prop:=∀ (rs ids : List Nat) (tm' : Tm) (ob' : Obs) (nx' : Nat) (ρ' : Nat → Option Value) (a' : Act) (w' : World),StOk cx2 tm' ob' nx' ρ' a' w' → noqTm 7 (wI rs tm') = true → noqOb 7 (gG ids ob') = true → ids.Nodup → StOk cx (wI rs tm') (gG ids ob') nx' ρ' a' w'
def BagOut (cx : Cx) (Qb : Nat → AQ) (e : Exit) (a' : Act) (w' : World) : Prop :=
  ∃ (nz : Nat) (cx2 : Cx) (tm' : Tm) (ob' : Obs) (nx' : Nat) (ρ' : Nat → Option Value),Qb nz e tm' ob' nx' ∧ cx2.N = cx.N ∧ cx2.nx0 = nz ∧ cx2.flag ∧ BackP cx cx2 ∧ StOk cx2 tm' ob' nx' ρ' a' w'
def jW (P : Program) (te : List (TypeId × TyI)) (N nx0 : Nat) (c : Code) (tm : Tm) (ob : Obs) (nx : Nat) (Qn : AQ) (Qb : Nat → AQ) : Prop :=
  TEok P te → ∀ (rd : Option Nat) (n : Nat) (cx : Cx),NoR rd cx c → cx.N = N → cx.nx0 = nx0 → ∀ ρ a w,StOk cx tm ob nx ρ a w → c.wpIn (FR rd) n P (fun e a' w'=>(∃ tm' ob' nx' ρ',Qn e tm' ob' nx' ∧ StOk cx tm' ob' nx' ρ' a' w') ∨ BagOut cx Qb e a' w') a w
section
variable {P : Program} {te : List (TypeId × TyI)} {N nx0 nx : Nat} {tm : Tm} {ob : Obs} {Q Qn : AQ} {Qb : Nat → AQ}
theorem xA {c : Code} (h : qZ P te N nx0 c tm ob nx Qn) : jW P te N nx0 c tm ob nx Qn Qb :=
  by
  unfold qZ at h;exact fun hte rd n cx hnr h1 h2 ρ a w hs=>wpIn_mono (h hte rd n cx hnr h1 h2 ρ a w hs) (fun _ _ _ h=>.inl h)
theorem yZ {x y : Code} (hr : rngs y = false) (h : jW P te N nx0 x tm ob nx (jX (fun tm ob nx=>jW P te N nx0 y tm ob nx Qn Qb) Qn) (fun nz=>jX (fun tm ob nx=>qZ P te N nz y tm ob nx (Qb nz)) (Qb nz))) : jW P te N nx0 (.seq x y) tm ob nx Qn Qb:=by
  intro hte rd n cx hnr h1 h2 ρ a w hs;refine wpIn_seq (Code.wpIn_mono ?_ (h hte rd n cx (hnr.mono fun e=>(Bool.or_eq_false_iff.1 e).1) h1 h2 ρ a w hs))
  rintro e a' w' (⟨tm',ob',nx',ρ',hq,hs'⟩|⟨nz,cx2,tm',ob',nx',ρ',hq,e1,e2,hf,hb,hs'⟩)
  · cases e <;> simp only [jX,Exit.then] at hq ⊢
    · exact hq hte rd n cx (hnr.mono fun e=>(Bool.or_eq_false_iff.1 e).2) h1 h2 ρ' a' w' hs'
    all_goals exact .inl ⟨tm',ob',nx',ρ',hq,hs'⟩
  · cases e <;> simp only [jX,Exit.then] at hq ⊢
    · unfold qZ at hq;refine Code.wpIn_mono ?_ (hq hte rd n cx2 ⟨fun _=>hf,.inr hr⟩ (e1.trans h1) e2 ρ' a' w' hs')
      rintro e a4 w4 ⟨tm4,ob4,nx4,ρ4,hq4,hs4⟩
      exact .inr ⟨nz,cx2,tm4,ob4,nx4,ρ4,hq4,e1,e2,hf,hb,hs4⟩
    all_goals exact .inr ⟨nz,cx2,tm',ob',nx',ρ',hq,e1,e2,hf,hb,hs'⟩
theorem aX {id : Nat} {c : Code} (h : jW P te N nx0 c tm ob nx (blockQ id Qn) (fun nz=>blockQ id (Qb nz))) : jW P te N nx0 (.block id c) tm ob nx Qn Qb:=by
  intro hte rd n cx hnr h1 h2 ρ a w hs;refine wpIn_block (Code.wpIn_mono ?_ (h hte rd n cx hnr h1 h2 ρ a w hs))
  rintro e a' w' (⟨tm',ob',nx',ρ',hq,hs'⟩|⟨nz,cx2,tm',ob',nx',ρ',hq,e1,e2,hf,hb,hs'⟩)
  · cases e <;> simp only [blockQ,Exit.inBlock] at hq ⊢
    case exit i =>
      by_cases e : i = id
      · subst e;simp only [Nat.beq_refl] at hq;rw [if_pos rfl];exact .inl ⟨tm',ob',nx',ρ',hq,hs'⟩
      · rw [if_neg e];have : Nat.beq i id = false:=by
          cases hb9 : Nat.beq i id
          · rfl
          · exact absurd (Nat.eq_of_beq_eq_true hb9) e
        rw [this] at hq;exact .inl ⟨tm',ob',nx',ρ',hq,hs'⟩
    all_goals exact .inl ⟨tm',ob',nx',ρ',hq,hs'⟩
  · cases e <;> simp only [blockQ,Exit.inBlock] at hq ⊢
    case exit i =>
      by_cases e : i = id
      · subst e;simp only [Nat.beq_refl] at hq;rw [if_pos rfl];exact .inr ⟨nz,cx2,tm',ob',nx',ρ',hq,e1,e2,hf,hb,hs'⟩
      · rw [if_neg e];have : Nat.beq i id = false:=by
          cases hb9 : Nat.beq i id
          · rfl
          · exact absurd (Nat.eq_of_beq_eq_true hb9) e
        rw [this] at hq;exact .inr ⟨nz,cx2,tm',ob',nx',ρ',hq,e1,e2,hf,hb,hs'⟩
    all_goals exact .inr ⟨nz,cx2,tm',ob',nx',ρ',hq,e1,e2,hf,hb,hs'⟩
theorem xW {c : Operand} {x y : Code} {b : Bool} (hc : look tm c = ib b) (h1 : b = true → jW P te N nx0 x tm ob nx Qn Qb) (h2 : b = false → jW P te N nx0 y tm ob nx Qn Qb) : jW P te N nx0 (.cond c x y) tm ob nx Qn Qb:=by
  intro hte rd n cx hnr e1 e2 ρ a w hs;have hr:=hs.look c;rw [hc] at hr;exact wpIn_cond_split (t:=b) hr (fun e=>h1 e hte rd n cx (hnr.mono fun e=>(Bool.or_eq_false_iff.1 e).1) e1 e2 ρ a w hs) (fun e=>h2 e hte rd n cx (hnr.mono fun e=>(Bool.or_eq_false_iff.1 e).2) e1 e2 ρ a w hs)
theorem aT {x y : Code} (rs ids : List Nat) (hnd : ndN ids = true) (hry : rngs y = false) (h : jW P te N nx0 x tm ob nx (jX (fun tm ob nx=>qZ P te N nx0 y tm ob nx Q) Q) (fun nz=>jX (fun tm ob nx=>qZ P te N nz y tm ob nx (bagQ rs ids Q)) (bagQ rs ids Q))) :
    qZ P te N nx0 (.seq x y) tm ob nx Q:=by
  unfold qZ;intro hte rd n cx hnr h1 h2 ρ a w hs;refine wpIn_seq (Code.wpIn_mono ?_ (h hte rd n cx (hnr.mono fun e=>(Bool.or_eq_false_iff.1 e).1) h1 h2 ρ a w hs));have key : ∀ {cx2 : Cx} {e : Exit} {tm' : Tm} {ob' : Obs} {nx' : Nat} {ρ' : Nat → Option Value} {a' : Act} {w' : World},BackP cx cx2 → bagQ rs ids Q e tm' ob' nx' → StOk cx2 tm' ob' nx' ρ' a' w' → ∃ tm' ob' nx' ρ',Q e tm' ob' nx' ∧ StOk cx tm' ob' nx' ρ' a' w':=by
    intro cx2 e tm' ob' nx' ρ' a' w' hb hq hs';unfold bagQ at hq;split at hq
    · rename_i d1 d2;exact ⟨_,_,_,ρ',hq,hb rs ids tm' ob' nx' ρ' a' w' hs' d1 d2 (ndN_nd hnd)⟩
    · exact hq.elim
  rintro e a' w' (⟨tm',ob',nx',ρ',hq,hs'⟩|⟨nz,cx2,tm',ob',nx',ρ',hq,e1,e2,hf,hb,hs'⟩)
  · cases e <;> simp only [jX,Exit.then] at hq ⊢
    · unfold qZ at hq;exact hq hte rd n cx (hnr.mono fun e=>(Bool.or_eq_false_iff.1 e).2) h1 h2 ρ' a' w' hs'
    all_goals exact ⟨tm',ob',nx',ρ',hq,hs'⟩
  · cases e <;> simp only [jX,Exit.then] at hq ⊢
    · unfold qZ at hq;refine Code.wpIn_mono ?_ (hq hte rd n cx2 ⟨fun _=>hf,.inr hry⟩ (e1.trans h1) e2 ρ' a' w' hs')
      rintro e a4 w4 ⟨tm4,ob4,nx4,ρ4,hq4,hs4⟩
      exact key hb hq4 hs4
    all_goals exact key hb hq hs'
theorem bagL_all {cx : Cx} {ρ : Nat → Option Value} {a : Act} {w : World} (hs : StOk cx tm ob nx ρ a w) (hn0 : cx.nx0 = 0) {tm2 : Tm} {ob2 : Obs} {nx2 nz : Nat} {ρ2 : Nat → Option Value} {w1 : World} (hs2 : StOk (wG cx ρ ob w nx a.defers) tm2 ob2 nx2 ρ2 a w1) (hk : kinOb is93 ob2 = true) (hz1 : nx2 ≤ nz) (hz2 : 1000000 ≤ nz) :
    ∃ cx2 : Cx,cx2.N = cx.N ∧ cx2.nx0 = nz ∧ cx2.flag ∧ BackP cx cx2 ∧ StOk cx2 (rkTm to07 is93 tm2) (rkOb to07 is93 ob2) nz ρ2 a w1 ∧ Rek to07 is93 (okOf (wG cx ρ ob w nx a.defers) ρ2 ob2) (okOf cx2 ρ2 (rkOb to07 is93 ob2)) w1:=by
  obtain ⟨h1,h2⟩:=bagL_st (nz:=nz) hs hs2 hk hz1 hz2;exact ⟨bagCx cx ρ ob w (rowsL ρ ob w ρ2 ob2 w1) ρ2 ob2 w1 nz a.defers,rfl,rfl,h1,fun rs ids tm' ob' nx' ρ' a' w' h g7 g7o hnd=>bagL_back hs hn0 hs2 h g7 g7o hnd,h2,rek_bagL hs hs2⟩
def bagLK (P : Program) (te : List (TypeId × TyI)) (N nx0 : Nat) (f : Operand) (args : List Operand) (dst : Option Nat) (tm : Tm) (ob : Obs) (nx : Nat) (K : Tm → Obs → Nat → Prop) : Prop :=
  match tgt (look (rkTm to9 is0 tm) f) with
  | some (g,caps)=>∃ (L : List Nat) (as : List A) (r : A) (obc obc' : Obs) (m' : Nat),yB P g as obc (lenN L) r obc' m' ∧ renAs (sigO nx L) as = appA (mapL (look (rkTm to9 is0 tm)) args) caps ∧ gT (rkOb to9 is0 ob) (sigO nx L) 0 L obc ∧
      (match ndN L,kinOb is0 ob,kinOb is93 (appO (jA (sigO nx L) obc') (vD L (uK L obc) (rkOb to9 is0 ob))) with|true,true,true=>true|_,_,_=>false) = true ∧
      put N dst ((r.ren (sigO nx L)).rk to07 is93) (rkTm to07 is93 (gW (uK L obc) (rkTm to9 is0 tm))) fun tm=>K tm (rkOb to07 is93 (appO (jA (sigO nx L) obc') (vD L (uK L obc) (rkOb to9 is0 ob)))) (nx + (m' - lenN L) + 1000000)
  | none=>False
theorem wD {id : Nat} {ops : Array Oper} (k : Nat) {post : List Oper} {o : Oper} {f : Operand} {args : Array Operand} {ts : Array TypeId} (hn0 : nx0 = 0) (hk : ops.toList.drop k = o :: post) (hop : o.op = .call { callee:=.value f,args:=args,argTypes:=ts }) (hg : o.guard = none)
    (h : awp P te N nx0 ops.toList (ops.toList.take k) tm ob nx (fun tm1 ob1 nx1=>bagLK P te N nx0 f args.toList o.dst tm1 ob1 nx1 fun tm2 ob2 nx2=>awp P te N nx2 ops.toList post tm2 ob2 nx2 fun tm ob nx=>Qb nx2 .normal tm ob nx)) :
    jW P te N nx0 (.region id ops false) tm ob nx Qn Qb:=by
  unfold jW;intro hte rd n cx hnr e1 e2 ρ a w hs;subst e1 e2;refine wpIn_region_list ?_;have hops : ops.toList = ops.toList.take k ++ o :: post:=by rw [← hk,List.take_append_drop]
  rw [hops];refine jI hte ops (o :: post) (ops.toList.take k) h hs ?_
  rintro tm1 ob1 nx1 ρ1 a1 w1 hb hs1
  unfold bagLK at hb;split at hb
  · rename_i g caps ht;obtain ⟨L,as,r,obc,obc',m',hc,hea,hl,hall,hput⟩:=hb;split at hall
    · rename_i c1 c2 c3;have hsH:=hold_st hs1 c2;obtain ⟨cs,hfv,hcs⟩:=wL ht (hsH.look f);have hargs:=zX (uN (w:=w1) (lk:=look (rkTm to9 is0 tm1)) (xs:=args.toList) (fun x _=>hsH.look x)) hcs;refine kQ hg (fun c e=>by rw [hop] at e;cases e) ?_;unfold Oper.wp;rw [uS hop hfv hc.1];refine (dI hsH hc (by rw [hea];exact hargs) hl c1).mono ?_
      rintro e w2 ⟨u,ρ2,rfl,hs2,hr⟩
      obtain ⟨cx2,hN,hnx,hfl,hback,hs3,hrek⟩:=bagL_all (nz:=nx1 + (m' - lenN L) + 1000000) hs1 hn0 hs2 c3 (by omega) (by omega);rw [← hN] at hput;obtain ⟨tm2,hk2,hs4⟩:=hs3.put hput (A.rk_rep hrek hr);have hk3 : awp P te cx2.N cx2.nx0 ops.toList post tm2 (rkOb to07 is93 (appO (jA (sigO nx1 L) obc') (vD L (uK L obc) (rkOb to9 is0 ob1)))) (nx1 + (m' - lenN L) + 1000000) (fun tm ob nx=>Qb (nx1 + (m' - lenN L) + 1000000) .normal tm ob nx):=by rw [hnx];exact hk2
      refine jV hte ops post hk3 hs4 fun tm3 ob3 nx3 ρ3 a3 w3 hq hs5=>?_
      exact .inr ⟨_,cx2,tm3,ob3,nx3,ρ3,hq,hN,hnx,hfl,hback,hs5⟩
    · cases hall
  · exact hb.elim
def cB (P : Program) (te : List (TypeId × TyI)) (N nx0 nz : Nat) (c : Code) (tm : Tm) (ob : Obs) (nx : Nat) (Qn : AQ) (Qb : Nat → AQ) : Prop :=
  TEok P te → rngs c = false → ∀ (rd : Option Nat) (n : Nat) (cx cx2 : Cx),NoR rd cx c → cx.N = N → cx.nx0 = nx0 → cx2.N = cx.N → cx2.nx0 = nz → cx2.flag → BackP cx cx2 → ∀ ρ a w,StOk cx2 tm ob nx ρ a w → c.wpIn (FR rd) n P (fun e a' w'=>(∃ tm' ob' nx' ρ',Qn e tm' ob' nx' ∧ StOk cx tm' ob' nx' ρ' a' w') ∨ BagOut cx Qb e a' w') a w
theorem acodeB_of {c : Code} {nz : Nat} (h : qZ P te N nz c tm ob nx (Qb nz)) : cB P te N nx0 nz c tm ob nx Qn Qb:=by
  unfold qZ at h;intro hte hr rd n cx cx2 hnr h1 h2 e1 e2 hf hb ρ a w hs;refine wpIn_mono (h hte rd n cx2 ⟨fun _=>hf,.inr hr⟩ (e1.trans h1) e2 ρ a w hs) ?_
  rintro e a' w' ⟨tm',ob',nx',ρ',hq,hs'⟩
  exact .inr ⟨nz,cx2,tm',ob',nx',ρ',hq,e1,e2,hf,hb,hs'⟩
theorem acodeB_back {c : Code} {nz : Nat} (rs ids : List Nat) (h7 : noqTm 7 (wI rs tm) = true) (h7o : noqOb 7 (gG ids ob) = true) (hnd : ndN ids = true) (h : jW P te N nx0 c (wI rs tm) (gG ids ob) nx Qn Qb) : cB P te N nx0 nz c tm ob nx Qn Qb:=by
  intro hte hr rd n cx cx2 hnr h1 h2 e1 e2 hf hb ρ a w hs;exact h hte rd n cx hnr h1 h2 ρ a w (hb rs ids tm ob nx ρ a w hs h7 h7o (ndN_nd hnd))
theorem acodeX_seqB {x y : Code} (hr : rngs y = false) (h : jW P te N nx0 x tm ob nx (jX (fun tm ob nx=>jW P te N nx0 y tm ob nx Qn Qb) Qn) (fun nz=>jX (fun tm ob nx=>cB P te N nx0 nz y tm ob nx Qn Qb) (Qb nz))) : jW P te N nx0 (.seq x y) tm ob nx Qn Qb:=by
  intro hte rd n cx hnr h1 h2 ρ a w hs;refine wpIn_seq (Code.wpIn_mono ?_ (h hte rd n cx (hnr.mono fun e=>(Bool.or_eq_false_iff.1 e).1) h1 h2 ρ a w hs))
  rintro e a' w' (⟨tm',ob',nx',ρ',hq,hs'⟩|⟨nz,cx2,tm',ob',nx',ρ',hq,e1,e2,hf,hb,hs'⟩)
  · cases e <;> simp only [jX,Exit.then] at hq ⊢
    · exact hq hte rd n cx (hnr.mono fun e=>(Bool.or_eq_false_iff.1 e).2) h1 h2 ρ' a' w' hs'
    all_goals exact .inl ⟨tm',ob',nx',ρ',hq,hs'⟩
  · cases e <;> simp only [jX,Exit.then] at hq ⊢
    · exact hq hte hr rd n cx cx2 (hnr.mono fun e=>(Bool.or_eq_false_iff.1 e).2) h1 h2 e1 e2 hf hb ρ' a' w' hs'
    all_goals exact .inr ⟨nz,cx2,tm',ob',nx',ρ',hq,e1,e2,hf,hb,hs'⟩
theorem acodeB_seq {x y : Code} {nz : Nat} (h : cB P te N nx0 nz x tm ob nx (jX (fun tm ob nx=>jW P te N nx0 y tm ob nx Qn Qb) Qn) (fun nz=>jX (fun tm ob nx=>cB P te N nx0 nz y tm ob nx Qn Qb) (Qb nz))) : cB P te N nx0 nz (.seq x y) tm ob nx Qn Qb:=by
  intro hte hr rd n cx cx2 hnr h1 h2 e1 e2 hf hb ρ a w hs;have hr1 : rngs x = false:=(Bool.or_eq_false_iff.1 hr).1;have hr2 : rngs y = false:=(Bool.or_eq_false_iff.1 hr).2;refine wpIn_seq (Code.wpIn_mono ?_ (h hte hr1 rd n cx cx2 (hnr.mono fun e=>(Bool.or_eq_false_iff.1 e).1) h1 h2 e1 e2 hf hb ρ a w hs))
  rintro e a' w' (⟨tm',ob',nx',ρ',hq,hs'⟩|⟨nz,cx2,tm',ob',nx',ρ',hq,e1,e2,hf,hb,hs'⟩)
  · cases e <;> simp only [jX,Exit.then] at hq ⊢
    · exact hq hte rd n cx (hnr.mono fun e=>(Bool.or_eq_false_iff.1 e).2) h1 h2 ρ' a' w' hs'
    all_goals exact .inl ⟨tm',ob',nx',ρ',hq,hs'⟩
  · cases e <;> simp only [jX,Exit.then] at hq ⊢
    · exact hq hte hr2 rd n cx cx2 (hnr.mono fun e=>(Bool.or_eq_false_iff.1 e).2) h1 h2 e1 e2 hf hb ρ' a' w' hs'
    all_goals exact .inr ⟨nz,cx2,tm',ob',nx',ρ',hq,e1,e2,hf,hb,hs'⟩
theorem acode_x {c : Code} (rs ids : List Nat) (hnd : ndN ids = true) (h : jW P te N nx0 c tm ob nx Q (fun _=>bagQ rs ids Q)) : qZ P te N nx0 c tm ob nx Q:=by
  unfold qZ;intro hte rd n cx hnr h1 h2 ρ a w hs;refine wpIn_mono (h hte rd n cx hnr h1 h2 ρ a w hs) ?_
  rintro e a' w' (h|⟨nz,cx2,tm',ob',nx',ρ',hq,e1,e2,hf,hb,hs'⟩)
  · exact h
  · unfold bagQ at hq;split at hq
    · rename_i d1 d2;exact ⟨_,_,_,ρ',hq,hb rs ids tm' ob' nx' ρ' a' w' hs' d1 d2 (ndN_nd hnd)⟩
    · exact hq.elim
end
def seqAt : List Bool → Code → Code
  | []=>fun c=>c
  | b :: r=>fun c=>match c with
    | .seq x y=>seqAt r (match b with|true=>x|false=>y)
    | c=>c
def loopOf (c : Code) : Code:=match c with
  | .block _ d=>match d with
    | .loop e=>e
    | e=>e
  | e=>e
def roundOf (f : Func) (p : List Bool) : Code:=match f.body with
  | some c=>loopOf (seqAt p c)
  | none=>.skip
def blkOf (c : Code) : Code:=match c with
  | .block _ d=>d
  | e=>e
section
variable {P : Program} {te : List (TypeId × TyI)} {N nx0 nz nx : Nat} {tm : Tm} {ob : Obs} {Q Qn : AQ} {Qb : Nat → AQ}
def endQ (nz : Nat) {ι : Type} (Pr : ι → Prop) (I : ι → Tm) (O : ι → Obs) (nx' : Nat) : AQ:=fun e tm ob nx=>match e with
  | .normal=>∃ j,Pr j ∧ Le nz tm ob nx (I j) (O j) nx'
  | _=>False
theorem acodeB_seqC {x y : Code} {ι : Type} (Pr : ι → Prop) (I : ι → Tm) (O : ι → Obs) (nx' : Nat) (h1 : qZ P te N nz x tm ob nx (endQ nz Pr I O nx')) (h2 : ∀ i,Pr i → cB P te N nx0 nz y (I i) (O i) nx' Qn Qb) : cB P te N nx0 nz (.seq x y) tm ob nx Qn Qb:=by
  refine acodeB_seq (acodeB_of (dW ?_ h1));intro e tm ob nx h;cases e
  · obtain ⟨j,hj,hle⟩:=h;intro hte hr rd n cx cx2 hnr e1 e2 e3 e4 hf hb ρ a w hs;obtain ⟨ρ',hs'⟩:=hle.st cx2 e4 ρ a w hs;exact h2 j hj hte hr rd n cx cx2 hnr e1 e2 e3 e4 hf hb ρ' a w hs'
  all_goals exact h.elim
end
structure Det (P : Program) {α : Type} (s : Sem α) : Prop where
  h : ∀ a w w',s.run P w = .ok a w' → ∀ w2,s.run P w2 = .ok a w2
structure Nev (P : Program) {α : Type} (s : Sem α) : Prop where
  h : ∀ a w w',s.run P w ≠ .ok a w'
section
variable {P : Program} {α β : Type}
theorem Nev.det {s : Sem α} (h : Nev P s) : Det P s:=⟨fun a w w' e=>absurd e (h.h a w w')⟩
theorem nev_bind {s : Sem α} {f : α → Sem β} (h : ∀ a,Nev P (f a)) : Nev P (s >>= f):=by
  refine ⟨fun b w w' e=>?_⟩;rw [Sem.run_bind] at e;cases hs : s.run P w with
  | ok a w1=>rw [hs] at e;exact (h a).h b w1 w' e
  | halt x w1=>rw [hs] at e;cases e
theorem yV {s : Sem α} {f : α → Sem β} (h : Det P s) (h2 : ∀ a,Det P (f a)) : Det P (s >>= f):=by
  refine ⟨fun b w w' e w2=>?_⟩;rw [Sem.run_bind] at e ⊢;cases hs : s.run P w with
  | ok a w1=>rw [hs] at e;rw [h.h a w w1 hs w2];exact (h2 a).h b w1 w' e w2
  | halt x w1=>rw [hs] at e;cases e
theorem yG (a : α) : Det P (pure a : Sem α):=⟨by intro b w w' e w2;cases e;rfl⟩
theorem gX : Det P program:=⟨by intro b w w' e w2;cases e;rfl⟩
theorem xG (h : Halt) : Nev P (Sem.halt h : Sem α):=⟨fun a w w' e=>by cases e⟩
theorem fX (e : RuntimeError) : Nev P (runtimePanic e : Sem α):=by
  unfold runtimePanic;refine nev_bind fun p=>?_
  cases e <;> first|exact xG _|(repeat' (first|exact xG _|(refine nev_bind fun _=>?_)))
theorem dF (k : IntKind) (x y : Int) (c : BoundsCode) : Nev P (boundsPanic k x y c : Sem α):=by
  unfold boundsPanic
  dsimp only
  split <;> exact nev_bind fun _=>fX _
theorem xZ (t : TypeId) : Det P (underlying t):=by
  unfold underlying
  repeat' (first|exact yG _|exact gX|exact (xG _).det|apply yV|intro _|split)
theorem bS (v : Value) : Det P (asIntOf v):=by
  unfold asIntOf
  repeat' (first|exact yG _|exact (xG _).det|split)
theorem det_asBool (v : Value) : Det P (asBool v):=by
  unfold asBool
  repeat' (first|exact yG _|exact (xG _).det|split)
theorem vP (t : TypeId) : Det P (sizeOf t):=by
  unfold sizeOf typeInfo
  repeat' (first|exact yG _|exact gX|exact (xG _).det|apply yV|intro _|split)
theorem eY (v : Value) : Det P (Instr.sureAddr v):=by
  unfold Instr.sureAddr
  repeat' (first|exact yG _|exact (xG _).det|split)
theorem det_indexAt (t : TypeId) (x i : Value) : Det P (Instr.indexAt t x i):=by
  unfold Instr.indexAt
  dsimp only
  repeat' (first|exact yG _|exact (dF _ _ _ _).det|exact (xG _).det|exact xZ _|exact bS _|exact vP _|exact eY _|apply yV|intro _|split)
theorem det_index (t : TypeId) (x : ByteArray) (i : Value) : Det P (Instr.index t (.string x) i):=by
  unfold Instr.index
  repeat' (first|exact yG _|exact (dF _ _ _ _).det|exact (xG _).det|exact xZ _|exact bS _|apply yV|intro _|(rename_i h;cases h;done)|split)
theorem det_bound (x : Value) (y : Nat) (c : BoundsCode) : Det P (Instr.sliceBound x y c):=by
  unfold Instr.sliceBound
  repeat' (first|exact yG _|exact (dF _ _ _ _).det|exact bS _|apply yV|intro _|split)
theorem det_bounds (b : Bool) (l c : Nat) (x y z : Option Value) : Det P (Instr.sliceBounds b l c x y z):=by
  unfold Instr.sliceBounds
  dsimp only
  repeat' (first|exact yG _|exact det_bound _ _ _|exact (xG _).det|apply yV|intro _|split)
theorem det_asAddr (v : Value) : Det P (asAddr v):=by
  unfold asAddr
  repeat' (first|exact yG _|exact (fX _).det|exact (xG _).det|split)
theorem det_slice (t : TypeId) (x : Value) (a b c : Option Value) : Det P (Instr.slice t x a b c):=by
  unfold Instr.slice
  dsimp only
  repeat' (first|exact yG _|exact det_bounds _ _ _ _ _ _|exact (xG _).det|exact xZ _|exact det_asAddr _|exact vP _|apply yV|intro _|split)
theorem det_sliceAt (t : TypeId) (x : Value) (a b c : Option Value) : Det P (Instr.sliceAt t x a b c):=by
  unfold Instr.sliceAt
  repeat' (first|exact yG _|exact det_slice _ _ _ _ _|exact det_bounds _ _ _ _ _ _|exact (xG _).det|exact xZ _|exact eY _|exact vP _|apply yV|intro _|split)
theorem det_field (t : TypeId) (x : Value) (f : Nat) : Det P (Instr.field t x f):=by
  unfold Instr.field asAgg part isAgg
  repeat' (first|exact yG _|exact (xG _).det|exact xZ _|exact vP _|exact gX|apply yV|intro _|split)
theorem det_extract (v : Value) (i : Nat) : Det P (Instr.extract v i):=by
  unfold Instr.extract
  repeat' (first|exact yG _|exact (xG _).det|split)
theorem det_ints (o : BinOp) (t : TypeId) (k k' : IntKind) (a b : Int) (h : (match o with|.shl|.shr=>false|_=>true) = true) : Det P (binOp o t (.int k a) (.int k' b)):=by
  cases o <;> first
    | exact absurd h (by decide)
    | (change Det P (ite (k ≠ k') _ _)
       split
       · exact (xG _).det
       · first
         | exact yG _
         | (change Det P (ite (b = 0) _ _)
            split
            · exact (fX _).det
            · exact yG _)
         | exact (xG _).det)
theorem det_strs (o : BinOp) (t : TypeId) (a b : ByteArray) : Det P (binOp o t (.string a) (.string b)):=by
  cases o <;> first
    | exact yG _
    | (change Det P (ite _ _ _)
       split
       · exact (xG _).det
       · exact yG _)
    | exact (xG _).det
theorem guard_ints (o : BinOp) (t : TypeId) (x y : Operand) (k k' : IntKind) (a b : Int) : Det P (eqGuard o t x y (.int k a) (.int k' b)):=by
  unfold eqGuard
  repeat' (first|exact yG _|apply yV|intro _|split)
theorem guard_strs (o : BinOp) (t : TypeId) (x y : Operand) (a b : ByteArray) : Det P (eqGuard o t x y (.string a) (.string b)):=by
  unfold eqGuard
  repeat' (first|exact yG _|apply yV|intro _|split)
end
end Ab
end Go.Proofs.YtmaekcmknibmeaaGreatDoor
