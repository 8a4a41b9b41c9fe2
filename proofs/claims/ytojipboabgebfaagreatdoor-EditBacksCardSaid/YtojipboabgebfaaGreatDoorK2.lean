/-
  The texts of this proof, joined: abstract values, the library, the functions of the program and what they compute (part 2). No condition.
-/
import Derived.Lib.AppendStr
import Derived.Laws.OwnMore
import Derived.Still
import Derived.OwnWalk
import Derived.Laws.ResultCell
import Derived.Lib.LazyBuf
import Derived.Test.YtojipboabgebfaaGreatDoorK1
namespace Go.Proofs.YtojipboabgebfaaGreatDoor
open Go.RowKit
namespace Ab
section
variable {P : Program} {te : List (TypeId × TyI)} {cx : Cx} {tm : Tm} {ob : Obs} {nx : Nat} {ρ : Nat → Option Value} {a : Act} {w : World} {ops : Array Oper} {rest : List Oper} {o : Oper} {Q : Exit → Act → World → Prop}
theorem wp_yld {v : A} {next : Act → World → Prop} (hs : StOk cx tm ob nx ρ a w) (hy : Yld P o a.eval (okOf cx ρ ob) ρ w v) {K : Tm → Prop} (hp : put cx.N o.dst v tm K)
    (hn : ∀ tm' a' w',K tm' → StOk cx tm' ob nx ρ a' w' → next a' w') : o.wp P a w next Q:=by
  obtain ⟨u,w',h1,h2,h3⟩:=hy;unfold Oper.wp;rw [h1];have hs':=hs.below h2;obtain ⟨tm',h4,h5⟩:=hs'.put hp (rep_grow hs h2 h3);exact hn tm' _ _ h4 h5
theorem mapL_rep {lk : Operand → A} {ok : Oks} : ∀ {xs : List Operand},(∀ x ∈ xs,(lk x).rep ok ρ w (a.eval x)) → xU ok ρ w (mapL lk xs) (xs.map a.eval)
  | [],_=>rfl
  | x :: xs,h=>⟨a.eval x,_,rfl,h x (by simp),mapL_rep fun y hy=>h y (by simp [hy])⟩
theorem appA_rep {ok : Oks} : ∀ {xs ys : List A} {us vs : List Value},xU ok ρ w xs us → xU ok ρ w ys vs → xU ok ρ w (appA xs ys) (us ++ vs)
  | [],_,_,_,h,k=>by rw [show _ = _ from h];exact k
  | x :: xs,_,_,_,h,k=>by
    obtain ⟨v,r,e,h1,h2⟩:=h;exact ⟨v,r ++ _,by rw [e];rfl,h1,appA_rep h2 k⟩
theorem tgt_rep {ok : Oks} {x : A} {u : Value} {g : FuncId} {caps : List A} (ht : tgt x = some (g,caps)) (hx : x.rep ok ρ w u) : ∃ cs : List Value,u = .func (.func g) #[] cs.toArray ∧ xU ok ρ w caps cs:=by
  unfold tgt at ht;split at ht
  · cases ht;exact ⟨[],hx,rfl⟩
  · cases ht;obtain ⟨z,h1,h2⟩:=hx;exact ⟨[z],h1,z,[],rfl,h2,rfl⟩
  · cases ht;obtain ⟨z,y,h1,h2,h3⟩:=hx;exact ⟨[z,y],h1,z,[y],rfl,h2,y,[],rfl,h3,rfl⟩
  · cases ht;obtain ⟨z,y,q,h1,h2,h3,h4⟩:=hx;exact ⟨[z,y,q],h1,z,[y,q],rfl,h2,y,[q],rfl,h3,q,[],rfl,h4,rfl⟩
  · cases ht
theorem run_static {f : Operand} {args : Array Operand} {ts : Array TypeId} {g : FuncId} {cs : List Value} (hop : o.op = .call { callee:=.value f,args:=args,argTypes:=ts }) (hf : a.eval f = .func (.func g) #[] cs.toArray) (hfn : FnOk P g) :
    (execOp a.eval o).run P w = .ok (.enter g ((args.toList.map a.eval ++ cs).toArray)) w:=by
  obtain ⟨fn,hfn,hb,hn⟩:=hfn;have e1 : (args.map a.eval) = (args.toList.map a.eval).toArray:=by apply Array.toList_inj.1;simp
  have hb' : fn.body.isNone = false:=by cases h : fn.body <;> simp [h] at hb ⊢
  unfold execOp;simp only [hop,resolve,hf,Deferred.ofValue,Sem.run_bind,Sem.run_pure,Result.andThen_ok,invoke,callFunc,run_program,hfn,hn,hb',Bool.false_eq_true,if_false,e1]
  congr 2
  simp
theorem noNames_names : Names xB ρ:=fun _ _ h=>by cases h
theorem call_sound {f : Operand} {args : Array Operand} {ts : Array TypeId} {g : FuncId} {caps : List A} {r : A} {next : Act → World → Prop} {lk : Operand → A} (hs : StOk cx tm ob nx ρ a w) (hop : o.op = .call { callee:=.value f,args:=args,argTypes:=ts })
    (hlk : ∀ x ∈ f :: args.toList,(lk x).rep (okOf cx ρ ob) ρ w (a.eval x)) (ht : tgt (lk f) = some (g,caps)) (hcl : kB (borAs te ob [] (appA (mapL lk args.toList) caps)) = true) (hc : qX P g (borAs te ob [] (appA (mapL lk args.toList) caps)) r) (hno : kB (appA (mapL lk args.toList) caps) = true ∨ r.no1 = true)
    (hp : ∀ u w',StOk cx tm ob nx ρ a w' → r.rep (okOf cx ρ ob) ρ w' u → next (a.put o.dst u) w') : o.wp P a w next Q:=by
  obtain ⟨cs,hf,hcs⟩:=tgt_rep ht (hlk f (by simp));obtain ⟨hfn,hcall⟩:=hc;unfold Oper.wp;rw [run_static hop hf hfn];have hargs:=appA_rep (mapL_rep (w:=w) (lk:=lk) (xs:=args.toList) (fun x hx=>hlk x (by simp [hx]))) hcs;rcases hno with hno|hno
  · rw [borAs_closed hno] at hcall;refine (hcall (okOf cx ρ ob) w _ hs.globAt (closedAs_rep hno hargs)).mono ?_
    rintro e w' ⟨u,rfl,hb,hr⟩
    have hs':=hs.below hb;exact hp u w' hs' (rep_grow hs hb (A.names noNames_names hr))
  have hbk : Back (grow (borOk (okOf cx ρ ob) (Bor ob ρ [])) w) (grow (okOf cx ρ ob) w):=fun k b hk h=>h.imp (fun h=>h.elim id fun h=>absurd h.1 hk) id
  refine (hcall (borOk (okOf cx ρ ob) (Bor ob ρ [])) w _ ⟨fun g hg=>.inl (hs.globAt.1 g hg),hs.globAt.2⟩ (closedAs_rep hcl (borAs_rep hs.obs hargs))).mono ?_
  rintro e w' ⟨u,rfl,hb,hr⟩
  have hr:=A.back hbk hno hr;have hs':=hs.below hb;exact hp u w' hs' (rep_grow hs hb (A.names noNames_names hr))
theorem frz_sound : ∀ {ids : List Nat} {tm : Tm} {ob : Obs} {K : Tm → Obs → Prop},frz te cx.nx0 ids tm ob K → StOk cx tm ob nx ρ a w → ∃ tm' ob',K tm' ob' ∧ StOk cx tm' ob' nx ρ a w
  | [],tm,ob,K,h,hs=>⟨tm,ob,h,hs⟩
  | i :: r,tm,ob,K,h,hs=>by
    unfold frz at h;split at h
    · rename_i hg;exact frz_sound h (hs.freeze hg)
    · rename_i hg;split at h
      · rename_i d hd;exact frz_sound h (hs.freezeBox hg hd)
      · exact h.elim
    · exact h.elim
    · exact frz_sound h hs
theorem repL_new (hs : StOk cx tm ob nx ρ a w) {v : Value} {o : Ob} {w' : World} (hbw : Below w.heap.size w w') (hb : ∀ b,blk (some v) = some b → w.heap.size ≤ b) {cs : List C} {vs : List Value} (h : repL (okOf cx ρ ob) ρ w cs vs) :
    repL (okOf cx (upd ρ nx v) ((nx,o) :: ob)) (upd ρ nx v) w' cs vs:=(h.names (upd_names hs v)).kept (okOf_new hs hb hbw)
theorem box_sound {t : TypeId} {i : TyI} (_hi : TyOk P t i) {v : Value} {cs : List C} (hs : StOk cx tm ob nx ρ a w) (hv : repL (okOf cx ρ ob) ρ w cs v.cells.toList) :
    ∃ ρ' w',(do pure (.pointer (some (← newVar t v))) : Sem Value).run P w = .ok (.pointer (some ⟨w.heap.size,0,none⟩)) w' ∧ StOk cx tm ((nx,.box t cs) :: ob) (nx + 1) ρ' a w' ∧ (C.own nx 0).rep (okOf cx ρ' ((nx,.box t cs) :: ob)) ρ' w' (.pointer (some ⟨w.heap.size,0,none⟩)):=by
  refine ⟨upd ρ nx (.pointer (some ⟨w.heap.size,0,none⟩)),w.alloc (.cells v.cells t),rfl,hs.new (below_alloc w _) (fun b e=>by cases e;exact ⟨Nat.le_refl _,by simp⟩) ?_,w.heap.size,xJ,rfl⟩;refine ⟨w.heap.size,v.cells.toList,xJ,by rw [heap_new],repL_new hs (below_alloc w _) (fun b e=>by cases e;exact Nat.le_refl _) hv⟩
theorem litL_eq : ∀ vs : List Value,litL vs = vs.map C.lit
  | []=>rfl
  | _ :: r=>by rw [litL,litL_eq r];rfl
theorem setRow_grew {g : Nat} {cs : Array Value} : Grew w (w.setRow g cs) (some g) :=
  ⟨rfl,rfl,rfl,by simp,fun k _ hk=>setRow_other w g k _ (fun e=>hk (by rw [e]))⟩
theorem sureL_ones {ok : Oks} : ∀ {cs : List C} {vs : List Value},sureL cs = true → repL ok ρ w cs vs → ∀ v ∈ vs,v.oneCell' = true
  | [],_,_,h,v,hv=>by rw [show _ = _ from h] at hv;cases hv
  | c :: cs,_,hc,h,v,hv=>by
    unfold sureL at hc;split at hc
    · rename_i h1;obtain ⟨u,r,rfl,h2,h3⟩:=h;rcases List.mem_cons.1 hv with hv|hv
      · subst hv;exact C.sure_one h1 h2
      · exact sureL_ones hc h3 v hv
    · cases hc
theorem cells_of {x : Operand} {ns : List C} (hs : StOk cx tm ob nx ρ a w) (h : cellsA (look tm x) = some ns) (hsure : sureL ns = true) : repL (okOf cx ρ ob) ρ w ns (a.eval x).cells.toList:=by
  refine cellsA_rep h (hs.look x) fun c hc=>?_
  rw [hc] at h;cases h;have hr:=hs.look x;rw [hc] at hr;unfold sureL at hsure;split at hsure
  · rename_i h1;exact C.sure_one h1 hr
  · cases hsure
theorem store_own {t : TypeId} {i : TyI} (hi : TyOk P t i) {v : Value} {id off b : Nat} {T : TypeId} {cs ns : List C} (hs : StOk cx tm ob nx ρ a w) (hρ : ρ id = some (.pointer (some ⟨b,0,none⟩))) (hg : getO ob id = some (.box T cs))
    (hv : repL (okOf cx ρ ob) ρ w ns v.cells.toList) (hn : sureL ns = true) (hsz : ns.length = i.size) (hle : off + ns.length ≤ cs.length) :
    ∃ w',(Instr.storeAt t (.pointer (some ⟨b,off,none⟩)) v).run P w = .ok () w' ∧ StOk cx tm (setO id (.box T (setC off ns cs)) ob) nx ρ a w':=by
  obtain ⟨b',vs,h1,h2,h3⟩:=hs.obs _ (yM hg);rw [hρ] at h1;simp only [Option.some.injEq,Value.pointer.injEq,Addr.mk.injEq,and_true] at h1;subst h1;have hl:=repL.len hv;have hl3:=repL.len h3;have hst:=run_storeCells_at P b off T v.cells.toList 0 vs.toArray w h2 (by simp only [Nat.add_zero,List.size_toArray];omega) (sureL_ones hn hv);simp only [Nat.add_zero] at hst;refine ⟨w.setRow b (vs.take off ++ v.cells.toList ++ vs.drop (off + v.cells.toList.length)).toArray,?_,?_⟩
  · simp only [Instr.storeAt,storeVar,Instr.sureAddr,Sem.run_bind,Sem.run_pure,Result.andThen_ok,hi.sizeOf];rw [if_neg (by simp only [Array.length_toList] at hl;omega)];exact hst
  · refine hs.write hg (by rw [hρ];exact setRow_grew) (by simp [World.setRow]) ?_;refine ⟨b,vs.take off ++ v.cells.toList ++ vs.drop (off + v.cells.toList.length),hρ,?_,?_⟩
    · rw [setRow_heap w b _ _ T _ h2]
    · have hset:=repL_set off hv h3;rw [setV_at off _ _ (by omega)] at hset;have hk : xK (okOf cx ρ ob) (okOf cx ρ ob) w (w.setRow b (vs.take off ++ v.cells.toList ++ vs.drop (off + v.cells.toList.length)).toArray) :=
        fun _ k hk hlt=>⟨hk,setRow_grew.block k hlt (fun e=>hk.2 _ (yM hg) (by rw [hρ];exact e.symm))⟩
      exact hset.kept hk
theorem flatten_len {n : Nat} : ∀ (css : List (List Value)),(∀ c ∈ css,c.length = n) → css.flatten.length = css.length * n
  | [],_=>by simp
  | c :: r,h=>by
    rw [List.flatten_cons,List.length_append,h c (by simp),flatten_len r (fun c hc=>h c (by simp [hc])),List.length_cons,Nat.add_mul];omega
theorem flatten_set {n : Nat} (us : List Value) (hu : us.length = n) : ∀ (css : List (List Value)) (k : Nat),(∀ c ∈ css,c.length = n) → k < css.length → (css.set k us).flatten = css.flatten.take (k * n) ++ us ++ css.flatten.drop (k * n + n)
  | [],_,_,hk=>absurd hk (by simp)
  | c :: r,0,h,_=>by
    have hc : c.length = n:=h c (by simp);simp [← hc]
  | c :: r,k + 1,h,hk=>by
    have hc : c.length = n:=h c (by simp);have ih:=flatten_set us hu r k (fun c hc=>h c (by simp [hc])) (by simpa using hk);have e1 : (k + 1) * n = c.length + k * n:=by rw [Nat.add_mul,hc];omega
    rw [List.set_cons_succ,List.flatten_cons,List.flatten_cons,ih,e1,Nat.add_assoc,List.take_length_add_append,List.drop_length_add_append];simp
theorem take_mid {α : Type} (l us : List α) (a b n : Nat) (hu : us.length = b) (h : a + b ≤ n) (hn : n ≤ l.length) : (l.take a ++ us ++ l.drop (a + b)).take n = (l.take n).take a ++ us ++ (l.take n).drop (a + b):=by
  have hl : (l.take a ++ us).length = a + b:=by rw [List.length_append,List.length_take,hu];omega
  have e : n = (l.take a ++ us).length + (n - (a + b)):=by omega
  conv=>lhs;rw [e]
  rw [List.take_length_add_append,List.take_take,Nat.min_eq_left (by omega),List.drop_take]
theorem css_lens {α : Type} {R : Rd α} {ok : Oks} {xs : List α} {css : List (List Value)} (h1 : css.length = xs.length) (h2 : ∀ i (h : i < xs.length),R.is ok w (css.getD i []) xs[i]) : ∀ c ∈ css,c.length = R.n:=by
  intro c hc;obtain ⟨j,hj,rfl⟩:=List.mem_iff_getElem.1 hc;have:=R.len (h2 j (by omega))
  simpa [List.getD,hj] using this
theorem store_vel {t : TypeId} {i : TyI} (hi : TyOk P t i) {v : Value} {id k b m cap : Nat} {α : Type} {E : TypeId} {R : Rd α} {xs : List α} {y : α} {ns : List C} (hs : StOk cx tm ob nx ρ a w) (hρ : ρ id = some (.slice (some ⟨b,0,none⟩) m cap)) (hg : getO ob id = some (.vec E R xs))
    (hv : repL (okOf cx ρ ob) ρ w ns v.cells.toList) (hn : sureL ns = true) (hsz : ns.length = i.size) (hy : ofL R ns = some (y,[])) (hk : k < xs.length) :
    ∃ w',(Instr.storeAt t (.pointer (some ⟨b,k * R.n,none⟩)) v).run P w = .ok () w' ∧ StOk cx tm (setO id (.vec E R (xs.set k y)) ob) nx ρ a w':=by
  obtain ⟨v',hv',css,h1,h2,h3⟩ : ∃ v,ρ id = some v ∧ VecOk (okOf cx ρ ob) w v E R xs:=hs.obs _ (yM hg);rw [hρ] at hv';obtain rfl:=Option.some.inj hv';obtain ⟨us,r,e1,hus,hr⟩:=ofL_rep R hy hv;have hr0 : r = []:=hr;rw [hr0,List.append_nil] at e1;have hul:=R.len hus;have hfl:=css_lens h1 h2;have hfs:=flatten_len css hfl;rcases h3.2 with ⟨h0,_⟩|⟨g,cap',cur,hsl,hbg,hgh,hnc,hcm,hcs,htake⟩
  · cases h0
  · injection hsl with q1 q2 q3
    injection q1 with q1
    injection q1 with q1 _ _
    subst q1 q2 q3;have hkn : k * R.n + R.n ≤ xs.length * R.n:=by
      have : (k + 1) * R.n ≤ xs.length * R.n:=Nat.mul_le_mul_right _ (by omega);rw [Nat.add_mul,Nat.one_mul] at this;exact this
    have hcap : xs.length * R.n ≤ cap * R.n:=Nat.mul_le_mul_right _ hnc;have hst:=run_storeCells_at P b (k * R.n) E v.cells.toList 0 cur w hgh (by rw [e1,hul];omega) (sureL_ones hn hv);simp only [Nat.add_zero] at hst;refine ⟨w.setRow b (cur.toList.take (k * R.n) ++ v.cells.toList ++ cur.toList.drop (k * R.n + v.cells.toList.length)).toArray,?_,hs.write hg (by rw [hρ];exact setRow_grew) (by simp [World.setRow]) ⟨_,hρ,css.set k us,by simp [h1],?_,?_⟩⟩
    · simp only [Instr.storeAt,storeVar,Instr.sureAddr,Sem.run_bind,Sem.run_pure,Result.andThen_ok,hi.sizeOf];rw [if_neg (by have:=repL.len hv;simp only [Array.length_toList] at this;omega)];exact hst
    · intro j hj;have hj' : j < xs.length:=by simpa using hj
      have hkp : xK (okOf cx ρ ob) (okOf cx ρ ob) w (w.setRow b (cur.toList.take (k * R.n) ++ v.cells.toList ++ cur.toList.drop (k * R.n + v.cells.toList.length)).toArray) :=
        fun _ q hq hlt=>⟨hq,setRow_grew.block q hlt (fun e=>hq.2 _ (yM hg) (by rw [hρ];exact e.symm))⟩
      by_cases e : j = k
      · subst e;have : (css.set j us).getD j [] = us:=by simp [List.getD,h1,hj']
        rw [this];simp only [List.getElem_set_self];exact R.kept hkp hus
      · have : (css.set k us).getD j [] = css.getD j []:=by simp [List.getD,Ne.symm e]
        rw [this,List.getElem_set_ne (Ne.symm e)];exact R.kept hkp (h2 j hj')
    · refine ⟨?_,.inr ⟨b,cap,_,by simp,hbg,setRow_heap w b _ _ E _ hgh,by simpa using hnc,hcm,?_,?_⟩⟩
      · rw [flatten_set us hul css k hfl (by omega)];simp only [List.length_append,List.length_take,List.length_drop,hfs,h1,List.length_set,hul];omega
      · simp only [List.size_toArray,List.length_append,List.length_take,List.length_drop,Array.length_toList,e1,hul,hcs];omega
      · rw [flatten_set us hul css k hfl (by omega),← htake];simp only [List.length_set,e1,hul];have h5 : cur.toList.length = cap * R.n:=by simpa using hcs
        exact take_mid _ _ _ _ _ hul hkn (by show xs.length * R.n ≤ cur.toList.length;omega)
theorem setV_mid (a o n : Nat) (ns l : List Value) (h1 : o + ns.length ≤ n) (h2 : a + n ≤ l.length) : l.take (a + o) ++ ns ++ l.drop (a + o + ns.length) = l.take a ++ setV o ns ((l.drop a).take n) ++ l.drop (a + n):=by
  rw [setV_at o ns _ (by simp;omega),List.take_add,List.take_take,Nat.min_eq_left (by omega)];have h3 : l.drop (a + o + ns.length) = ((l.drop a).take n).drop (o + ns.length) ++ l.drop (a + n):=by
    have e : (List.take n (List.drop a l) ++ List.drop n (List.drop a l)).drop (o + ns.length) = l.drop (a + o + ns.length):=by rw [List.take_append_drop,List.drop_drop,Nat.add_assoc]
    rw [← e,List.drop_append_of_le_length (by simp;omega),List.drop_drop]
  rw [h3];simp only [List.append_assoc]
theorem store_vof {t : TypeId} {i : TyI} (hi : TyOk P t i) {v : Value} {id k o b m cap : Nat} {α : Type} {E : TypeId} {R : Rd α} {xs : List α} {y : α} {ns : List C} (hs : StOk cx tm ob nx ρ a w) (hρ : ρ id = some (.slice (some ⟨b,0,none⟩) m cap)) (hg : getO ob id = some (.vec E R xs))
    (hv : repL (okOf cx ρ ob) ρ w ns v.cells.toList) (hn : sureL ns = true) (hsz : ns.length = i.size) (hle : o + ns.length ≤ R.n) (hy : ofL R (setC o ns (toL R (xs.getD k R.dflt))) = some (y,[])) (hk : k < xs.length) :
    ∃ w',(Instr.storeAt t (.pointer (some ⟨b,k * R.n + o,none⟩)) v).run P w = .ok () w' ∧ StOk cx tm (setO id (.vec E R (xs.set k y)) ob) nx ρ a w':=by
  obtain ⟨v',hv',css,h1,h2,h3⟩ : ∃ v,ρ id = some v ∧ VecOk (okOf cx ρ ob) w v E R xs:=hs.obs _ (yM hg);rw [hρ] at hv';obtain rfl:=Option.some.inj hv';have hvl:=repL.len hv;have hgd : xs.getD k R.dflt = xs[k]:=by simp [List.getD,hk]
  have hrk:=h2 k hk;rw [← hgd] at hrk;obtain ⟨us,r,e1,hus,hr⟩:=ofL_rep R hy (repL_set o hv (toL_rep R hrk));have hr0 : r = []:=hr;rw [hr0,List.append_nil] at e1;have hul:=R.len hus;have hfl:=css_lens h1 h2;have hfs:=flatten_len css hfl;rcases h3.2 with ⟨h0,_⟩|⟨g,cap',cur,hsl,hbg,hgh,hnc,hcm,hcs,htake⟩
  · cases h0
  · injection hsl with q1 q2 q3
    injection q1 with q1
    injection q1 with q1 _ _
    subst q1 q2 q3;have hkn : k * R.n + R.n ≤ xs.length * R.n:=by
      have : (k + 1) * R.n ≤ xs.length * R.n:=Nat.mul_le_mul_right _ (by omega);rw [Nat.add_mul,Nat.one_mul] at this;exact this
    have hcap : xs.length * R.n ≤ cap * R.n:=Nat.mul_le_mul_right _ hnc;have h5 : cur.toList.length = cap * R.n:=by simpa using hcs
    have hst:=run_storeCells_at P b (k * R.n + o) E v.cells.toList 0 cur w hgh (by omega) (sureL_ones hn hv);simp only [Nat.add_zero] at hst;have hseg : (cur.toList.drop (k * R.n)).take R.n = css.getD k []:=by
      apply List.ext_getElem?;intro j
      by_cases hj : j < R.n
      · rw [List.getElem?_take_of_lt hj,List.getElem?_drop,← flatten_at css k j hfl (by omega) hj,← htake,List.getElem?_take_of_lt (by omega)]
      · rw [List.getElem?_eq_none (by simp;omega),List.getElem?_eq_none (by rw [R.len (h2 k hk)];omega)]
    rw [setV_mid (k * R.n) o R.n _ _ (by omega) (by omega),hseg,e1] at hst;refine ⟨w.setRow b (cur.toList.take (k * R.n) ++ us ++ cur.toList.drop (k * R.n + R.n)).toArray,?_,hs.write hg (by rw [hρ];exact setRow_grew) (by simp [World.setRow]) ⟨_,hρ,css.set k us,by simp [h1],?_,?_⟩⟩
    · simp only [Instr.storeAt,storeVar,Instr.sureAddr,Sem.run_bind,Sem.run_pure,Result.andThen_ok,hi.sizeOf];rw [if_neg (by simp only [Array.length_toList] at hvl;omega)];exact hst
    · intro j hj;have hj' : j < xs.length:=by simpa using hj
      have hkp : xK (okOf cx ρ ob) (okOf cx ρ ob) w (w.setRow b (cur.toList.take (k * R.n) ++ us ++ cur.toList.drop (k * R.n + R.n)).toArray) :=
        fun _ q hq hlt=>⟨hq,setRow_grew.block q hlt (fun e=>hq.2 _ (yM hg) (by rw [hρ];exact e.symm))⟩
      by_cases e : j = k
      · subst e;have : (css.set j us).getD j [] = us:=by simp [List.getD,h1,hj']
        rw [this];simp only [List.getElem_set_self];exact R.kept hkp hus
      · have : (css.set k us).getD j [] = css.getD j []:=by simp [List.getD,Ne.symm e]
        rw [this,List.getElem_set_ne (Ne.symm e)];exact R.kept hkp (h2 j hj')
    · refine ⟨?_,.inr ⟨b,cap,_,by simp,hbg,setRow_heap w b _ _ E _ hgh,by simpa using hnc,hcm,?_,?_⟩⟩
      · rw [flatten_set us hul css k hfl (by omega)];simp only [List.length_append,List.length_take,List.length_drop,hfs,h1,List.length_set,hul];omega
      · simp only [List.size_toArray,List.length_append,List.length_take,List.length_drop,Array.length_toList,hul,hcs];omega
      · rw [flatten_set us hul css k hfl (by omega),← htake];simp only [List.length_set];exact take_mid _ _ _ _ _ hul hkn (by show xs.length * R.n ≤ cur.toList.length;omega)
theorem vecOk_new {α : Type} {R : Rd α} {xs : List α} {css : List (List Value)} {e : TypeId} {ok ok' : Oks} {w' : World} (h1 : css.length = xs.length) (h2 : ∀ i (h : i < xs.length),R.is ok w (css.getD i []) xs[i]) (hk : xK ok ok' w w') (hm : xs.length ≤ maxLen)
    (hb : w'.heap[w.heap.size]? = some (.cells css.flatten.toArray e)) : VecOk ok' w' (.slice (some ⟨w.heap.size,0,none⟩) xs.length xs.length) e R xs:=by
  have hfs:=flatten_len css (css_lens h1 h2);refine ⟨css,h1,fun i hi=>R.kept hk (h2 i hi),by rw [hfs,h1],.inr ⟨w.heap.size,xs.length,_,rfl,Nat.zero_le _,hb,Nat.le_refl _,hm,by simp [hfs,h1],?_⟩⟩;rw [List.take_of_length_le (by simp [hfs,h1])]
theorem new_vec {α : Type} {E : TypeId} {R : Rd α} {xs : List α} {v : Value} {w' : World} (hs : StOk cx tm ob nx ρ a w) (hbw : Below w.heap.size w w') (hb : ∀ b,blk (some v) = some b → w.heap.size ≤ b ∧ b < w'.heap.size) (hsl : ∃ a n c,v = .slice a n c)
    (hv : ∀ ok',xK (okOf cx ρ ob) ok' w w' → VecOk ok' w' v E R xs) : ∃ ρ',StOk cx tm ((nx,.vec E R xs) :: ob) (nx + 1) ρ' a w' ∧ (C.vec nx).rep (okOf cx ρ' ((nx,.vec E R xs) :: ob)) ρ' w' v:=by
  refine ⟨upd ρ nx v,hs.new hbw hb ⟨v,xJ,hv _ (okOf_new hs (fun b e=>(hb b e).1) hbw)⟩,xJ,hsl⟩
theorem run_app {t ty e : TypeId} {ei : TyI} (ht : P.underlying t = some (.slice e)) (he : TyOk P e ei) (hpos : 0 < ei.size) {v : Value} {n : Nat} {xs : List Value} (hown : w.ownsRow 0 e ei.size v n xs)
    {ad : Addr} {m c : Nat} {news : List Value} (hl : news.length = m * ei.size) (hnews : ∀ j u,news[j]? = some u → w.cell? (ad.add j) = some u) (h1 : ∀ u ∈ news,u.oneCell' = true) (_hm : 0 < m) (h63 : n + m ≤ maxLen) (hby : (n + m) * ei.bytes ≤ 140737488355328) :
    ∃ v' w',(Builtin.append_ #[t,t] ty #[v,.slice (some ad) m c]).run P w = .ok v' w' ∧ w'.ownsRow 0 e ei.size v' (n + m) (xs ++ news) ∧ Grew w w' (blk (some v)) ∧ (∀ b,blk (some v') = some b → blk (some v) = some b ∨ (w.heap.size ≤ b ∧ b < w'.heap.size)) ∧ ∃ a n c,v' = .slice a n c:=by
  obtain ⟨f,hf,hfs,hfb,hfz⟩:=he.info;have hzs : ei.zeroV.cells.size = ei.size:=by rw [he.zeroCells];simpa using he.zlen
  have low : ∀ {v' : Value} {w' : World},w'.ownsRow w.heap.size e ei.size v' (n + m) (xs ++ news) → w.grownBy w' none →
      w'.ownsRow 0 e ei.size v' (n + m) (xs ++ news) ∧ Grew w w' (blk (some v)) ∧ (∀ b,blk (some v') = some b → blk (some v) = some b ∨ (w.heap.size ≤ b ∧ b < w'.heap.size)) ∧ ∃ a n c,v' = .slice a n c:=by
    intro v' w' ho hg;refine ⟨⟨ho.1,?_⟩,⟨hg.os,hg.tape,hg.output,hg.size,fun k hk _=>hg.block k hk (by simp)⟩,?_,?_⟩
    · rcases ho.2 with h0|⟨g,cap,cur,r1,r2,r3⟩
      · exact .inl h0
      · exact .inr ⟨g,cap,cur,r1,Nat.zero_le _,r3⟩
    · intro b hb;rcases ho.2 with ⟨h0,_⟩|⟨g,cap,cur,r1,r2,r3,_⟩
      · rw [h0] at hb;cases hb
      · rw [r1] at hb;cases hb;exact .inr ⟨r2,(Array.getElem?_eq_some_iff.1 r3).1⟩
    · rcases ho.2 with ⟨h0,_⟩|⟨g,cap,cur,r1,_⟩
      · exact ⟨_,_,_,h0⟩
      · exact ⟨_,_,_,r1⟩
  rcases hown.2 with ⟨hv,h0⟩|⟨g,cap,cur,hv,hbg,hg,hnc,hcm,hcs,htake⟩
  · have hx : xs = []:=List.eq_nil_of_length_eq_zero (by rw [hown.1,h0];simp);subst hv h0 hx;obtain ⟨v',w',r1,r2,r3,_⟩:=run_append_own (P:=P) w w.heap.size t ty e f ei.zeroV ei.size ei.bytes ht hf hfz hfs hfb hzs hpos (.slice none 0 0) 0 [] (World.ownsRow_nil _ _ _ _) ad m c news hl hnews h1 h63 hby (Nat.le_refl _);exact ⟨v',w',r1,low r2 r3⟩
  · subst hv
    by_cases hroom : n + m ≤ cap
    · obtain ⟨w',r1,r2,r3⟩:=run_append_fits (P:=P) w 0 t ty e f ei.size ht hf hfs g n cap xs hown ad m c news hl hnews h1 hroom;exact ⟨_,w',r1,r2,⟨r3.os,r3.tape,r3.output,r3.size,r3.block⟩,fun b hb=>.inl hb,_,_,_,rfl⟩
    · obtain ⟨v',w',r1,r2,r3⟩:=run_append_arg_grows (P:=P) w t ty e f ei.zeroV ei.size ei.bytes ht hf hfz hfs hfb hzs hpos ⟨g,0,none⟩ n cap xs hown.1 (fun j u hj=>hown.cells rfl j u hj) ad m c news hl hnews (by omega) h63 hby;exact ⟨v',w',r1,low r2 r3⟩
theorem run_appF {t ty e : TypeId} {ei : TyI} (ht : P.underlying t = some (.slice e)) (he : TyOk P e ei) (hpos : 0 < ei.size) {ao : Option Addr} {n : Nat} {olds : List Value} (hlo : olds.length = n * ei.size)
    (ho : 0 < n → ∃ b,ao = some b ∧ ∀ j u,olds[j]? = some u → w.cell? (b.add j) = some u) {ad : Addr} {m c : Nat} {news : List Value} (hl : news.length = m * ei.size) (hnews : ∀ j u,news[j]? = some u → w.cell? (ad.add j) = some u) (h1 : ∀ u ∈ news,u.oneCell' = true) (hm : 0 < m) (h63 : n + m ≤ maxLen) (hby : (n + m) * ei.bytes ≤ 140737488355328) :
    ∃ v' w',(Builtin.append_ #[t,t] ty #[.slice ao n n,.slice (some ad) m c]).run P w = .ok v' w' ∧ w'.ownsRow 0 e ei.size v' (n + m) (olds ++ news) ∧ Below w.heap.size w w' ∧ (∀ b,blk (some v') = some b → w.heap.size ≤ b ∧ b < w'.heap.size) ∧ ∃ a n c,v' = .slice a n c:=by
  obtain ⟨f,hf,hfs,hfb,hfz⟩:=he.info;have hzs : ei.zeroV.cells.size = ei.size:=by rw [he.zeroCells];simpa using he.zlen
  have low : ∀ {v' : Value} {w' : World},w'.ownsRow w.heap.size e ei.size v' (n + m) (olds ++ news) → w.grownBy w' none →
      w'.ownsRow 0 e ei.size v' (n + m) (olds ++ news) ∧ Below w.heap.size w w' ∧ (∀ b,blk (some v') = some b → w.heap.size ≤ b ∧ b < w'.heap.size) ∧ ∃ a n c,v' = .slice a n c:=by
    intro v' w' ho hg;refine ⟨⟨ho.1,?_⟩,⟨hg.os,hg.tape,hg.output,hg.size,fun k hk=>hg.block k hk (by simp)⟩,?_,?_⟩
    · rcases ho.2 with h0|⟨g,cap,cur,r1,r2,r3⟩
      · exact .inl h0
      · exact .inr ⟨g,cap,cur,r1,Nat.zero_le _,r3⟩
    · intro b hb;rcases ho.2 with ⟨h0,_⟩|⟨g,cap,cur,r1,r2,r3,_⟩
      · rw [h0] at hb;cases hb
      · rw [r1] at hb;cases hb;exact ⟨r2,(Array.getElem?_eq_some_iff.1 r3).1⟩
    · rcases ho.2 with ⟨h0,_⟩|⟨g,cap,cur,r1,_⟩
      · exact ⟨_,_,_,h0⟩
      · exact ⟨_,_,_,r1⟩
  have hz : n = 0 → olds = []:=fun h=>List.eq_nil_of_length_eq_zero (by rw [hlo,h,Nat.zero_mul])
  cases ao with
  | none =>
    have hn0 : n = 0:=by
      rcases Nat.eq_zero_or_pos n with h|h
      · exact h
      · obtain ⟨b,e,_⟩:=ho h;cases e
    have hx:=hz hn0;subst hn0 hx;obtain ⟨v',w',r1,r2,r3,_⟩:=run_append_own (P:=P) w w.heap.size t ty e f ei.zeroV ei.size ei.bytes ht hf hfz hfs hfb hzs hpos (.slice none 0 0) 0 [] (World.ownsRow_nil _ _ _ _) ad m c news hl hnews h1 h63 hby (Nat.le_refl _);exact ⟨v',w',r1,low r2 r3⟩
  | some b =>
    have hcell : ∀ j u,olds[j]? = some u → w.cell? (b.add j) = some u:=by
      rcases Nat.eq_zero_or_pos n with h|h
      · rw [hz h];intro j u hj;simp at hj
      · obtain ⟨b',e,h3⟩:=ho h;cases e;exact h3
    obtain ⟨v',w',r1,r2,r3⟩:=run_append_arg_grows (P:=P) w t ty e f ei.zeroV ei.size ei.bytes ht hf hfz hfs hfb hzs hpos b n n olds hlo hcell ad m c news hl hnews (by omega) h63 hby;exact ⟨v',w',r1,low r2 r3⟩
theorem run_app0 {t ty e : TypeId} {ei : TyI} (ht : P.underlying t = some (.slice e)) (he : TyOk P e ei) (base ad : Option Addr) (n cap c : Nat) (hc : n ≤ cap) :
    (Builtin.append_ #[t,t] ty #[.slice base n cap,.slice ad 0 c]).run P w = .ok (.slice base n cap) w:=by
  obtain ⟨f,hf,hfs,hfb,hfz⟩:=he.info;cases ad <;> cases base <;> simp [Builtin.append_,run_underlying ht,Go.sizeOf,typeInfo,hf,Builtin.lenOf,hc,Builtin.firstCells,loadCells,loadCellsFrom,storeCells]
end
section
variable {P : Program} {te : List (TypeId × TyI)} {cx : Cx} {tm : Tm} {ob : Obs} {nx : Nat} {ρ : Nat → Option Value} {a : Act} {w : World} {ops : Array Oper} {rest : List Oper} {o : Oper} {Q : Exit → Act → World → Prop}
theorem slOk_src {q : Nat} {α : Type} {S : Rd α} {ok : Oks} {u : Value} {ys : List α} (h : SlOk S.n (fun cs x=>S.is ok w cs x) (okU ok w q) w u ys) :
    ∃ a cap,∃ css : List (List Value),u = .slice a ys.length cap ∧ ys.length ≤ maxLen ∧ css.length = ys.length ∧ (∀ i (h : i < ys.length),S.is ok w (css.getD i []) ys[i]) ∧ (0 < ys.length → ∃ ad,a = some ad ∧ ∀ j v,css.flatten[j]? = some v → w.cell? (ad.add j) = some v):=by
  obtain ⟨a,cap,hv,h1,h2,hc⟩:=h;have key : ∀ i (h : i < ys.length),∃ cs,S.is ok w cs ys[i] ∧ ∃ b off,a = some ⟨b,off,none⟩ ∧ xV w b (off + i * S.n) S.n cs:=by
    intro i hi;obtain ⟨b,off,cs,ha,_,_,hcell,hr⟩:=hc i hi;exact ⟨cs,hr,b,off,ha,hcell⟩
  let f : Nat → List Value:=fun i=>if h : i < ys.length then Classical.choose (key i h) else []
  have hf : ∀ i (h : i < ys.length),S.is ok w (f i) ys[i] ∧ ∃ b off,a = some ⟨b,off,none⟩ ∧ xV w b (off + i * S.n) S.n (f i):=by
    intro i hi;have:=Classical.choose_spec (key i hi);simp only [f,dif_pos hi];exact this
  have hget : ∀ i,i < ys.length → ((List.range ys.length).map f).getD i [] = f i:=by
    intro i hi;simp [List.getD,hi]
  refine ⟨a,cap,(List.range ys.length).map f,hv,Nat.le_trans h1 h2,by simp,fun i hi=>by rw [hget i hi];exact (hf i hi).1,fun hpos=>?_⟩;obtain ⟨_,b,off,ha,_⟩:=hf 0 hpos;refine ⟨⟨b,off,none⟩,ha,fun j v hj=>?_⟩;have hlens : ∀ c ∈ (List.range ys.length).map f,c.length = S.n:=by
    intro c hc;obtain ⟨i,hi,rfl⟩:=List.mem_map.1 hc;exact S.len (hf i (by simpa using hi)).1
  have hjl : j < ys.length * S.n:=by
    have:=(List.getElem?_eq_some_iff.1 hj).1;rw [flatten_len _ hlens] at this
    simpa using this
  have hn:=S.n_pos;have hi : j / S.n < ys.length:=Nat.div_lt_of_lt_mul (by rw [Nat.mul_comm];exact hjl);have hr : j % S.n < S.n:=Nat.mod_lt _ hn;have hjr : j / S.n * S.n + j % S.n = j:=by rw [Nat.mul_comm];exact Nat.div_add_mod j S.n
  have hfa:=flatten_at ((List.range ys.length).map f) (j / S.n) (j % S.n) hlens (by simpa using hi) hr;rw [hjr,hj,hget _ hi] at hfa;obtain ⟨_,b',off',ha',hcell⟩:=hf (j / S.n) hi;rw [ha] at ha';cases ha';rw [Go.WideShapes.add_plain,hfa,← hcell.2 _ hr]
  congr 2
  omega
theorem srcOf_sound (hs : StOk cx tm ob nx ρ a w) {x : A} {u : Value} {α : Type} {S : Rd α} {ys : List α} (h : srcOf ob x = some ⟨α,S,ys⟩) (hx : x.rep (okOf cx ρ ob) ρ w u) :
    ∃ a cap,∃ css : List (List Value),u = .slice a ys.length cap ∧ ys.length ≤ maxLen ∧ css.length = ys.length ∧ (∀ i (h : i < ys.length),S.is (okOf cx ρ ob) w (css.getD i []) ys[i]) ∧ (0 < ys.length → ∃ ad,a = some ad ∧ ∀ j v,css.flatten[j]? = some v → w.cell? (ad.add j) = some v):=by
  unfold srcOf at h;split at h
  · cases h;exact slOk_src hx
  · cases h;exact slOk_src hx.1
  · split at h
    · rename_i hg;cases h;obtain ⟨v,hv,css,h1,h2,h3⟩ : ∃ v,ρ _ = some v ∧ VecOk (okOf cx ρ ob) w v _ _ _:=hs.obs _ (yM hg);have hxv : ρ _ = some u:=hx.1;rw [hv] at hxv;obtain rfl:=Option.some.inj hxv;rcases h3.2 with ⟨rfl,h0⟩|⟨g,cap,cur,rfl,_,hgh,hnc,hcm,_⟩
      · refine ⟨none,0,css,by rw [h0],by rw [h0];exact Nat.zero_le _,h1,h2,fun hp=>by omega⟩
      · exact ⟨_,cap,css,rfl,Nat.le_trans hnc hcm,h1,h2,fun _=>⟨_,rfl,fun j v hj=>h3.cells rfl j v hj⟩⟩
    · cases h
  · cases h
theorem css_ones {α : Type} {S : Rd α} {ok : Oks} {ys : List α} {css : List (List Value)} (h1 : css.length = ys.length) (h2 : ∀ i (h : i < ys.length),S.is ok w (css.getD i []) ys[i]) : ∀ v ∈ css.flatten,v.oneCell' = true:=by
  intro v hv;obtain ⟨c,hc,hvc⟩:=List.mem_flatten.1 hv;obtain ⟨j,hj,rfl⟩:=List.mem_iff_getElem.1 hc;have:=S.ones (h2 j (by omega)) v;simp only [List.getD,List.getElem?_eq_getElem hj,Option.getD_some] at this;exact this hvc
theorem getD_append {css dss : List (List Value)} (i : Nat) : (css ++ dss).getD i [] = if i < css.length then css.getD i [] else dss.getD (i - css.length) []:=by
  simp only [List.getD,List.getElem?_append];split <;> rfl
theorem isNil_rep {x : A} {u : Value} {ok : Oks} (h : isNil x = true) (hx : x.rep ok ρ w u) : u = .slice none 0 0:=by
  unfold isNil at h;split at h
  · exact hx
  · cases h
theorem run_append_op {s x : Operand} {t t' : TypeId} {args : Array Operand} {ts : Array TypeId} (hop : o.op = .call { callee:=.builtin .append,args:=args,argTypes:=ts }) (ha : args.toList = [s,x]) (ht : ts.toList = [t,t']) (hb : Nat.beq t t' = true) {v : Value} {w' : World}
    (h : (Builtin.append_ #[t,t] o.type #[a.eval s,a.eval x]).run P w = .ok v w') : (execOp a.eval o).run P w = .ok (.value v) w':=by
  have e1 : args = #[s,x]:=by apply Array.toList_inj.1;rw [ha]
  have e2 : ts = #[t,t']:=by apply Array.toList_inj.1;rw [ht]
  have e3:=Nat.eq_of_beq_eq_true hb;subst e1 e2 e3;unfold execOp;simp only [hop,resolve,invoke,builtin,Sem.run_bind,Sem.run_pure,Result.andThen_ok,List.map_toArray,List.map_cons,List.map_nil,h]
theorem wp_value {v : Value} {w' : World} {next : Act → World → Prop} (h : (execOp a.eval o).run P w = .ok (.value v) w') (hn : next (a.put o.dst v) w') : o.wp P a w next Q:=by
  unfold Oper.wp;rw [h];exact hn
theorem aApp_sound (hte : TEok P te) {s x : Operand} {t : TypeId} {K : Tm → Obs → Nat → Prop} (h : aApp te cx.N o.dst s x t tm ob nx K) (hs : StOk cx tm ob nx ρ a w)
    {next : Act → World → Prop} (hrun : ∀ v w',(Builtin.append_ #[t,t] o.type #[a.eval s,a.eval x]).run P w = .ok v w' → next (a.put o.dst v) w' → o.wp P a w next Q)
    (hn : ∀ tm ob nx ρ a w,K tm ob nx → StOk cx tm ob nx ρ a w → next a w) : o.wp P a w next Q:=by
  unfold aApp at h;split at h
  · rename_i ti hti;have hk:=(yN hte hti).kind;split at h
    · rename_i e hek;rw [hek] at hk;have hu : P.underlying t = some (.slice e):=hk;split at h
      · rename_i ei hei;have hei:=yN hte hei;split at h
        · exact h.elim
        · rename_i hb1;have hb1:=Nat.le_of_ble_eq_true hb1;split at h
          · rename_i hnil;have es:=isNil_rep hnil (hs.look s);split at h
            · rename_i β R hrd;have hRn:=hei.rdn _ _ hrd;have hpos : 0 < ei.size:=by rw [← hRn];exact R.n_pos
              have made0 : ∀ {w' : World},w' = w → put cx.N o.dst (.one (.vec nx)) tm (fun tm=>K tm ((nx,.vec e R []) :: ob) (nx + 1)) → next (a.put o.dst (.slice none 0 0)) w':=by
                intro w' hw hp;subst hw;obtain ⟨ρ',h1,h2⟩:=new_vec (E:=e) (R:=R) (xs:=[]) (v:=.slice none 0 0) hs (Below.refl _ _) (fun b hb=>by cases hb) ⟨_,_,_,rfl⟩ (fun ok' _=>⟨[],rfl,fun i hi=>absurd hi (by simp),World.ownsRow_nil _ _ _ _⟩);obtain ⟨tm',h3,h4⟩:=h1.put hp h2;exact hn _ _ _ _ _ _ h3 h4
              split at h
              · rename_i hxn;have ex:=isNil_rep hxn (hs.look x);refine hrun (.slice none 0 0) w ?_ (made0 rfl h);rw [es,ex];exact run_app0 hu hei _ _ _ _ _ (Nat.le_refl _)
              · split at h
                · rename_i γ S ys hsrc;split at h
                  · rename_i hh _;obtain ⟨hby,hp⟩:=h;obtain ⟨ad,cap,css,hux,hmx,h1,h2,h3⟩:=srcOf_sound hs hsrc (hs.look x);cases hh.down;rw [Rd.move_rfl] at hp
                    by_cases hy : ys.length = 0
                    · have hy0 : ys = []:=List.length_eq_zero_iff.1 hy;subst hy0;refine hrun (.slice none 0 0) w ?_ (made0 rfl hp);rw [es,hux];exact run_app0 hu hei _ _ _ _ _ (Nat.le_refl _)
                    · obtain ⟨ad',rfl,hcells⟩:=h3 (by omega);have hfs:=flatten_len css (css_lens h1 h2);obtain ⟨v',w',r1,r2,r3,r4,r5⟩:=run_app (P:=P) (ty:=o.type) hu hei hpos (World.ownsRow_nil w 0 e ei.size) (ad:=ad') (m:=ys.length) (c:=cap) (news:=css.flatten) (by rw [hfs,h1,hRn]) hcells (css_ones h1 h2) (by omega) (by omega) (by rw [Nat.zero_add];exact hby);rw [Nat.zero_add,List.nil_append] at r2;have hbw : Below w.heap.size w w':=⟨r3.os,r3.tape,r3.output,r3.size,fun k hk=>r3.block k hk (by simp [blk])⟩;obtain ⟨ρ',h4,h5⟩:=new_vec (E:=e) (R:=R) (xs:=ys) (v:=v') hs hbw (fun b hb=>by rcases r4 b hb with h|h;cases h;exact h) r5 (fun ok' hk'=>⟨css,h1,fun i hi=>R.kept hk' (h2 i hi),by rw [hRn];exact r2⟩);obtain ⟨tm',h6,h7⟩:=h4.put hp h5;exact hrun v' w' (by rw [es,hux];exact r1) (hn _ _ _ _ _ _ h6 h7)
                  · exact h.elim
                · exact h.elim
            · exact h.elim
          · split at h
            · rename_i id hsv;have hsr:=hs.look s;rw [hsv] at hsr;split at h
              · rename_i β E R xs hg;split at h
                · rename_i hE hRn;have hE:=Nat.eq_of_beq_eq_true hE;have hRn:=Nat.eq_of_beq_eq_true hRn;subst hE;have hpos : 0 < ei.size:=by rw [← hRn];exact R.n_pos
                  obtain ⟨v,hv,css,h1,h2,h3⟩ : ∃ v,ρ id = some v ∧ VecOk (okOf cx ρ ob) w v E R xs:=hs.obs _ (yM hg);have hse : ρ id = some (a.eval s):=hsr.1;rw [hv] at hse;have hse:=Option.some.inj hse;obtain ⟨sa,sn,sc,hsl⟩:=hsr.2;have hsn : sn = xs.length ∧ sn ≤ sc:=by
                    rcases h3.2 with ⟨h0,h00⟩|⟨g,cap,cur,h0,_,_,hnc,_⟩
                    · rw [← hse,h0] at hsl;cases hsl;exact ⟨h00.symm,Nat.le_refl _⟩
                    · rw [← hse,h0] at hsl;cases hsl;exact ⟨rfl,hnc⟩
                  split at h
                  · rename_i hxn;have ex:=isNil_rep hxn (hs.look x);obtain ⟨tm',h4,h5⟩:=hs.put h hsr;refine hrun (a.eval s) w ?_ (hn _ _ _ _ _ _ h4 h5);rw [ex,hsl];exact run_app0 hu hei _ _ _ _ _ hsn.2
                  · split at h
                    · rename_i γ S ys hsrc;split at h
                      · rename_i hh _;obtain ⟨hby,hp⟩:=h;obtain ⟨ad,cap,dss,hux,hmx,g1,g2,g3⟩:=srcOf_sound hs hsrc (hs.look x);cases hh.down;rw [Rd.move_rfl] at hp
                        by_cases hy : ys.length = 0
                        · have hy0 : ys = []:=List.length_eq_zero_iff.1 hy;subst hy0;have hsame:=hs.swap (o':=.vec E R (xs ++ [])) hg (w':=w) (v':=v) ⟨rfl,rfl,rfl,Nat.le_refl _,fun _ _ _=>rfl⟩ (fun b hb=>.inl (by rw [hv];exact hb)) (by
                            refine ⟨v,xJ,css,by simpa using h1,?_,by simpa using h3⟩;intro i hi;have hi' : i < xs.length:=by simpa using hi
                            have hkp:=okOf_swap (o':=.vec E R (xs ++ [])) hs hg (w':=w) (v':=v) ⟨rfl,rfl,rfl,Nat.le_refl _,fun _ _ _=>rfl⟩ (fun b hb=>.inl (by rw [hv];exact hb))
                            simpa using R.kept hkp (h2 i hi'))
                          obtain ⟨tm',h4,h5⟩:=hsame.put hp (u:=v) ⟨xJ,by rw [hse];exact hsr.2⟩;refine hrun v w ?_ (hn _ _ _ _ _ _ h4 h5);rw [hux,hse,hsl];exact run_app0 hu hei _ _ _ _ _ hsn.2
                        · obtain ⟨ad',rfl,hcells⟩:=g3 (by omega);have hfs:=flatten_len dss (css_lens g1 g2);have hbig : xs.length + ys.length ≤ maxLen:=by
                            have hle : (xs.length + ys.length) * 1 ≤ (xs.length + ys.length) * ei.bytes:=Nat.mul_le_mul_left _ hb1;unfold maxLen;omega
                          rw [hRn] at h3;obtain ⟨v',w',r1,r2,r3,r4,r5⟩:=run_app (P:=P) (ty:=o.type) hu hei hpos h3 (ad:=ad') (m:=ys.length) (c:=cap) (news:=dss.flatten) (by rw [hfs,g1,hRn]) hcells (css_ones g1 g2) (by omega) hbig hby;have hgr : Grew w w' (blk (ρ id)):=by rw [hv];exact r3
                          have hbl : ∀ b,blk (some v') = some b → blk (ρ id) = some b ∨ (w.heap.size ≤ b ∧ b < w'.heap.size):=by rw [hv];exact r4
                          have hkp:=okOf_swap (o':=.vec E R (xs ++ ys)) hs hg hgr (fun b hb=>(hbl b hb).imp (fun h=>h) (·.1));have hsw:=hs.swap (o':=.vec E R (xs ++ ys)) hg hgr hbl (by
                            refine ⟨v',xJ,css ++ dss,by simp [h1,g1],?_,by rw [hRn,List.length_append,List.flatten_append];exact r2⟩;intro i hi;rw [getD_append]
                            by_cases hi' : i < xs.length
                            · rw [if_pos (by omega),List.getElem_append_left hi'];exact R.kept hkp (h2 i hi')
                            · rw [if_neg (by omega),List.getElem_append_right (by omega),h1];exact R.kept hkp (g2 (i - xs.length) (by simp at hi;omega)))
                          obtain ⟨tm',h4,h5⟩:=hsw.put hp (u:=v') ⟨xJ,r5⟩;exact hrun v' w' (by rw [hux,← hse];exact r1) (hn _ _ _ _ _ _ h4 h5)
                      · exact h.elim
                    · exact h.elim
                · exact h.elim
              · exact h.elim
            · rename_i β S0 zs hsv;have hsr:=hs.look s;rw [hsv] at hsr;split at h
              · rename_i γ S ys hRn hsrc;have hRn:=Nat.eq_of_beq_eq_true hRn;split at h
                · rename_i hh _;obtain ⟨⟨hy,hby⟩,hp⟩:=h;have hpos : 0 < ei.size:=by rw [← hRn];exact S0.n_pos
                  obtain ⟨sa,scap,css,hsu,_,g1,g2,g3⟩:=slOk_src hsr.1;obtain ⟨sb,hsb⟩:=hsr.2;rw [hsu] at hsb
                  injection hsb with e1 _ e3
                  subst e1 e3;obtain ⟨ad,cap,dss,hux,hmx,k1,k2,k3⟩:=srcOf_sound hs hsrc (hs.look x);cases hh.down;rw [Rd.move_rfl] at hp;obtain ⟨ad',rfl,hcells⟩:=k3 hy;have hfs:=flatten_len dss (css_lens k1 k2);have hfz:=flatten_len css (css_lens g1 g2);have hbig : zs.length + ys.length ≤ maxLen:=by
                    have hle : (zs.length + ys.length) * 1 ≤ (zs.length + ys.length) * ei.bytes:=Nat.mul_le_mul_left _ hb1;unfold maxLen;omega
                  obtain ⟨v',w',r1,r2,r3,r4,r5⟩:=run_appF (P:=P) (ty:=o.type) hu hei hpos (ao:=sa) (n:=zs.length) (olds:=css.flatten) (by rw [hfz,g1,hRn]) g3 (ad:=ad') (m:=ys.length) (c:=cap) (news:=dss.flatten) (by rw [hfs,k1,hRn]) hcells (css_ones k1 k2) hy hbig hby;obtain ⟨ρ',h4,h5⟩:=new_vec (E:=e) (R:=S0) (xs:=zs ++ ys) (v:=v') hs r3 r4 r5 (fun ok' hk'=>by
                    refine ⟨css ++ dss,by simp [g1,k1],?_,by rw [hRn,List.length_append,List.flatten_append];exact r2⟩;intro i hi;rw [getD_append]
                    by_cases hi' : i < zs.length
                    · rw [if_pos (by omega),List.getElem_append_left hi'];exact S0.kept hk' (g2 i hi')
                    · rw [if_neg (by omega),List.getElem_append_right (by omega),g1];exact S0.kept hk' (k2 (i - zs.length) (by simp at hi;omega)))
                  obtain ⟨tm',h6,h7⟩:=h4.put hp h5;exact hrun v' w' (by rw [hsu,hux];exact r1) (hn _ _ _ _ _ _ h6 h7)
                · exact h.elim
              · exact h.elim
            · exact h.elim
      · exact h.elim
    · exact h.elim
  · exact h.elim
theorem run_appendS_op {s x : Operand} {t t' : TypeId} {args : Array Operand} {ts : Array TypeId} (hop : o.op = .call { callee:=.builtin .append,args:=args,argTypes:=ts }) (ha : args.toList = [s,x]) (ht : ts.toList = [t,t']) {v : Value} {w' : World}
    (h : (Builtin.append_ #[t,t'] o.type #[a.eval s,a.eval x]).run P w = .ok v w') : (execOp a.eval o).run P w = .ok (.value v) w':=by
  have e1 : args = #[s,x]:=by apply Array.toList_inj.1;rw [ha]
  have e2 : ts = #[t,t']:=by apply Array.toList_inj.1;rw [ht]
  subst e1 e2;unfold execOp;simp only [hop,resolve,invoke,builtin,Sem.run_bind,Sem.run_pure,Result.andThen_ok,List.map_toArray,List.map_cons,List.map_nil,h]
theorem run_appS {t u ty e : TypeId} {f : TypeInfo} (ht : P.underlying t = some (.slice e)) (hu : P.underlying u = some .string) (hf : P.info? e = some f) (hfs : f.size = 1) (hfb : f.bytes = 1) (hfz : f.zero = some (.int .u8 0))
    {v : Value} {n : Nat} {xs : List Value} (hown : w.ownsRow 0 e 1 v n xs) {s : ByteArray} (h63 : n + s.size ≤ maxLen) (hby : n + s.size ≤ 140737488355328) :
    ∃ v' w',(Builtin.append_ #[t,u] ty #[v,.string s]).run P w = .ok v' w' ∧ w'.ownsRow 0 e 1 v' (n + s.size) (xs ++ Lib.strCells s) ∧ Grew w w' (blk (some v)) ∧ (∀ b,blk (some v') = some b → blk (some v) = some b ∨ (w.heap.size ≤ b ∧ b < w'.heap.size)) ∧ ∃ a n c,v' = .slice a n c:=by
  have hsmall : n + s.size ≤ 9223372036854775807:=by simp only [maxLen] at h63;omega
  have sl : ∀ {v' : Value} {w' : World} {ys : List Value} {k : Nat} {B : Nat},w'.ownsRow B e 1 v' k ys → ∃ a n c,v' = .slice a n c:=by
    intro v' w' ys k B ho;rcases ho.2 with ⟨h0,_⟩|⟨g,cap,cur,r1,_⟩
    · exact ⟨_,_,_,h0⟩
    · exact ⟨_,_,_,r1⟩
  rcases hown.2 with ⟨rfl,rfl⟩|⟨g,cap,cur,rfl,hbg,hg,hnc,hcm,hcs,htake⟩
  · have hx : xs = []:=List.eq_nil_of_length_eq_zero (by rw [hown.1]);subst hx;obtain ⟨v',w',r1,r2,r3,_⟩:=Lib.run_append_own_string (P:=P) w w.heap.size t u ty e f ht hu hf hfz hfs hfb (.slice none 0 0) 0 [] (World.ownsRow_nil _ _ _ _) s h63 hby (Nat.le_refl _);refine ⟨v',w',r1,⟨r2.1,?_⟩,⟨r3.os,r3.tape,r3.output,r3.size,fun k hk _=>r3.block k hk (by simp [Value.ownBlock])⟩,?_,sl r2⟩
    · rcases r2.2 with h0|⟨g,cap,cur,q1,_,q3⟩
      · exact .inl h0
      · exact .inr ⟨g,cap,cur,q1,Nat.zero_le _,q3⟩
    · intro b hb;rcases r2.2 with ⟨h0,_⟩|⟨g,cap,cur,q1,q2,q3,_⟩
      · rw [h0] at hb;cases hb
      · rw [q1] at hb;cases hb;exact .inr ⟨q2,(Array.getElem?_eq_some_iff.1 q3).1⟩
  · obtain ⟨v',w',r1,r2,r3,_⟩:=Lib.run_append_own_string (P:=P) w 0 t u ty e f ht hu hf hfz hfs hfb _ n xs hown s h63 hby (Nat.zero_le _);refine ⟨v',w',r1,r2,⟨r3.os,r3.tape,r3.output,r3.size,r3.block⟩,?_,sl r2⟩;intro b hb
    by_cases hroom : n + s.size ≤ cap
    · have hcs' : cur.size = cap:=by simpa using hcs
      have hr:=Lib.run_append_room_string (P:=P) w t u ty e f ht hu hf hfs g n cap cur hg s hroom (by omega);rw [r1] at hr
      injection hr with e1 _
      rw [e1] at hb;exact .inl hb
    · have hxl : xs.length = n:=by simpa using hown.1
      have holds : ∀ j u,xs[j]? = some u → w.cell? ((⟨g,0,none⟩ : Addr).add j) = some u:=hown.cells (g:=g) rfl;have hr:=Lib.run_append_grow_string (P:=P) w t u ty e f (.int .u8 0) ht hu hf hfz ⟨g,0,none⟩ n cap xs (by rw [hfs];simpa using hxl) holds s (by omega) (by omega) (by rw [hfb];exact growslice_fits (by omega) (by omega));rw [r1] at hr
      injection hr with e1 e2
      rw [e1] at hb;cases hb;refine .inr ⟨Nat.le_refl _,?_⟩;rw [e2];simp
theorem flat_ints (s : ByteArray) : (((xW s).map fun n=>[Value.int .u8 n]).flatten) = Lib.strCells s:=by
  unfold xW Lib.strCells
  induction s.data.toList with
  | nil=>rfl
  | cons b r ih=>simp only [List.map_cons,List.flatten_cons,ih];rfl
theorem intsOf_length (s : ByteArray) : (xW s).length = s.size:=by
  unfold xW;rw [List.length_map,Array.length_toList];rfl
theorem aAppS_sound (hte : TEok P te) {s x : Operand} {t t' : TypeId} {K : Tm → Obs → Nat → Prop} (h : aAppS te cx.N o.dst s x t t' tm ob nx K) (hs : StOk cx tm ob nx ρ a w)
    {next : Act → World → Prop} (hrun : ∀ v w',(Builtin.append_ #[t,t'] o.type #[a.eval s,a.eval x]).run P w = .ok v w' → next (a.put o.dst v) w' → o.wp P a w next Q)
    (hn : ∀ tm ob nx ρ a w,K tm ob nx → StOk cx tm ob nx ρ a w → next a w) : o.wp P a w next Q:=by
  unfold aAppS at h;split at h
  · rename_i ti ui hti hui;have hk:=(yN hte hti).kind;have hk2:=(yN hte hui).kind;split at h
    · rename_i e hek hek2;rw [hek] at hk;rw [hek2] at hk2;have hu : P.underlying t = some (.slice e):=hk;have hu2 : P.underlying t' = some .string:=hk2;split at h
      · rename_i ei hei;have hei:=yN hte hei;split at h
        · rename_i hik hib hiz;obtain ⟨f,hf,hfs,hfb,hfz⟩:=hei.info;have hag : ei.k.agg = false:=by rw [hik];rfl
          rw [hei.size1 hag] at hfs;rw [hib] at hfb;have hzv : ei.zeroV = .int .u8 0:=by unfold TyI.zeroV;rw [hag,hiz];rfl
          rw [hzv] at hfz;split at h
          · rename_i id b hsv hxv;have hsr:=hs.look s;rw [hsv] at hsr;have hxr:=hs.look x;rw [hxv] at hxr;have hxe : a.eval x = .string b:=hxr;split at h
            · rename_i β E R xs hg;split at h
              · rename_i hh hE _;have hE:=Nat.eq_of_beq_eq_true hE;subst hE;obtain ⟨hby,hp⟩:=h;cases hh.down;rw [Rd.move_rfl] at hp;obtain ⟨v,hv,css,h1,h2,h3⟩ : ∃ v,ρ id = some v ∧ VecOk (okOf cx ρ ob) w v E (.int .u8) xs:=hs.obs _ (yM hg);have hse : ρ id = some (a.eval s):=hsr.1;rw [hv] at hse;have hse:=Option.some.inj hse;have hbig : xs.length + b.size ≤ maxLen:=by unfold maxLen;omega
                have h3' : w.ownsRow 0 E 1 v xs.length css.flatten:=h3;obtain ⟨v',w',r1,r2,r3,r4,r5⟩:=run_appS (P:=P) (ty:=o.type) hu hu2 hf hfs hfb hfz h3' hbig hby;have hgr : Grew w w' (blk (ρ id)):=by rw [hv];exact r3
                have hbl : ∀ b,blk (some v') = some b → blk (ρ id) = some b ∨ (w.heap.size ≤ b ∧ b < w'.heap.size):=by rw [hv];exact r4
                have hkp:=okOf_swap (o':=.vec E (.int .u8) (xs ++ xW b)) hs hg hgr (fun b hb=>(hbl b hb).imp (fun h=>h) (·.1));have hsw:=hs.swap (o':=.vec E (.int .u8) (xs ++ xW b)) hg hgr hbl (by
                  refine ⟨v',xJ,css ++ (xW b).map (fun n=>[Value.int .u8 n]),by simp [h1],?_,?_⟩
                  · intro i hi;rw [getD_append]
                    by_cases hi' : i < xs.length
                    · rw [if_pos (by omega),List.getElem_append_left hi'];exact Rd.kept (.int .u8) hkp (h2 i hi')
                    · rw [if_neg (by omega),List.getElem_append_right (by omega),h1];have hj : i - xs.length < (xW b).length:=by simp at hi;omega
                      simp only [List.getD,List.getElem?_map,List.getElem?_eq_getElem hj,Option.map_some,Option.getD_some];rfl
                  · rw [List.length_append,List.flatten_append,flat_ints,intsOf_length];exact r2)
                obtain ⟨tm',h4,h5⟩:=hsw.put hp (u:=v') ⟨xJ,r5⟩;exact hrun v' w' (by rw [hxe,← hse];exact r1) (hn _ _ _ _ _ _ h4 h5)
              · exact h.elim
            · exact h.elim
          · exact h.elim
        · exact h.elim
      · exact h.elim
    · exact h.elim
  · exact h.elim
end
section
variable {P : Program} {te : List (TypeId × TyI)} {cx : Cx} {tm : Tm} {ob : Obs} {nx : Nat} {ρ : Nat → Option Value} {a : Act} {w : World} {ops : Array Oper} {rest : List Oper} {o : Oper} {Q : Exit → Act → World → Prop}
theorem vrK_sound {v : Vr} {K : A → Prop} (h : vrK v K) : v.obl ∧ (v.fact → K v.val):=by
  cases v
  · exact ⟨trivial,fun _=>h⟩
  · exact ⟨h.1,fun _=>h.2⟩
  · exact ⟨trivial,h⟩
  · exact h.elim
theorem opv_wp (hte : TEok P te) {K : Tm → Prop} (h : vrK (opv te ob (look tm) o.op) fun v=>put cx.N o.dst v tm K) (hs : StOk cx tm ob nx ρ a w) {next : Act → World → Prop}
    (hn : ∀ tm a w,K tm → StOk cx tm ob nx ρ a w → next a w) : o.wp P a w next Q:=by
  obtain ⟨h1,h2⟩:=vrK_sound h;obtain ⟨hy,hf⟩:=opv_sound hte h1 (fun x _=>hs.look x) hs.obs;exact wp_yld hs hy (h2 hf) hn
theorem mval_of (hs : StOk cx tm ob nx ρ a w) {x : Operand} {ns : List C} (h : cellsA (look tm x) = some ns) (hsure : sureL ns = true) {g : Bool} (hag : g = aggA (look tm x)) : mval g (a.eval x) (a.eval x).cells.toList:=by
  have hr:=hs.look x;cases e : look tm x with
  | one c =>
    rw [e] at h hr hag;cases h;have h0 : c.sure = true:=by
      unfold sureL at hsure;split at hsure
      · assumption
      · cases hsure
    have h1 : (a.eval x).oneCell' = true:=C.sure_one h0 hr;subst hag;show (a.eval x).cells.toList = [a.eval x]
    generalize a.eval x = v at h1
    cases v <;> first|rfl|(simp [Value.oneCell'] at h1)
  | agg cs =>
    rw [e] at hr hag;obtain ⟨vs,hv,_⟩:=hr;subst hag;rw [hv];show Value.agg vs.toArray = .agg (Value.cells (.agg vs.toArray)).toList.toArray;simp [Value.cells]
  | tup _=>rw [e] at h;cases h
  | cond _ _=>rw [e] at h;cases h
theorem aEff_sound (hte : TEok P te) {K : Tm → Obs → Nat → Prop} (h : aEff te cx.N cx.nx0 o tm ob nx K) (hs : StOk cx tm ob nx ρ a w) {next : Act → World → Prop}
    (hn : ∀ tm ob nx ρ a w,K tm ob nx → StOk cx tm ob nx ρ a w → next a w) : o.wp P a w next Q:=by
  obtain ⟨dst,op,ty,pos,after,guard⟩:=o;unfold aEff at h;simp only at h;split at h
  · rename_i t;split at h
    · rename_i i hi;have hok:=yN hte hi;have hz : repL (okOf cx ρ ob) ρ w (litL i.zero) i.zeroV.cells.toList:=by
        rw [hok.zeroCells,litL_eq];exact repL_lits _
      obtain ⟨ρ',w',h1,h2,h3⟩:=box_sound hok hs hz;obtain ⟨tm',h4,h5⟩:=h2.put h h3;refine wp_value (v:=.pointer (some ⟨w.heap.size,0,none⟩)) (w':=w') ?_ (hn _ _ _ _ _ _ h4 h5);unfold execOp;have h6 : (Instr.alloc t true (.tuple #[])).run P w = .ok (.pointer (some ⟨w.heap.size,0,none⟩)) w':=by
        unfold Instr.alloc;simp only [Sem.run_bind,hok.zeroValue,Result.andThen_ok]
        simpa using h1
      simp only [Sem.run_bind,h6,Result.andThen_ok,Sem.run_pure]
    · exact h.elim
  · rename_i t x;split at h
    · rename_i i cs hi hcs;have hok:=yN hte hi;split at h
      · rename_i hsz hsure;have hv:=cells_of hs hcs hsure;obtain ⟨ρ',w',h1,h2,h3⟩:=box_sound hok hs hv;obtain ⟨tm',h4,h5⟩:=h2.put h h3;refine wp_value (v:=.pointer (some ⟨w.heap.size,0,none⟩)) (w':=w') ?_ (hn _ _ _ _ _ _ h4 h5);unfold execOp;have h6 : (Instr.box t (a.eval x)).run P w = .ok (.pointer (some ⟨w.heap.size,0,none⟩)) w':=h1;simp only [Sem.run_bind,h6,Result.andThen_ok,Sem.run_pure]
      · exact h.elim
    · exact h.elim
  · rename_i t d x;split at h
    · rename_i i id off hi hd;have hok:=yN hte hi;have hdr:=hs.look d;rw [hd] at hdr;obtain ⟨b,hρ,hde⟩:=hdr;split at h
      · rename_i T cs ns hg hns;split at h
        · rename_i hsz hle hsure;have hsz:=Nat.eq_of_beq_eq_true hsz;have hle:=Nat.le_of_ble_eq_true hle;simp only [lenC_eq] at hsz hle;have hv:=cells_of hs hns hsure;obtain ⟨w',h1,h2⟩:=store_own hok hs hρ hg hv hsure hsz hle;obtain ⟨tm',h4,h5⟩:=h2.put h (u:=undef) trivial;unfold Oper.wp execOp;simp only [Sem.run_bind,hde,h1,Result.andThen_ok,Sem.run_pure];exact hn _ _ _ _ _ _ h4 h5
        · exact h.elim
      · exact h.elim
    · rename_i i id k n hi hd;have hok:=yN hte hi;have hdr:=hs.look d;rw [hd] at hdr;obtain ⟨b,m,cap,hρ,hde⟩:=hdr;obtain ⟨tm1,ob1,hf,hs1⟩:=frz_sound h hs;clear h
      revert hf
      intro h;split at h
      · rename_i β E R xs ns hg hns;split at h
        · rename_i y hsz hnn hsure hy;have hsz:=Nat.eq_of_beq_eq_true hsz;have hnn:=Nat.eq_of_beq_eq_true hnn;simp only [lenC_eq] at hsz;subst hnn;have hv:=cells_of hs1 hns hsure;obtain ⟨w',h1,h2⟩:=store_vel hok hs1 hρ hg hv hsure hsz hy h.1;obtain ⟨tm',h4,h5⟩:=h2.put h.2 (u:=undef) trivial;unfold Oper.wp execOp;simp only [Sem.run_bind,hde,h1,Result.andThen_ok,Sem.run_pure];exact hn _ _ _ _ _ _ h4 h5
        · exact h.elim
      · exact h.elim
    · rename_i i id k n off hi hd;have hok:=yN hte hi;have hdr:=hs.look d;rw [hd] at hdr;obtain ⟨b,m,cap,hρ,hde⟩:=hdr;obtain ⟨tm1,ob1,hf,hs1⟩:=frz_sound h hs;clear h
      revert hf
      intro h;split at h
      · rename_i β E R xs ns hg hns;split at h
        · rename_i y hsz hnn hle hsure hy;have hsz:=Nat.eq_of_beq_eq_true hsz;have hnn:=Nat.eq_of_beq_eq_true hnn;have hle:=Nat.le_of_ble_eq_true hle;simp only [lenC_eq] at hsz hle;subst hnn;have hv:=cells_of hs1 hns hsure;obtain ⟨w',h1,h2⟩:=store_vof hok hs1 hρ hg hv hsure hsz hle hy h.1;obtain ⟨tm',h4,h5⟩:=h2.put h.2 (u:=undef) trivial;unfold Oper.wp execOp;simp only [Sem.run_bind,hde,h1,Result.andThen_ok,Sem.run_pure];exact hn _ _ _ _ _ _ h4 h5
        · exact h.elim
      · exact h.elim
    · exact h.elim
  · rename_i t n ps;obtain ⟨tm1,ob1,h,hs1⟩:=frz_sound h hs;split at h
    · rename_i β R xs e he;have hr:=lks_rep (ok:=okOf cx ρ ob1) (ρ:=ρ) (w:=w) (lk:=look tm1) (ev:=a.eval) (ps:=ps.toList) (fun p _=>hs1.look p.2);obtain ⟨_,_,hlim,css,h1,h2,h3⟩:=vElems_sound hte he hr;obtain ⟨ρ',h4,h5⟩:=new_vec (E:=e) (R:=R) (xs:=xs) hs1 (below_alloc w _) (fun b hb=>by cases hb;exact ⟨Nat.le_refl _,by simp⟩) ⟨_,_,_,rfl⟩
        (fun ok' hk=>vecOk_new h1 h2 hk (small_max R.n_pos hlim) (heap_new w _))
      obtain ⟨tm',h6,h7⟩:=h4.put h h5;refine wp_value (w':=w.alloc (.cells css.flatten.toArray e)) ?_ (hn _ _ _ _ _ _ h6 h7);unfold execOp;have e1 : (ps.map fun (i,x)=>(i,a.eval x)) = (ps.toList.map fun p=>(p.1,a.eval p.2)).toArray:=by
        apply Array.toList_inj.1;simp
      simp only [e1,Sem.run_bind,h3,Result.andThen_ok,Sem.run_pure]
    · exact h.elim
  · rename_i t l c;split at h
    · rename_i ti hti;have hk:=(yN hte hti).kind;split at h
      · rename_i e he;rw [he] at hk;split at h
        · rename_i ei hei;have hok:=yN hte hei;split at h
          · rename_i α R hrd;split at h
            · rename_i kl n kc m z y hl hc hz hy;split at h
              · rename_i hb;have hb:=Nat.le_of_ble_eq_true hb;obtain ⟨⟨h0,hm,hmx⟩,h⟩:=h;subst hm;obtain ⟨k,rfl⟩:=Int.eq_ofNat_of_zero_le h0;have el : a.eval l = .int kl k:=by have:=hs.look l;rw [hl] at this;exact this
                have ec : a.eval c = .int kc k:=by have:=hs.look c;rw [hc] at this;exact this
                obtain ⟨f,hi,hsz,hby,hzz⟩:=hok.info;have hs1 : ei.size = 1:=by rw [← hok.zlen,hz];rfl
                have hzc : ei.zeroV.cells = #[z]:=by rw [hok.zeroCells,hz]
                have hkm : (ei.bytes : Int) * (k : Int) ≤ 1000 * 1000000:=Int.mul_le_mul (by omega) hmx (by omega) (by decide);have hrun:=run_make (P:=P) w t e f _ hk hi hzz kl kc k k (by omega) (Int.le_refl _) (by rw [hby];omega) (by omega);have hcs : madeCells ei.zeroV.cells ((k : Int).toNat * f.size) = (List.replicate k [z]).flatten.toArray:=by
                  rw [hsz,hs1,Nat.mul_one,Int.toNat_natCast,hzc];apply Array.toList_inj.1;rw [toList_madeCells_one];simp
                rw [hcs] at hrun;simp only [Int.toNat_natCast] at hrun h;obtain ⟨us,r,hv,hR,hr0⟩:=ofL_rep (ok:=okOf cx ρ ob) (ρ:=ρ) (w:=w) R hy (by rw [litL_eq];exact repL_lits ei.zero);have hr0 : r = []:=hr0;subst hr0;rw [hz,List.append_nil] at hv;subst hv;have h2 : ∀ i (h : i < (List.replicate k y).length),R.is (okOf cx ρ ob) w ((List.replicate k [z]).getD i []) (List.replicate k y)[i]:=fun i hi'=>by
                  rw [List.length_replicate] at hi';simp only [List.getElem_replicate,List.getD_eq_getElem?_getD,List.getElem?_replicate,hi',if_true,Option.getD_some];exact hR
                obtain ⟨ρ',h4,h5⟩:=new_vec (E:=e) (R:=R) (xs:=List.replicate k y) (v:=.slice (some ⟨w.heap.size,0,none⟩) k k) hs (below_alloc w (.cells (List.replicate k [z]).flatten.toArray e)) (fun b hb=>by cases hb;exact ⟨Nat.le_refl _,by simp⟩) ⟨_,_,_,rfl⟩
                  (fun ok' hk'=>by
                    have:=vecOk_new (css:=List.replicate k [z]) (e:=e) (by simp) h2 hk' (by rw [List.length_replicate];unfold maxLen;omega) (heap_new w _)
                    rwa [List.length_replicate] at this)
                obtain ⟨tm',h6,h7⟩:=h4.put h h5;refine wp_value (w':=w.alloc (.cells (List.replicate k [z]).flatten.toArray e)) ?_ (hn _ _ _ _ _ _ h6 h7);unfold execOp;simp only [el,ec,Sem.run_bind,hrun,Result.andThen_ok,Sem.run_pure]
              · exact h.elim
            · exact h.elim
          · exact h.elim
        · exact h.elim
      · exact h.elim
    · exact h.elim
  · rename_i t;split at h
    · rename_i ti hti;split at h
      · rename_i kt et hk;split at h
        · rename_i ei hei;split at h
          · rename_i β R hrd;have h1 : (Instr.makeMap t none).run P w = .ok (.map (some w.heap.size)) (w.alloc (.map #[] 0)):=rfl;have h2:=hs.new (v:=.map (some w.heap.size)) (o:=.map ei.k.agg R []) (below_alloc w (.map #[] 0)) (fun b e=>by cases e;exact ⟨Nat.le_refl _,by simp⟩) ⟨_,xJ,#[],0,heap_new w _,trivial⟩;obtain ⟨tm',h3,h4⟩:=h2.put h (u:=.map (some w.heap.size)) ⟨xJ,_,rfl⟩;refine wp_value (v:=.map (some w.heap.size)) (w':=w.alloc (.map #[] 0)) ?_ (hn _ _ _ _ _ _ h3 h4);unfold execOp;simp only [Option.map_none,Sem.run_bind,h1,Result.andThen_ok,Sem.run_pure]
          · exact h.elim
        · exact h.elim
      · exact h.elim
    · exact h.elim
  · rename_i t m k x;split at h
    · rename_i ti hti;have hk0:=(yN hte hti).kind;split at h
      · rename_i kt et e1;rw [e1] at hk0;have ht : P.underlying t = some (.map kt et):=hk0;split at h
        · rename_i ki hki;have hk1:=(yN hte hki).kind;split at h
          · rename_i e2;rw [e2] at hk1;have hkt : P.underlying kt = some (.int .i64):=hk1;obtain ⟨tm1,ob1,hf,hs1⟩:=frz_sound h hs;clear h
            revert hf
            intro h;split at h
            · rename_i id n hm hkk;split at h
              · rename_i β g R es ns hg hns;split at h
                · rename_i y hag hsure hy;have hag:=sameB_eq hag;have hmr:=hs1.look m;rw [hm] at hmr;obtain ⟨r,h1,arr,clock,h2,h3⟩:=getO_is hs1.obs hg;have h4 : ρ id = some (a.eval m):=hmr.1;rw [h1] at h4;have hme : a.eval m = .map (some r):=(Option.some.inj h4).symm;have hke : a.eval k = .int .i64 n:=by have:=hs1.look k;rw [hkk] at this;exact this
                  have hv:=cells_of hs1 hns hsure;have hmv:=mval_of hs1 hns hsure hag;obtain ⟨us,rr,e3,hus,hrr⟩:=ofL_rep R hy hv;have hrr : rr = []:=hrr;rw [hrr,List.append_nil] at e3;rw [e3] at hmv;have hck : (Instr.checkKey false 10000 kt (.int .i64 n)).run P w = .ok () w:=MapKept.run_checkKey hkt (show MapKept.IsKey (.int .i64) (.int .i64 n) from by simp [MapKept.IsKey]) _ _;have fin : ∀ (arr' : Array MapEntry) (clock' : Nat),(Instr.mapUpdate t (.map (some r)) (.int .i64 n) (a.eval x)).run P w = .ok () { w with heap:=w.heap.setIfInBounds r (.map arr' clock') } → MEs g R (okOf cx ρ ob1) w arr'.toList (setM es n y) →
                      ({ dst:=dst,op:=.mapUpdate t m k x,type:=ty,pos:=pos,after:=after,guard:=guard } : Oper).wp P a w next Q:=by
                    intro arr' clock' hrun hme';have hlt : r < w.heap.size:=(Array.getElem?_eq_some_iff.1 h2).1;have hgr : Grew w { w with heap:=w.heap.setIfInBounds r (.map arr' clock') } (blk (ρ id)):=⟨rfl,rfl,rfl,by simp,fun q hq hne=>by
                      show (w.heap.setIfInBounds r _)[q]? = _;rw [Array.getElem?_setIfInBounds_ne (fun e=>hne (by rw [h1,← e];rfl))]⟩
                    have hkp : xK (okOf cx ρ ob1) (okOf cx ρ ob1) w { w with heap:=w.heap.setIfInBounds r (.map arr' clock') }:=fun _ b hb hl=>⟨hb,hgr.block b hl (fun e=>hb.2 _ (yM hg) e.symm)⟩
                    have hw:=hs1.write (o':=.map g R (setM es n y)) hg hgr (by simp) ⟨r,h1,arr',clock',by show (w.heap.setIfInBounds r _)[r]? = _;simp [hlt],hme'.imp fun _ _ h=>R.kept hkp h⟩;obtain ⟨tm',h5,h6⟩:=hw.put h (u:=undef) trivial;unfold Oper.wp execOp;simp only [Sem.run_bind,hme,hke,hrun,Result.andThen_ok,Sem.run_pure];exact hn _ _ _ _ _ _ h5 h6
                  rcases findNow_MEs (n:=n) 0 h3 with ⟨_,g2,g3⟩|⟨_,cs',v',j,m0,_,g2,_,_,g5,g6,g7⟩
                  · refine fin (arr.push { key:=.int .i64 n,val:=a.eval x,born:=clock }) (clock + 1) ?_ ?_
                    · simp only [Instr.mapUpdate,Sem.run_bind,run_underlying ht,Result.andThen_ok,MapKept.run_getObj_map h2,hck,run_findKey hkt g2];exact MapKept.run_setObj_map _ h2
                    · rw [Array.toList_push];exact g3 _ y rfl ⟨us,hmv,hus⟩
                  · have hj : arr[j]? = some m0:=by rw [← g5,Array.getElem?_toList]
                    refine fin (arr.modify (0 + j) fun e=>{ e with key:=.int .i64 n,val:=a.eval x }) clock ?_ ?_
                    · have hks : (Instr.keyThatStays (.int .i64 n) (.int .i64 n)).run P w = .ok (.int .i64 n) w:=by
                        unfold Instr.keyThatStays;rw [if_pos (by simp [Instr.sameBits])];rfl
                      simp only [Instr.mapUpdate,Sem.run_bind,run_underlying ht,Result.andThen_ok,MapKept.run_getObj_map h2,hck,run_findKey hkt g2,Nat.zero_add,hj,Option.map_some,Option.getD_some,g6,hks];exact MapKept.run_setObj_map _ h2
                    · rw [Nat.zero_add,Array.toList_modify];exact g7 _ y fun m'=>⟨rfl,us,hmv,hus⟩
                · exact h.elim
              · exact h.elim
            · exact h.elim
          · exact h.elim
        · exact h.elim
      · exact h.elim
    · exact h.elim
  · exact h.elim
theorem sure1_sound {r : A} {K : Prop} (h : sure1 r K) : r.no1 = true ∧ K:=by
  unfold sure1 at h;split at h
  · rename_i e;exact ⟨e,h⟩
  · exact h.elim
theorem sureA_sound {as : List A} {r : A} {K : Prop} (h : sureA as r K) : (kB as = true ∨ r.no1 = true) ∧ K:=by
  unfold sureA at h;split at h
  · rename_i e;exact ⟨.inl e,h⟩
  · exact ⟨.inr (sure1_sound h).1,(sure1_sound h).2⟩
theorem aop_sound (hte : TEok P te) {K : Tm → Obs → Nat → Prop} (h : aop P te cx.N cx.nx0 o tm ob nx K) (hs : StOk cx tm ob nx ρ a w) {next : Act → World → Prop}
    (hn : ∀ tm ob nx ρ a w,K tm ob nx → StOk cx tm ob nx ρ a w → next a w) : o.wp P a w next Q:=by
  unfold aop at h;split at h
  · rename_i args ts hop;split at h
    · rename_i s x t t' hargs hts;split at h
      · rename_i hb;exact aApp_sound hte h hs (fun v w' hrun hnx=>wp_value (run_append_op hop hargs hts hb hrun) hnx) hn
      · exact aAppS_sound hte h hs (fun v w' hrun hnx=>wp_value (run_appendS_op hop hargs hts hrun) hnx) hn
    · exact h.elim
  · rename_i f args ts hop;rcases h with h|h|h|h
    · obtain ⟨tm1,ob1,h,hs1⟩:=frz_sound h hs;unfold callK at h;split at h
      · rename_i g caps ht;obtain ⟨hcl,r,hc,hk⟩:=h;obtain ⟨hno,hk⟩:=sureA_sound hk;refine call_sound hs1 hop (fun x _=>hs1.look x) ht hcl hc hno (fun u w' hs' hr=>?_);obtain ⟨tm',h1,h2⟩:=hs'.put hk hr;exact hn _ _ _ _ _ _ h1 h2
      · exact h.elim
    · obtain ⟨F,h⟩:=h;obtain ⟨tm1,ob1,h,hs1⟩:=frz_sound h hs;split at h
      · rename_i g caps ht;obtain ⟨L,as,obc,r,obc',m',hc,he,hl,hd,hk⟩:=h;obtain ⟨cs,hf,hcs⟩:=tgt_rep ht (hs1.look f);unfold Oper.wp;rw [run_static hop hf hc.1];have hargs:=appA_rep (mapL_rep (w:=w) (lk:=look tm1) (xs:=args.toList) (fun x _=>hs1.look x)) hcs;rw [← he] at hargs;refine (lend_sound hs1 hc hargs hl hd).mono ?_
        rintro e w' ⟨u,ρ',rfl,hs2,hr⟩
        obtain ⟨tm',h1,h2⟩:=hs2.put hk hr;exact hn _ _ _ _ _ _ h1 h2
      · exact h.elim
    · unfold callK at h;split at h
      · rename_i g caps ht;obtain ⟨hcl,r,hc,hk⟩:=h;obtain ⟨hno,hk⟩:=sureA_sound hk;refine call_sound hs hop (fun x _=>hs.look x) ht hcl hc hno (fun u w' hs' hr=>?_);obtain ⟨tm',h1,h2⟩:=hs'.put hk hr;exact hn _ _ _ _ _ _ h1 h2
      · exact h.elim
    · unfold lendX at h;split at h
      · rename_i g caps ht;obtain ⟨L,ps,as,obc,r,obc',m',hc,he,hl,hd,hk⟩:=h;obtain ⟨cs,hf,hcs⟩:=tgt_rep ht (hs.look f);unfold Oper.wp;rw [run_static hop hf hc.1];have hargs:=borAs_rep (te:=te) (L:=L) hs.obs (appA_rep (mapL_rep (w:=w) (lk:=look tm) (xs:=args.toList) (fun x _=>hs.look x)) hcs);rw [← he] at hargs;have hd3 : ndN L = true ∧ no1Ob obc' = true ∧ r.no1 = true:=by
          split at hd
          · rename_i h1 h2 h3;exact ⟨h1,h2,h3⟩
          · cases hd
        refine (lend_gen (Bor ob ρ L) hs hc hargs hl hd3.1 (fun b hb=>hb) (.inr hd3.2) fun j i o hv h1 h2=>by
          have:=bad_ofX (ps:=ps) hl j i o hv h1 (by rw [Nat.zero_add];exact h2)
          rwa [Nat.zero_add] at this).mono ?_
        rintro e w' ⟨u,ρ',rfl,hs2,hr⟩
        obtain ⟨tm',h1,h2⟩:=hs2.put hk hr;exact hn _ _ _ _ _ _ h1 h2
      · exact h.elim
  · exact aEff_sound hte h hs hn
  · exact aEff_sound hte h hs hn
  · exact aEff_sound hte h hs hn
  · exact aEff_sound hte h hs hn
  · exact aEff_sound hte h hs hn
  · exact aEff_sound hte h hs hn
  · exact aEff_sound hte h hs hn
  · exact opv_wp hte h hs (fun tm a w hk hs=>hn _ _ _ _ _ _ hk hs)
theorem xN : ∀ {xs : List Operand},wereL tm xs → ∀ x ∈ xs,(look tm x).were
  | [],_,_,hx=>by cases hx
  | y :: xs,h,x,hx=>by
    unfold wereL at h;split at h
    · rename_i e;rcases List.mem_cons.1 hx with hx|hx
      · subst hx;rw [e];exact h.1
      · exact xN h.2 x hx
    · rename_i hne;rcases List.mem_cons.1 hx with hx|hx
      · subst hx;cases e : look tm x with
        | cond b c=>exact absurd e (hne b c)
        | _=>trivial
      · exact xN h x hx
theorem aopG_sound (hte : TEok P te) {q : Bool} {K : Tm → Prop} (h : aopG P te cx.N o q tm ob K) (hs : StOk cx tm ob nx ρ a w) {next : Act → World → Prop}
    (hn : ∀ tm a w,K tm → StOk cx tm ob nx ρ a w → next a w) : (q = true → o.wp P a w next Q) ∧ (q = false → next (a.put o.dst undef) w):=by
  have skip : ∀ {v : A},put cx.N o.dst (.cond q v) tm K → q = false → next (a.put o.dst undef) w:=by
    intro v hp hq;obtain ⟨tm',h1,h2⟩:=hs.put hp (u:=undef) ⟨fun e=>by (rw [hq] at e;cases e),fun _=>rfl⟩;exact hn _ _ _ h1 h2
  unfold aopG at h;split at h
  · rename_i f args ts hop;split at h
    · rename_i g caps ht;obtain ⟨hcl,r,hc,hp⟩:=h;obtain ⟨hno,hp⟩:=sureA_sound hp;refine ⟨fun hq=>?_,skip hp⟩;obtain ⟨hw,hc⟩:=hc hq;refine call_sound (lk:=bareLk tm) hs hop (fun x hx=>A.bare_rep (xN hw x hx) (hs.look x)) ht hcl hc hno (fun u w' hs' hr=>?_);obtain ⟨tm',h1,h2⟩:=hs'.put hp (u:=u) ⟨fun _=>hr,fun e=>by rw [hq] at e;cases e⟩;exact hn _ _ _ h1 h2
    · exact h.elim
  · rename_i c x y hop;have yes : ∀ {v : Vr},v = vPick (bareLk tm c) (look tm x) (look tm y) → v.obl → wereL tm [c] → q = true → put cx.N o.dst (.cond q v.val) tm K → o.wp P a w next Q:=by
      intro v hv ho hw hq hp;subst hv;have hpk:=vPick_sound (P:=P) ho (A.bare_rep (xN hw c (by simp)) (hs.look c)) (hs.look x) (hs.look y);obtain ⟨⟨u,w',h1,h2,h3⟩,_⟩:=Yld.of (o:=o) (ev:=a.eval) (by
        unfold execOp;simp only [hop,bind_assoc]
        congr 1
        funext p
        cases p <;> rfl) hpk
      exact wp_yld (v:=.cond q (vPick (bareLk tm c) (look tm x) (look tm y)).val) hs ⟨u,w',h1,h2,fun _=>h3,fun e=>by rw [hq] at e;cases e⟩ hp hn
    split at h
    · rename_i v e;exact ⟨fun hq=>yes (v:=.ok v) e.symm trivial (h.1 hq) hq h.2,skip h.2⟩
    · rename_i p v e;exact ⟨fun hq=>yes (v:=.need p v) e.symm (h.1 hq).2 (h.1 hq).1 hq h.2,skip h.2⟩
    · exact h.elim
  · have yes : ∀ {v : Vr},v = opv te ob (bareLk tm) o.op → v.obl → wereL tm o.op.operands.toList → q = true → put cx.N o.dst (.cond q v.val) tm K → o.wp P a w next Q:=by
      intro v hv ho hw hq hp;subst hv;obtain ⟨⟨u,w',h1,h2,h3⟩,_⟩:=opv_sound hte ho (fun x hx=>A.bare_rep (xN hw x hx) (hs.look x)) hs.obs;exact wp_yld (v:=.cond q (opv te ob (bareLk tm) o.op).val) hs ⟨u,w',h1,h2,fun _=>h3,fun e=>by rw [hq] at e;cases e⟩ hp hn
    split at h
    · rename_i v e;exact ⟨fun hq=>yes (v:=.ok v) e.symm trivial (h.1 hq) hq h.2,skip h.2⟩
    · rename_i p v e;exact ⟨fun hq=>yes (v:=.need p v) e.symm (h.1 hq).2 (h.1 hq).1 hq h.2,skip h.2⟩
    · rename_i p v e;exact ⟨fun hq=>yes (v:=.know p v) e.symm trivial (h.1 hq) hq h.2,skip h.2⟩
    · exact h.elim
theorem dstAt_eq : ∀ {l : List Oper} {j d : Nat},dstAt l j = some d → ∃ o,l[j]? = some o ∧ o.dst = some d
  | [],_,_,h=>by cases h
  | o :: _,0,_,h=>⟨o,rfl,h⟩
  | _ :: r,n + 1,_,h=>by
    obtain ⟨o,h1,h2⟩:=dstAt_eq (l:=r) h;exact ⟨o,by simpa using h1,h2⟩
theorem wanted_at (hs : StOk cx tm ob nx ρ a w) {j d : Nat} {want b : Bool} (hg : o.guard = some (j,want)) (hd : dstAt ops.toList j = some d) (hlt : Nat.ble (d + 1) cx.N = true) (hb : get tm d = .one (.lit (.bool b))) :
    Region.wanted o (yielded ops a.tmps) = gq want b:=by
  obtain ⟨og,h1,h2⟩:=dstAt_eq hd;have h1' : ops[j]? = some og:=by simpa using h1
  have hr:=hs.tms d;rw [hb] at hr;have hr : a.tmps.getD d undef = .bool b:=hr;have hlt' : d < a.tmps.size:=by rw [hs.size];exact Nat.lt_of_succ_le (Nat.le_of_ble_eq_true hlt)
  have hv : a.tmps[d]? = some (.bool b):=by
    rw [← hr,Array.getD_eq_getD_getElem?,Array.getElem?_eq_getElem hlt'];rfl
  have hy : yielded ops a.tmps j = some b:=by
    unfold yielded;rw [h1'];simp only [Option.bind_some,h2,hv]
  unfold Region.wanted;rw [hg];simp only [hy];cases want <;> cases b <;> rfl
theorem wanted_at' (hs : StOk cx tm ob nx ρ a w) {j d : Nat} {want b p : Bool} (hg : o.guard = some (j,want)) (hd : dstAt ops.toList j = some d) (hlt : Nat.ble (d + 1) cx.N = true) (hb : get tm d = .cond p (.one (.lit (.bool b)))) :
    Region.wanted o (yielded ops a.tmps) = (p && gq want b):=by
  obtain ⟨og,h1,h2⟩:=dstAt_eq hd;have h1' : ops[j]? = some og:=by simpa using h1
  have hr:=hs.tms d;rw [hb] at hr;have hlt' : d < a.tmps.size:=by rw [hs.size];exact Nat.lt_of_succ_le (Nat.le_of_ble_eq_true hlt)
  have hv : a.tmps[d]? = some (a.tmps.getD d undef):=by
    rw [Array.getD_eq_getD_getElem?,Array.getElem?_eq_getElem hlt'];rfl
  unfold Region.wanted yielded;rw [hg];simp only [h1',Option.bind_some,h2,hv];cases p with
  | true =>
    rw [show a.tmps.getD d undef = .bool b from hr.1 rfl];cases want <;> cases b <;> rfl
  | false =>
    rw [hr.2 rfl];rfl
theorem aop_plain {o : Oper} {K : Tm → Obs → Nat → Prop} {N nx0 : Nat} (h : aop P te N nx0 o tm ob nx K) : ∀ c,o.op ≠ .defer c:=by
  intro c e;unfold aop at h;rw [e] at h;exact h
theorem aopG_plain {o : Oper} {q : Bool} {K : Tm → Prop} {N : Nat} (h : aopG P te N o q tm ob K) : ∀ c,o.op ≠ .defer c:=by
  intro c e;unfold aopG at h;rw [e] at h;exact h
theorem bareOps_st (hs : StOk cx tm ob nx ρ a w) : ∀ {xs : List Operand},(∀ x ∈ xs,(look tm x).were) → StOk cx (bareOps tm xs) ob nx ρ a w
  | [],_=>hs
  | x :: r,h=>by
    have ih:=bareOps_st hs (xs:=r) fun y hy=>h y (List.mem_cons_of_mem _ hy)
    cases x with
    | tmp t =>
      refine ih.act rfl rfl fun i=>?_
      show (get ((t,(get tm t).bare) :: bareOps tm r) i).rep _ _ _ _;unfold get;simp only;split
      · rename_i e;have e:=Nat.eq_of_beq_eq_true e;subst e;exact A.bare_rep (h (.tmp t) List.mem_cons_self) (hs.tms t)
      · exact ih.tms i
    | const v=>exact ih
    | global g=>exact ih
    | func f=>exact ih
theorem aopQ_sound (hte : TEok P te) {q : Bool} {K : Tm → Obs → Nat → Prop} (h : aopQ P te cx.N cx.nx0 o q tm ob nx K) (hs : StOk cx tm ob nx ρ a w) {next : Act → World → Prop}
    (hn : ∀ tm ob nx ρ a w,K tm ob nx → StOk cx tm ob nx ρ a w → next a w) : (q = true → o.wp P a w next Q) ∧ (q = false → next (a.put o.dst undef) w):=by
  unfold aopQ at h;split at h
  · rcases h with h|⟨hq,hw,h⟩
    · exact aopG_sound hte h hs fun tm a w hk hs=>hn _ _ _ _ _ _ hk hs
    · exact ⟨fun _=>aop_sound hte h (bareOps_st hs (xN hw)) hn,fun e=>by rw [hq] at e;cases e⟩
  · obtain ⟨hq,hw,h⟩:=h;exact ⟨fun _=>aop_sound hte h (bareOps_st hs (xN hw)) hn,fun e=>by rw [hq] at e;cases e⟩
  · exact aopG_sound hte h hs fun tm a w hk hs=>hn _ _ _ _ _ _ hk hs
theorem aopQ_plain {o : Oper} {q : Bool} {K : Tm → Obs → Nat → Prop} {N nx0 : Nat} (h : aopQ P te N nx0 o q tm ob nx K) : ∀ c,o.op ≠ .defer c:=by
  unfold aopQ at h;split at h
  · rename_i e;intro c e2;rw [e] at e2;cases e2
  · rename_i e;intro c e2;rw [e] at e2;cases e2
  · exact aopG_plain h
theorem awp_rest {rd : Option Nat} {n : Nat} (hte : TEok P te) (ops : Array Oper) (rest : List Oper) : ∀ (l : List Oper) {tm : Tm} {ob : Obs} {nx : Nat} {K : Tm → Obs → Nat → Prop},awp P te cx.N cx.nx0 ops.toList l tm ob nx K →
    ∀ {ρ : Nat → Option Value} {a : Act} {w : World},StOk cx tm ob nx ρ a w → ∀ {Q : Exit → Act → World → Prop},(∀ tm ob nx ρ a w,K tm ob nx → StOk cx tm ob nx ρ a w → wpListIn (FR rd) n P ops Q rest a w) → wpListIn (FR rd) n P ops Q (l ++ rest) a w
  | [],_,_,_,_,h,_,_,_,hs,_,hQ=>hQ _ _ _ _ _ _ h hs
  | o :: l,tm,ob,nx,K,h,ρ,a,w,hs,Q,hQ=>by
    unfold awp at h;split at h
    · rename_i hg;exact wpListIn_of hg (aop_plain h) (aop_sound hte h hs (fun tm ob nx ρ a w hk hs=>awp_rest hte ops rest l hk hs hQ))
    · rename_i j want hg;split at h
      · rename_i d hd;split at h
        · rename_i b hlt hb;have hw:=wanted_at hs hg hd hlt hb;obtain ⟨h1,h2⟩:=aopQ_sound (Q:=Q) (next:=wpListIn (FR rd) n P ops Q (l ++ rest)) hte h hs (fun tm ob nx ρ a w hk hs=>awp_rest hte ops rest l hk hs hQ);rw [List.cons_append];unfold wpListIn;rw [hw];split
          · rename_i e;exact Oper.lift (aopQ_plain h) (h1 e)
          · rename_i e;exact ⟨fun _ _=>trivial,h2 (by simpa using e)⟩
        · rename_i p b hlt hb;have hw:=wanted_at' hs hg hd hlt hb;obtain ⟨h1,h2⟩:=aopQ_sound (Q:=Q) (next:=wpListIn (FR rd) n P ops Q (l ++ rest)) hte h hs (fun tm ob nx ρ a w hk hs=>awp_rest hte ops rest l hk hs hQ);rw [List.cons_append];unfold wpListIn;rw [hw];split
          · rename_i e;exact Oper.lift (aopQ_plain h) (h1 e)
          · rename_i e;exact ⟨fun _ _=>trivial,h2 (by simpa using e)⟩
        · exact h.elim
      · exact h.elim
theorem awp_sound {rd : Option Nat} {n : Nat} (hte : TEok P te) (ops : Array Oper) (l : List Oper) {tm : Tm} {ob : Obs} {nx : Nat} {K : Tm → Obs → Nat → Prop} (h : awp P te cx.N cx.nx0 ops.toList l tm ob nx K)
    {ρ : Nat → Option Value} {a : Act} {w : World} (hs : StOk cx tm ob nx ρ a w) {Q : Exit → Act → World → Prop} (hQ : ∀ tm ob nx ρ a w,K tm ob nx → StOk cx tm ob nx ρ a w → Q .normal a w) : wpListIn (FR rd) n P ops Q l a w:=by
  have:=awp_rest (rd:=rd) (n:=n) hte ops [] l h hs (Q:=Q) hQ
  rwa [List.append_nil] at this
end
def stepD (P : Program) (te : List (TypeId × TyI)) (o : Oper) (tm : Tm) (ob : Obs) (K : A → Prop) : Prop :=
  match o.op with
  | .call { callee:=.value f,args,argTypes:=_ }=>callK P te ob (look tm) f args.toList K
  | op=>match opv te ob (look tm) op with
    | .ok v=>K v
    | .need p v=>p ∧ K v
    | .know _ v=>K v
    | .bad=>False
def putD (N : Nat) (d : Option Nat) (v : A) (tm : Tm) (K : Tm → Prop) : Prop:=put N d v tm K
def awpD (P : Program) (te : List (TypeId × TyI)) (N : Nat) (all : List Oper) : List Oper → Tm → Obs → (Tm → Prop) → Prop
  | [],tm,_,K=>K tm
  | o :: rest,tm,ob,K=>match o.guard with
    | none=>stepD P te o tm ob fun v=>put N o.dst v tm fun tm=>awpD P te N all rest tm ob K
    | some (j,want)=>match dstAt all j with
      | some d=>match Nat.ble (d + 1) N,get tm d with
        | true,.one (.lit (.bool b))=>aopG P te N o (gq want b) tm ob fun tm=>awpD P te N all rest tm ob K
        | true,.cond p (.one (.lit (.bool b)))=>aopG P te N o (p && gq want b) tm ob fun tm=>awpD P te N all rest tm ob K
        | _,_=>False
      | none=>False
def putT (d : Option Nat) (v : A) (tm : Tm) : Tm:=match d with
  | none=>tm
  | some d=>(d,v) :: tm
theorem put_putT {N : Nat} {d : Option Nat} {v : A} {tm : Tm} {K : Tm → Prop} (h : put N d v tm K) : K (putT d v tm) ∧ ∀ i,d = some i → i < N:=by
  unfold put at h;cases d with
  | none=>exact ⟨h,fun i hi=>by cases hi⟩
  | some d =>
    simp only at h;split at h
    · rename_i hlt;exact ⟨h,fun i hi=>by cases hi;exact Nat.lt_of_succ_le (Nat.le_of_ble_eq_true hlt)⟩
    · exact h.elim
section
variable (P : Program) (cx : Cx) (ob : Obs) (nx : Nat) (ops : Array Oper) (md : Region.Mode) (tmF : Tm)
def Does (o : Oper) (tm : Tm) (v : A) : Prop :=
  ∀ ρ a w,StOk cx [] ob nx ρ a w → (∀ t ∈ o.looksAt ops,(get tm t).rep (okOf cx ρ ob) ρ w (a.tmps.getD t undef)) → ∀ (K : Act → World → Prop) (Q : Exit → Act → World → Prop),
    (∀ u w',Below w.heap.size w w' → v.rep (okOf cx ρ ob) ρ w' u → K (a.put o.dst u) w') → if Region.wanted o (yielded ops a.tmps) then o.wp P a w K Q else K (a.put o.dst undef) w
def Eqv (tm tm' : Tm) : Prop:=∀ i,get tm i = get tm' i
def qA (i : Nat) (K : Tm → Prop) (tm : Tm) : Prop :=
  match ops[i]? with
  | none=>K tm
  | some o=>∃ v,Does P cx ob nx ops o tm v ∧ (∀ d,o.dst = some d → d < cx.N) ∧ K (putT o.dst v tm)
def anyA : Nat → Array Bool → Tm → Prop
  | 0,listed,tm=>Region.ready md ops listed = [] ∧ Eqv tm tmF
  | fuel + 1,listed,tm=>(Region.ready md ops listed = [] → Eqv tm tmF) ∧ ∀ i ∈ Region.ready md ops listed,qA P cx ob nx ops i (anyA fuel (listed.setIfInBounds i true)) tm
def wpA : List Oper → Tm → Prop
  | [],tm=>Eqv tm tmF
  | o :: l,tm=>∃ v,Does P cx ob nx ops o tm v ∧ (∀ d,o.dst = some d → d < cx.N) ∧ wpA l (putT o.dst v tm)
variable {P cx ob nx ops md tmF}
theorem Does.congr {o : Oper} {tm tm' : Tm} {v : A} (h : Does P cx ob nx ops o tm v) (he : ∀ t ∈ o.looksAt ops,get tm t = get tm' t) : Does P cx ob nx ops o tm' v :=
  fun ρ a w hs hl=>h ρ a w hs fun t ht=>by rw [he t ht];exact hl t ht
theorem get_putT_ne {d : Option Nat} {v : A} {tm : Tm} {i : Nat} (h : d ≠ some i) : get (putT d v tm) i = get tm i:=by
  cases d with
  | none=>rfl
  | some d =>
    show get ((d,v) :: tm) i = _;unfold get;split
    · rename_i e;have e:=Nat.eq_of_beq_eq_true e;simp only at e;exact absurd (by rw [e]) h
    · cases tm <;> rfl
theorem get_putT_eq {d : Nat} {v : A} {tm : Tm} : get (putT (some d) v tm) d = v:=by
  show get ((d,v) :: tm) d = v;unfold get;simp
theorem Eqv.put {tm tm' : Tm} (h : Eqv tm tm') (d : Option Nat) (v : A) : Eqv (putT d v tm) (putT d v tm'):=by
  intro i
  by_cases e : d = some i
  · subst e;rw [get_putT_eq,get_putT_eq]
  · rw [get_putT_ne e,get_putT_ne e];exact h i
theorem Eqv.comm {tm : Tm} {d d' : Option Nat} {v v' : A} (h : ∀ i,d = some i → d' ≠ some i) : Eqv (putT d v (putT d' v' tm)) (putT d' v' (putT d v tm)):=by
  intro i
  by_cases e : d = some i
  · subst e;rw [get_putT_eq,get_putT_ne (h i rfl),get_putT_eq]
  · rw [get_putT_ne e]
    by_cases e' : d' = some i
    · subst e';rw [get_putT_eq,get_putT_eq]
    · rw [get_putT_ne e',get_putT_ne e',get_putT_ne e]
theorem qA_mono {i : Nat} {K K' : Tm → Prop} {tm : Tm} (h : ∀ tm,K tm → K' tm) (hq : qA P cx ob nx ops i K tm) : qA P cx ob nx ops i K' tm:=by
  unfold qA at *;split
  · rename_i e;rw [e] at hq;exact h _ hq
  · rename_i o e;rw [e] at hq;obtain ⟨v,h1,h2,h3⟩:=hq;exact ⟨v,h1,h2,h _ h3⟩
theorem anyA_eqv : ∀ (fuel : Nat) {listed : Array Bool} {tm tm' : Tm},Eqv tm tm' → anyA P cx ob nx ops md tmF fuel listed tm → anyA P cx ob nx ops md tmF fuel listed tm'
  | 0,_,_,_,he,h=>⟨h.1,fun i=>(he i).symm.trans (h.2 i)⟩
  | fuel + 1,listed,tm,tm',he,h=>by
    refine ⟨fun h0 i=>(he i).symm.trans (h.1 h0 i),fun i hi=>?_⟩;have:=h.2 i hi;unfold qA at *;split
    · rename_i e;rw [e] at this;exact anyA_eqv fuel he this
    · rename_i o e;rw [e] at this;obtain ⟨v,h1,h2,h3⟩:=this;exact ⟨v,h1.congr (fun t _=>he t),h2,anyA_eqv fuel (he.put _ _) h3⟩
theorem qA_put {j : Nat} {oi oj : Oper} {v : A} (hj : ops[j]? = some oj) (hap : oi.apart ops oj = true) {K : Tm → Prop} (hK : ∀ tm tm',Eqv tm tm' → K tm → K tm') {tm : Tm} (hy : Does P cx ob nx ops oi tm v)
    (h : qA P cx ob nx ops j K (putT oi.dst v tm)) : qA P cx ob nx ops j (fun tm'=>Does P cx ob nx ops oi tm' v ∧ K (putT oi.dst v tm')) tm:=by
  obtain ⟨h1,h2,h3⟩:=Oper.apart_spec hap;unfold qA at *;rw [hj] at h ⊢;obtain ⟨u,g1,g2,g3⟩:=h;refine ⟨u,g1.congr (fun t ht=>get_putT_ne (fun e=>h1 t e ht)),g2,hy.congr (fun t ht=>(get_putT_ne (fun e=>h3 t e ht)).symm),hK _ _ (Eqv.comm fun i e e'=>h2 i e' e) g3⟩
theorem anyA_first {i : Nat} {oi : Oper} {v : A} (hi : ops[i]? = some oi) (hd : ∀ d,oi.dst = some d → d < cx.N) : ∀ (fuel : Nat) (listed : Array Bool) (tm : Tm),
    (∀ j oj,ops[j]? = some oj → j ≠ i → listed.getD j true = false → (∀ e ∈ oj.after,Region.binds md e = true → e.on ≠ i) → oi.apart ops oj = true) →
    i ∈ Region.ready md ops listed → Does P cx ob nx ops oi tm v → anyA P cx ob nx ops md tmF fuel (listed.setIfInBounds i true) (putT oi.dst v tm) → anyA P cx ob nx ops md tmF (fuel + 1) listed tm:=by
  have own : ∀ {K : Tm → Prop} {tm : Tm},Does P cx ob nx ops oi tm v → K (putT oi.dst v tm) → qA P cx ob nx ops i K tm:=by
    intro K tm hy hk;unfold qA;rw [hi];exact ⟨v,hy,hd,hk⟩
  intro fuel
  induction fuel with
  | zero =>
    intro listed tm _ hr hy H;refine ⟨fun h=>(by rw [h] at hr;cases hr),fun j hj=>?_⟩
    by_cases hji : j = i
    · subst hji;exact own hy H
    · have:=ready_mono hj hji;rw [H.1] at this;cases this
  | succ fuel ih =>
    intro listed tm hfree hr hy H;refine ⟨fun h=>(by rw [h] at hr;cases hr),fun j hj=>?_⟩
    by_cases hji : j = i
    · subst hji;exact own hy H
    · have h1:=H.2 j (ready_mono hj hji);obtain ⟨hjun,oj,hoj,hall⟩:=mem_ready.1 hj;have hnot : ∀ e ∈ oj.after,Region.binds md e = true → e.on ≠ i:=fun e he hb heq=>by
        have h1:=hall e he hb;have h0:=(mem_ready.1 hr).1;rw [heq] at h1;rcases Nat.lt_or_ge i listed.size with h'|h'
        · simp [h'] at h0 h1;rw [h0] at h1;cases h1
        · simp [Array.getElem?_eq_none h'] at h1
      have h2:=qA_put hoj (hfree j oj hoj hji hjun hnot) (fun tm tm' he hk=>anyA_eqv fuel he hk) hy h1;have hfree' : ∀ k ok,ops[k]? = some ok → k ≠ i → (listed.setIfInBounds j true).getD k true = false →
          (∀ e ∈ ok.after,Region.binds md e = true → e.on ≠ i) → oi.apart ops ok = true:=fun k ok hk hki hun hno=>by
        refine hfree k ok hk hki ?_ hno
        by_cases hjk : j = k
        · subst hjk;exact hjun
        · rw [getD_set_ne true hjk] at hun;exact hun
      refine qA_mono (fun tm' h3=>ih (listed.setIfInBounds j true) tm' hfree' (ready_mono hr (Ne.symm hji)) h3.1 ?_) h2;rw [Array.setIfInBounds_comm _ _ hji];exact h3.2
theorem anyA_lex : ∀ (l : List Oper) (k : Nat) (listed : Array Bool) (tm : Tm),(∀ j : Nat,l[j]? = ops[k + j]?) → Region.lexFrom md ops l.length k listed = true → wpA P cx ob nx ops tmF l tm → anyA P cx ob nx ops md tmF l.length listed tm
  | [],_,_,_,_,hB,h=>⟨by simpa [Region.lexFrom] using hB,h⟩
  | o :: l,k,listed,tm,hl,hB,h=>by
    have h0 : ops[k]? = some o:=by simpa using (hl 0).symm
    simp only [List.length_cons,Region.lexFrom,Bool.and_eq_true] at hB;obtain ⟨⟨hr,hf⟩,hB'⟩:=hB;obtain ⟨v,hy,hd,hK⟩:=h;exact anyA_first h0 hd l.length listed tm (Region.free_spec h0 hf) (by simpa using hr) hy
      (anyA_lex l (k + 1) _ _ (fun j=>by have:=hl (j + 1);simpa [Nat.add_assoc,Nat.add_comm 1 j] using this) hB' hK)
theorem StOk.putT' {tm : Tm} {ρ : Nat → Option Value} {a : Act} {w w' : World} (hs : StOk cx tm ob nx ρ a w) (hb : Below w.heap.size w w') {d : Option Nat} (hd : ∀ i,d = some i → i < cx.N) {v : A} {u : Value} (hr : v.rep (okOf cx ρ ob) ρ w' u) :
    StOk cx (putT d v tm) ob nx ρ (a.put d u) w':=by
  have hs':=hs.below hb;cases d with
  | none=>exact hs'
  | some d =>
    have hp : Ab.put cx.N (some d) v tm (fun tm'=>tm' = (d,v) :: tm):=by
      unfold Ab.put;simp only;have : Nat.ble (d + 1) cx.N = true:=Nat.ble_eq_true_of_le (hd d rfl);rw [this];trivial
    obtain ⟨tm',h1,h2⟩:=hs'.put hp hr;subst h1;exact h2
theorem anyA_any {Q : Exit → Act → World → Prop} (hQ : ∀ ρ a w,StOk cx tmF ob nx ρ a w → Q .normal a w) : ∀ (fuel : Nat) (listed : Array Bool) (tm : Tm) (ρ : Nat → Option Value) (a : Act) (w : World),anyA P cx ob nx ops md tmF fuel listed tm → StOk cx tm ob nx ρ a w →
    wpAny P md ops Q fuel listed a w:=by
  have fin : ∀ {tm : Tm} {ρ : Nat → Option Value} {a : Act} {w : World},Eqv tm tmF → StOk cx tm ob nx ρ a w → Q .normal a w:=fun he hs=>hQ _ _ _ (hs.act rfl rfl fun i=>by rw [← he i];exact hs.tms i)
  intro fuel
  induction fuel with
  | zero=>intro listed tm ρ a w h hs;exact ⟨h.1,fin h.2 hs⟩
  | succ fuel ih =>
    intro listed tm ρ a w h hs;refine ⟨fun h0=>fin (h.1 h0) hs,fun i hi=>?_⟩;have:=h.2 i hi;unfold qA at this;unfold wpOp;split
    · rename_i e;rw [e] at this;exact ih _ _ ρ a w this hs
    · rename_i o e;rw [e] at this;obtain ⟨v,h1,h2,h3⟩:=this;have h4:=h1 ρ a w (hs.act rfl rfl fun i=>trivial) (fun t _=>hs.tms t) (wpAny P md ops Q fuel (listed.setIfInBounds i true)) Q (fun u w' hb hr=>ih _ _ ρ _ w' h3 (hs.putT' hb h2 hr));split
      · rename_i hw;rw [if_pos hw] at h4;exact .inl h4
      · rename_i hw;rw [if_neg hw] at h4;exact h4
theorem looks_op {o : Oper} {tm : Tm} {ρ : Nat → Option Value} {a : Act} {w : World} (hl : ∀ t ∈ o.looksAt ops,(get tm t).rep (okOf cx ρ ob) ρ w (a.tmps.getD t undef)) : ∀ x ∈ o.op.operands.toList,(look tm x).rep (okOf cx ρ ob) ρ w (a.eval x):=by
  intro x hx;cases x with
  | tmp t=>exact hl t (by
      unfold Oper.looksAt;exact List.mem_append_left _ (List.mem_filterMap.2 ⟨.tmp t,hx,rfl⟩))
  | const v=>rfl
  | global g=>rfl
  | func f=>rfl
theorem does_of {o : Oper} {tm : Tm} {v : A} (hg : o.guard = none) (h : ∀ ρ a w,StOk cx [] ob nx ρ a w → (∀ x ∈ o.op.operands.toList,(look tm x).rep (okOf cx ρ ob) ρ w (a.eval x)) → ∀ (K : Act → World → Prop) (Q : Exit → Act → World → Prop),
    (∀ u w',Below w.heap.size w w' → v.rep (okOf cx ρ ob) ρ w' u → K (a.put o.dst u) w') → o.wp P a w K Q) : Does P cx ob nx ops o tm v:=by
  intro ρ a w hs hl K Q hK;rw [if_pos (by simp [Region.wanted,hg])];exact h ρ a w hs (looks_op hl) K Q hK
theorem yld_wp {o : Oper} {v : A} {ρ : Nat → Option Value} {a : Act} {w : World} (hs : StOk cx [] ob nx ρ a w) (hy : Yld P o a.eval (okOf cx ρ ob) ρ w v) {K : Act → World → Prop} {Q : Exit → Act → World → Prop}
    (hK : ∀ u w',Below w.heap.size w w' → v.rep (okOf cx ρ ob) ρ w' u → K (a.put o.dst u) w') : o.wp P a w K Q:=by
  obtain ⟨u,w',h1,h2,h3⟩:=hy;exact wp_value h1 (hK u w' h2 (rep_grow hs h2 h3))
theorem call_wp {te : List (TypeId × TyI)} {o : Oper} {f : Operand} {args : Array Operand} {ts : Array TypeId} {g : FuncId} {caps : List A} {r : A} {lk : Operand → A} {ρ : Nat → Option Value} {a : Act} {w : World} (hs : StOk cx [] ob nx ρ a w) (hop : o.op = .call { callee:=.value f,args:=args,argTypes:=ts })
    (hlk : ∀ x ∈ f :: args.toList,(lk x).rep (okOf cx ρ ob) ρ w (a.eval x)) (ht : tgt (lk f) = some (g,caps)) (hcl : kB (borAs te ob [] (appA (mapL lk args.toList) caps)) = true) (hc : qX P g (borAs te ob [] (appA (mapL lk args.toList) caps)) r) (hno : kB (appA (mapL lk args.toList) caps) = true ∨ r.no1 = true)
    {K : Act → World → Prop} {Q : Exit → Act → World → Prop} (hK : ∀ u w',Below w.heap.size w w' → r.rep (okOf cx ρ ob) ρ w' u → K (a.put o.dst u) w') : o.wp P a w K Q:=by
  obtain ⟨cs,hf,hcs⟩:=tgt_rep ht (hlk f (by simp));obtain ⟨hfn,hcall⟩:=hc;unfold Oper.wp;rw [run_static hop hf hfn];have hargs:=appA_rep (mapL_rep (w:=w) (lk:=lk) (xs:=args.toList) (fun x hx=>hlk x (by simp [hx]))) hcs;rcases hno with hno|hno
  · rw [borAs_closed hno] at hcall;refine (hcall (okOf cx ρ ob) w _ hs.globAt (closedAs_rep hno hargs)).mono ?_
    rintro e w' ⟨u,rfl,hb,hr⟩
    exact hK u w' hb (rep_grow hs hb (A.names noNames_names hr))
  have hbk : Back (grow (borOk (okOf cx ρ ob) (Bor ob ρ [])) w) (grow (okOf cx ρ ob) w):=fun k b hk h=>h.imp (fun h=>h.elim id fun h=>absurd h.1 hk) id
  refine (hcall (borOk (okOf cx ρ ob) (Bor ob ρ [])) w _ ⟨fun g hg=>.inl (hs.globAt.1 g hg),hs.globAt.2⟩ (closedAs_rep hcl (borAs_rep hs.obs hargs))).mono ?_
  rintro e w' ⟨u,rfl,hb,hr⟩
  exact hK u w' hb (rep_grow hs hb (A.names noNames_names (A.back hbk hno hr)))
theorem ops_call {o : Oper} {f : Operand} {args : Array Operand} {ts : Array TypeId} (hop : o.op = .call { callee:=.value f,args:=args,argTypes:=ts }) : o.op.operands.toList = f :: args.toList:=by
  rw [hop];simp [Op.operands,Call.operands]
theorem stepD_sound {te : List (TypeId × TyI)} (hte : TEok P te) {o : Oper} (hg : o.guard = none) {tm : Tm} {K : A → Prop} (h : stepD P te o tm ob K) : ∃ v,K v ∧ Does P cx ob nx ops o tm v:=by
  have pv : (opv te ob (look tm) o.op).obl → Does P cx ob nx ops o tm (opv te ob (look tm) o.op).val:=fun ho =>
    does_of hg fun ρ a w hs hl K Q hK=>yld_wp hs (opv_sound hte ho hl hs.obs).1 hK
  unfold stepD at h;split at h
  · rename_i f args ts hop;unfold callK at h;split at h
    · rename_i g caps ht;obtain ⟨hcl,r,hc,hk⟩:=h;obtain ⟨hno,hk⟩:=sureA_sound hk;exact ⟨r,hk,does_of hg fun ρ a w hs hl K Q hK=>call_wp hs hop (by rw [← ops_call hop];exact hl) ht hcl hc hno hK⟩
    · exact h.elim
  · split at h
    · rename_i v e;rw [e] at pv;exact ⟨v,h,pv trivial⟩
    · rename_i p v e;rw [e] at pv;exact ⟨v,h.2,pv h.1⟩
    · rename_i p v e;rw [e] at pv;exact ⟨v,h,pv trivial⟩
    · exact h.elim
theorem does_guard {o : Oper} {tm : Tm} {v : A} {q : Bool} (hw : ∀ ρ a w,StOk cx [] ob nx ρ a w → (∀ t ∈ o.looksAt ops,(get tm t).rep (okOf cx ρ ob) ρ w (a.tmps.getD t undef)) → Region.wanted o (yielded ops a.tmps) = q)
    (h : q = true → ∀ ρ a w,StOk cx [] ob nx ρ a w → (∀ x ∈ o.op.operands.toList,(look tm x).rep (okOf cx ρ ob) ρ w (a.eval x)) → ∀ (K : Act → World → Prop) (Q : Exit → Act → World → Prop),
      (∀ u w',Below w.heap.size w w' → v.rep (okOf cx ρ ob) ρ w' u → K (a.put o.dst u) w') → o.wp P a w K Q) : Does P cx ob nx ops o tm (.cond q v):=by
  intro ρ a w hs hl K Q hK;rw [hw ρ a w hs hl];split
  · rename_i hq;exact h hq ρ a w hs (looks_op hl) K Q fun u w' hb hr=>hK u w' hb ⟨fun _=>hr,fun e=>by rw [hq] at e;cases e⟩
  · rename_i hq;exact hK undef w (Below.refl _ _) ⟨fun e=>absurd e hq,fun _=>rfl⟩
theorem guardD {o : Oper} {tm : Tm} {j d : Nat} {want : Bool} (hg : o.guard = some (j,want)) (hd : dstAt ops.toList j = some d) (hlt : Nat.ble (d + 1) cx.N = true) {q : Bool}
    (hb : (∃ b,get tm d = .one (.lit (.bool b)) ∧ q = gq want b) ∨ ∃ p b,get tm d = .cond p (.one (.lit (.bool b))) ∧ q = (p && gq want b)) :
    ∀ ρ a w,StOk cx [] ob nx ρ a w → (∀ t ∈ o.looksAt ops,(get tm t).rep (okOf cx ρ ob) ρ w (a.tmps.getD t undef)) → Region.wanted o (yielded ops a.tmps) = q:=by
  intro ρ a w hs hl;obtain ⟨og,h1,h2⟩:=dstAt_eq hd;have h1' : ops[j]? = some og:=by simpa using h1
  have hmem : d ∈ o.looksAt ops:=by
    unfold Oper.looksAt;rw [hg];simp [h1',h2]
  have hr:=hl d hmem;have hlt' : d < a.tmps.size:=by rw [hs.size];exact Nat.lt_of_succ_le (Nat.le_of_ble_eq_true hlt)
  have hv : a.tmps[d]? = some (a.tmps.getD d undef):=by
    rw [Array.getD_eq_getD_getElem?,Array.getElem?_eq_getElem hlt'];rfl
  unfold Region.wanted yielded;rw [hg];simp only [h1',Option.bind_some,h2,hv];rcases hb with ⟨b,e1,e2⟩|⟨p,b,e1,e2⟩
  · rw [e1] at hr;rw [show a.tmps.getD d undef = .bool b from hr,e2];cases want <;> cases b <;> rfl
  · rw [e1] at hr;cases p with
    | true =>
      rw [show a.tmps.getD d undef = .bool b from hr.1 rfl,e2];cases want <;> cases b <;> rfl
    | false =>
      rw [hr.2 rfl,e2];rfl
theorem aopG_does {te : List (TypeId × TyI)} (hte : TEok P te) {o : Oper} {tm : Tm} {q : Bool} {K : Tm → Prop} (h : aopG P te cx.N o q tm ob K)
    (hw : ∀ ρ a w,StOk cx [] ob nx ρ a w → (∀ t ∈ o.looksAt ops,(get tm t).rep (okOf cx ρ ob) ρ w (a.tmps.getD t undef)) → Region.wanted o (yielded ops a.tmps) = q) :
    ∃ v,Does P cx ob nx ops o tm v ∧ put cx.N o.dst v tm K:=by
  unfold aopG at h;split at h
  · rename_i f args ts hop;split at h
    · rename_i g caps ht;obtain ⟨hcl,r,hc,hp⟩:=h;obtain ⟨hno,hp⟩:=sureA_sound hp;refine ⟨_,does_guard hw fun hq ρ a w hs hl K Q hK=>?_,hp⟩;obtain ⟨hwr,hc⟩:=hc hq;rw [ops_call hop] at hl;exact call_wp (lk:=bareLk tm) hs hop (fun x hx=>A.bare_rep (xN hwr x hx) (hl x hx)) ht hcl hc hno hK
    · exact h.elim
  · rename_i c x y hop;have yes : ∀ {v : Vr},v = vPick (bareLk tm c) (look tm x) (look tm y) → (q = true → v.obl ∧ wereL tm [c]) → Does P cx ob nx ops o tm (.cond q v.val):=by
      intro v hv ho;subst hv;refine does_guard hw fun hq ρ a w hs hl K Q hK=>?_
      have hops : o.op.operands.toList = [c,x,y]:=by rw [hop];simp [Op.operands]
      rw [hops] at hl;have hpk:=vPick_sound (P:=P) (ho hq).1 (A.bare_rep (xN (ho hq).2 c (by simp)) (hl c (by simp))) (hl x (by simp)) (hl y (by simp));refine yld_wp hs (Yld.of (o:=o) (ev:=a.eval) ?_ hpk).1 hK;unfold execOp;simp only [hop,bind_assoc]
      congr 1
      funext p
      cases p <;> rfl
    split at h
    · rename_i v e;exact ⟨_,yes (v:=.ok v) e.symm (fun hq=>⟨trivial,h.1 hq⟩),h.2⟩
    · rename_i p v e;exact ⟨_,yes (v:=.need p v) e.symm (fun hq=>⟨(h.1 hq).2,(h.1 hq).1⟩),h.2⟩
    · exact h.elim
  · have yes : ∀ {v : Vr},v = opv te ob (bareLk tm) o.op → (q = true → v.obl ∧ wereL tm o.op.operands.toList) → Does P cx ob nx ops o tm (.cond q v.val):=by
      intro v hv ho;subst hv;exact does_guard hw fun hq ρ a w hs hl K Q hK=>yld_wp hs (opv_sound hte (ho hq).1 (fun x hx=>A.bare_rep (xN (ho hq).2 x hx) (hl x hx)) hs.obs).1 hK
    split at h
    · rename_i v e;exact ⟨_,yes (v:=.ok v) e.symm (fun hq=>⟨trivial,h.1 hq⟩),h.2⟩
    · rename_i p v e;exact ⟨_,yes (v:=.need p v) e.symm (fun hq=>⟨(h.1 hq).2,(h.1 hq).1⟩),h.2⟩
    · rename_i p v e;exact ⟨_,yes (v:=.know p v) e.symm (fun hq=>⟨trivial,h.1 hq⟩),h.2⟩
    · exact h.elim
theorem awpD_sound {te : List (TypeId × TyI)} (hte : TEok P te) {K : Tm → Prop} : ∀ (l : List Oper) {tm : Tm},awpD P te cx.N ops.toList l tm ob K → ∃ tmF,K tmF ∧ wpA P cx ob nx ops tmF l tm
  | [],tm,h=>⟨tm,h,fun _=>rfl⟩
  | o :: l,tm,h=>by
    have step : ∀ {v : A},Does P cx ob nx ops o tm v → put cx.N o.dst v tm (fun tm=>awpD P te cx.N ops.toList l tm ob K) → ∃ tmF,K tmF ∧ wpA P cx ob nx ops tmF (o :: l) tm:=by
      intro v hd hp;obtain ⟨h1,h2⟩:=put_putT hp;obtain ⟨tmF,h3,h4⟩:=awpD_sound hte l h1;exact ⟨tmF,h3,v,hd,h2,h4⟩
    unfold awpD at h;split at h
    · rename_i hg;obtain ⟨v,hk,hd⟩:=stepD_sound (cx:=cx) (nx:=nx) (ops:=ops) hte hg h;exact step hd hk
    · rename_i j want hg;split at h
      · rename_i d hd;split at h
        · rename_i b hlt hb;obtain ⟨v,h1,h2⟩:=aopG_does (nx:=nx) (ops:=ops) hte h (guardD hg hd hlt (.inl ⟨b,hb,rfl⟩));exact step h1 h2
        · rename_i p b hlt hb;obtain ⟨v,h1,h2⟩:=aopG_does (nx:=nx) (ops:=ops) hte h (guardD hg hd hlt (.inr ⟨p,b,hb,rfl⟩));exact step h1 h2
        · exact h.elim
      · exact h.elim
theorem region_draw {te : List (TypeId × TyI)} (hte : TEok P te) {id : Nat} (hm : P.follows .mixedOrders = true) (hB : (Region.lexB .any ops && noDefer ops.toList) = true) {K : Tm → Prop} {tm : Tm} (h : awpD P te cx.N ops.toList ops.toList tm ob K) {ρ : Nat → Option Value} {a : Act} {w : World} (hs : StOk cx tm ob nx ρ a w)
    {Q : Exit → Act → World → Prop} {rd : Option Nat} {n : Nat} (hQ : ∀ tm ρ a w,K tm → StOk cx tm ob nx ρ a w → Q .normal a w) : (Code.region id ops true).wpIn (FR rd) n P Q a w:=by
  rw [Bool.and_eq_true] at hB;obtain ⟨hB,hN⟩:=hB;obtain ⟨tmF,h1,h2⟩:=awpD_sound (cx:=cx) (nx:=nx) (ops:=ops) hte ops.toList h;simp only [Region.lexB,Bool.and_eq_true] at hB;have h3:=anyA_lex (md:=.any) ops.toList 0 (Array.replicate ops.size false) tm (by simp) (by simpa using hB.2) h2;rw [Array.length_toList] at h3;have hs' : StOk cx tm ob nx ρ a { w with drawn:=w.drawn + 1 }:=hs.below ⟨rfl,rfl,rfl,Nat.le_refl _,fun _ _=>rfl⟩;refine wpIn_mono (region_fr (Q:=fun e a w=>e = .normal ∧ Q .normal a w) hm hN (fun ⟨_,_,h,_⟩=>by cases h) (anyA_any (fun ρ a w hs=>⟨rfl,hQ tmF ρ a w h1 hs⟩) _ _ tm ρ a _ h3 hs')) ?_
  rintro e a w ⟨rfl,h⟩
  exact h
end
def CellB (w : World) (b : Nat) : Prop:=∃ o,w.heap[b]? = some o ∧ ¬ Obj.noCells o
theorem CellB.of {w : World} {b : Nat} (h : ∃ cs T f,w.heap[b]? = some (.cells cs T f)) : CellB w b:=by
  obtain ⟨cs,T,f,h⟩:=h;exact ⟨_,h,fun hn=>hn.1 _ _ _ rfl⟩
theorem CellB.not {w : World} {b : Nat} {o : Obj} (h : w.heap[b]? = some o) (hn : Obj.noCells o) : ¬ CellB w b:=fun ⟨o',e,k⟩=>by
  rw [h] at e;cases e;exact k hn
theorem noC_loop {q : Loop} : Obj.noCells (.loop q):=⟨fun _ _ _ e=>(by cases e),fun _ _ e=>(by cases e)⟩
theorem noC_def {q : Option (List Deferred)} : Obj.noCells (.deferred q):=⟨fun _ _ _ e=>(by cases e),fun _ _ e=>(by cases e)⟩
def okc (ok : Oks) (w : World) : Oks:=fun k b=>ok k b ∧ CellB w b
section
variable {ok : Oks} {ρ : Nat → Option Value} {w : World}
theorem cellB_of {b off n : Nat} {cs : List Value} (h : xV w b off n cs) (hn : 0 < n) : CellB w b:=by
  have h1:=h.2 0 hn;have h2 : 0 < cs.length:=by rw [h.1];exact hn
  rw [List.getElem?_eq_getElem h2] at h1;unfold World.cell? at h1;cases ho : w.heap[b]? with
  | none=>simp [ho] at h1
  | some o=>cases o <;> simp [ho] at h1;exact CellB.of ⟨_,_,_,ho⟩
theorem SlOk.cells {q : Nat} {α : Type} {n : Nat} (hn : 0 < n) {Pr Pr' : List Value → α → Prop} {v : Value} {xs : List α} (hp : ∀ cs x,Pr cs x → Pr' cs x) (h : SlOk n Pr (okU ok w q) w v xs) : SlOk n Pr' (okU (okc ok w) w q) w v xs:=by
  obtain ⟨a,cap,hv,h1,h2,hc⟩:=h;refine ⟨a,cap,hv,h1,h2,fun i hi=>?_⟩;obtain ⟨b,off,cs,ha,hb,hlt,hcell,hr⟩:=hc i hi;exact ⟨b,off,cs,ha,⟨⟨hb.1,cellB_of hcell hn⟩,hb.2⟩,hlt,hcell,hp _ _ hr⟩
theorem Rd.cells : ∀ {α : Type} (R : Rd α) {cs : List Value} {x : α},R.is ok w cs x → R.is (okc ok w) w cs x
  | _,.str,_,_,h=>h
  | _,.int _,_,_,h=>h
  | _,.bool,_,_,h=>h
  | _,.raw,_,_,h=>h
  | _,.unk,_,_,h=>h
  | _,.slk _ R,_,_,h=>by
    obtain ⟨v,e,h⟩:=h;exact ⟨v,e,SlOk.cells R.n_pos (fun _ _ h=>Rd.cells R h) h⟩
  | _,.ptk _ R,_,_,h=>by
    obtain ⟨b,off,ds,e,hb,hlt,hc,hr⟩:=h;exact ⟨b,off,ds,e,⟨⟨hb.1,cellB_of hc R.n_pos⟩,hb.2⟩,hlt,hc,Rd.cells R hr⟩
  | _,.ifc _ R,_,_,h=>by
    obtain ⟨u,e,h⟩:=h;exact ⟨u,e,Rd.cells R h⟩
  | _,.st R S,_,_,h=>by
    obtain ⟨c,d,e,h1,h2⟩:=h;exact ⟨c,d,e,Rd.cells R h1,Rd.cells S h2⟩
theorem C.cells : ∀ {c : C} {v : Value},c.rep ok ρ w v → c.rep (okc ok w) ρ w v
  | .any,_,_=>trivial
  | .lit _,_,h=>h
  | .slk _ R _,_,h=>SlOk.cells R.n_pos (fun _ _ h=>Rd.cells R h) h
  | .full R _,_,h=>⟨SlOk.cells R.n_pos (fun _ _ h=>Rd.cells R h) h.1,h.2⟩
  | .adk _ R _,_,h=>by
    obtain ⟨b,off,cs,hv,hb,hlt,hc,hr⟩:=h;exact ⟨b,off,cs,hv,⟨⟨hb.1,cellB_of hc R.n_pos⟩,hb.2⟩,hlt,hc,Rd.cells R hr⟩
  | .own _ _,_,h=>h
  | .vec _,_,h=>h
  | .vel _ _ _,_,h=>h
  | .ifc _ c,_,h=>by
    obtain ⟨u,hv,h⟩:=h;exact ⟨u,hv,C.cells (c:=c) h⟩
  | .clo _ c,_,h=>by
    obtain ⟨u,hv,h⟩:=h;exact ⟨u,hv,C.cells (c:=c) h⟩
  | .clo2 _ c d,_,h=>by
    obtain ⟨u,x,hv,h,h'⟩:=h;exact ⟨u,x,hv,C.cells (c:=c) h,C.cells (c:=d) h'⟩
  | .clo3 _ c d e,_,h=>by
    obtain ⟨u,x,y,hv,h,h',h''⟩:=h;exact ⟨u,x,y,hv,C.cells (c:=c) h,C.cells (c:=d) h',C.cells (c:=e) h''⟩
  | .ref c,_,h=>by
    obtain ⟨b,off,u,hv,hb,hlt,hc,hr⟩:=h;exact ⟨b,off,u,hv,⟨hb,cellB_of hc Nat.one_pos⟩,hlt,hc,C.cells (c:=c) hr⟩
  | .nself _ _,_,h=>h
  | .fx _ _,_,h=>h
  | .vof _ _ _ _,_,h=>h
  | .mp _,_,h=>h
theorem repL.cells : ∀ {cs : List C} {vs : List Value},repL ok ρ w cs vs → repL (okc ok w) ρ w cs vs
  | [],_,h=>h
  | _ :: _,_,h=>by
    obtain ⟨v,r,e,h1,h2⟩:=h;exact ⟨v,r,e,C.cells h1,repL.cells h2⟩
theorem repV.cells : ∀ {g : Bool} {cs : List C} {v : Value},repV ok ρ w g cs v → repV (okc ok w) ρ w g cs v
  | true,_,_,h=>by obtain ⟨vs,e,h⟩:=h;exact ⟨vs,e,h.cells⟩
  | false,_,_,h=>repL.cells h
theorem repT.cells : ∀ {cs : List (Bool × List C)} {vs : List Value},repT ok ρ w cs vs → repT (okc ok w) ρ w cs vs
  | [],_,h=>h
  | _ :: _,_,h=>by
    obtain ⟨v,r,e,h1,h2⟩:=h;exact ⟨v,r,e,h1.cells,repT.cells h2⟩
theorem A.cells : ∀ {a : A} {v : Value},a.rep ok ρ w v → a.rep (okc ok w) ρ w v
  | .one c,_,h=>C.cells (c:=c) h
  | .agg _,_,h=>repV.cells h
  | .tup _,_,h=>by obtain ⟨vs,e,h⟩:=h;exact ⟨vs,e,h.cells⟩
  | .cond _ a,_,h=>⟨fun hb=>A.cells (a:=a) (h.1 hb),h.2⟩
theorem Ob.okcells {id : Nat} {o : Ob} (h : o.is ok ρ w id) : o.is (okc ok w) ρ w id:=by
  cases o with
  | box T cs =>
    obtain ⟨b,vs,h1,h2,h3⟩:=h;exact ⟨b,vs,h1,h2,h3.cells⟩
  | vec E R xs =>
    obtain ⟨v,hv,css,h1,h2,h3⟩:=h;exact ⟨v,hv,css,h1,fun i hi=>Rd.cells R (h2 i hi),h3⟩
  | map g R es =>
    obtain ⟨r,h1,h2⟩:=h;exact ⟨r,h1,h2.imp rfl fun _ _ h=>Rd.cells R h⟩
end
section
variable {P : Program} {cx : Cx} {tm : Tm} {ob : Obs} {nx : Nat} {ρ : Nat → Option Value} {a : Act} {w : World}
theorem StOk.poke (h : StOk cx tm ob nx ρ a w) {b : Nat} {o : Obj} (hn : ¬ CellB w b) (hlow : cx.w0.heap.size ≤ b) {ds : List Deferred} (hd : DefOk cx ds (w.putObj b o)) : StOk cx tm ob nx ρ ⟨a.tmps,ds⟩ (w.putObj b o):=by
  have hk : xK (okc (okOf cx ρ ob) w) (okOf cx ρ ob) w (w.putObj b o):=fun _ c hc _=>⟨hc.1,World.putObj_heap_other (fun e=>hn (e ▸ hc.2))⟩
  refine ⟨h.size,hd,fun i=>A.kept hk (A.cells (h.tms i)),fun p hp=>Ob.kept hk (fun c hc=>World.putObj_heap_other (fun e=>hn (e ▸ Ob.cells (h.obs p hp) hc))) (Ob.okcells (h.obs p hp)),h.nd,h.fresh,h.names,h.nx0,h.sep,
    fun p hp c hc=>⟨by rw [World.putObj_size];exact (h.low p hp c hc).1,(h.low p hp c hc).2⟩,⟨h.keep.os,h.keep.tape,h.keep.output,by rw [World.putObj_size];exact h.keep.size,fun c hc ho=>?_,fun c hcg=>(h.keep.shape c hcg).trans (.rfl' (World.putObj_heap_other (by have:=(h.bags c hcg).1;omega)))⟩,h.disj,h.pin,h.glob,h.bags⟩
  rw [World.putObj_heap_other (by omega)];exact h.keep.block c hc ho
theorem Defs.putObj {M : Nat → Prop} {b : Nat} {o : Obj} : ∀ {ds : List Deferred},(∀ e ∈ ds,e ≠ { target:=.collected b,args:=#[] }) → Defs M ds w → Defs M ds (w.putObj b o)
  | [],_,_=>trivial
  | d :: ds,hne,h=>by
    obtain ⟨⟨c,h1,h2,h3,h4⟩,h5⟩:=h;refine ⟨⟨c,h1,h2,?_,h4⟩,Defs.putObj (fun e he=>hne e (by simp [he])) h5⟩;rw [World.putObj_heap_other (fun e=>hne d (by simp) (by rw [h1,e]))];exact h3
theorem StOk.unwind {fn : Func} {R : Ending → World → Prop} {n : Nat} (h : StOk cx tm ob nx ρ a w) (hfr : cx.fr = true) (hh : cx.hids = []) (hK : ∀ w2,StOk cx tm ob nx ρ ⟨a.tmps,[]⟩ w2 → ∃ v,(results fn a.tmps).run P w2 = .ok v w2 ∧ R (.returned v) w2) :
    LeavesInM (FR none) n P fn a.tmps R a.defers .returning w:=by
  obtain ⟨tmps,ds⟩:=a;simp only at hK ⊢
  induction ds generalizing w with
  | nil=>exact hK w h
  | cons d ds ih =>
    obtain ⟨⟨b,h1,h2,h3,h4⟩,h5⟩:=h.defers.1.1 hfr;refine ⟨by simp,.inl ⟨b,_,by rw [h1],run_takeDeferred h3,ih ?_⟩⟩;exact h.poke (CellB.not h3 noC_def) (h2.elim id fun hx=>by rw [hh] at hx;cases hx) ⟨⟨fun _=>h5.putObj (fun e he=>h1 ▸ h4 e he),fun e=>by rw [hfr] at e;cases e⟩,by rw [hh];exact fun q hq=>by cases hq⟩
end
def AQ:=Exit → Tm → Obs → Nat → Prop
def rngs : Code → Bool
  | .seq a b=>rngs a || rngs b
  | .cond _ a b=>rngs a || rngs b
  | .block _ c=>rngs c
  | .loop c=>rngs c
  | .scope c=>rngs c
  | .rangeFunc _ _ _ _=>true
  | _=>false
def NoR (rd : Option Nat) (cx : Cx) (c : Code) : Prop:=(1000000 ≤ cx.nx0 → cx.flag) ∧ ((rd = none ∧ cx.fr = true ∧ cx.hids = []) ∨ rngs c = false)
theorem noR_low {rd : Option Nat} {cx : Cx} {c : Code} (h : Nat.ble 1000000 cx.nx0 = false) (hr : rngs c = false) : NoR rd cx c:=⟨fun e=>(by rw [Nat.ble_eq_true_of_le e] at h;cases h),.inr hr⟩
theorem noR_free {c : Code} {cx : Cx} (h : cx.fr = true) (h2 : cx.hids = []) (h3 : ¬ 1000000 ≤ cx.nx0) : NoR none cx c:=⟨fun e=>absurd e h3,.inl ⟨rfl,h,h2⟩⟩
theorem NoR.mono {rd : Option Nat} {cx : Cx} {c c' : Code} (h : NoR rd cx c) (hc : rngs c = false → rngs c' = false) : NoR rd cx c':=⟨h.1,h.2.imp id hc⟩
def yS (P : Program) (te : List (TypeId × TyI)) (N nx0 : Nat) (c : Code) (tm : Tm) (ob : Obs) (nx : Nat) (Q : AQ) : Prop :=
  TEok P te → ∀ (rd : Option Nat) (n : Nat) (cx : Cx),NoR rd cx c → cx.N = N → cx.nx0 = nx0 → ∀ ρ a w,StOk cx tm ob nx ρ a w → c.wpIn (FR rd) n P (fun e a' w'=>∃ tm' ob' nx' ρ',Q e tm' ob' nx' ∧ StOk cx tm' ob' nx' ρ' a' w') a w
def thenQ (K : Tm → Obs → Nat → Prop) (Q : AQ) : AQ:=fun e tm ob nx=>match e with
  | .normal=>K tm ob nx
  | .exit i=>Q (.exit i) tm ob nx
  | .goto l=>Q (.goto l) tm ob nx
  | .ret=>Q .ret tm ob nx
  | .panic ch=>Q (.panic ch) tm ob nx
  | .outgrown=>Q .outgrown tm ob nx
def blockQ (id : Nat) (Q : AQ) : AQ:=fun e tm ob nx=>match e with
  | .normal=>Q .normal tm ob nx
  | .exit i=>match Nat.beq i id with
    | true=>Q .normal tm ob nx
    | false=>Q (.exit i) tm ob nx
  | .goto l=>Q (.goto l) tm ob nx
  | .ret=>Q .ret tm ob nx
  | .panic ch=>Q (.panic ch) tm ob nx
  | .outgrown=>Q .outgrown tm ob nx
section
variable {P : Program} {te : List (TypeId × TyI)} {N nx0 nx : Nat} {tm : Tm} {ob : Obs} {Q Q' : AQ}
theorem acode_mono {c : Code} (h : ∀ e tm ob nx,Q e tm ob nx → Q' e tm ob nx) (hc : yS P te N nx0 c tm ob nx Q) : yS P te N nx0 c tm ob nx Q' :=
  fun hte rd n cx hnr h1 h2 ρ a w hs=>wpIn_mono (hc hte rd n cx hnr h1 h2 ρ a w hs) (fun _ _ _ ⟨tm',ob',nx',ρ',hq,hs'⟩=>⟨tm',ob',nx',ρ',h _ _ _ _ hq,hs'⟩)
theorem qL (h : Q .normal tm ob nx) : yS P te N nx0 .skip tm ob nx Q :=
  fun _ _ _ _ _ _ _ ρ _ _ hs=>wpIn_skip ⟨tm,ob,nx,ρ,h,hs⟩
theorem qM (h : Q .ret tm ob nx) : yS P te N nx0 .ret tm ob nx Q :=
  fun _ _ _ _ _ _ _ ρ _ _ hs=>wpIn_ret ⟨tm,ob,nx,ρ,h,hs⟩
theorem yA {id : Nat} (h : Q (.exit id) tm ob nx) : yS P te N nx0 (.exit id) tm ob nx Q :=
  fun _ _ _ _ _ _ _ ρ _ _ hs=>wpIn_exit ⟨tm,ob,nx,ρ,h,hs⟩
theorem qJ {x y : Code} (h : yS P te N nx0 x tm ob nx (thenQ (fun tm ob nx=>yS P te N nx0 y tm ob nx Q) Q)) : yS P te N nx0 (.seq x y) tm ob nx Q:=by
  intro hte rd n cx hnr h1 h2 ρ a w hs;refine wpIn_seq (Code.wpIn_mono ?_ (h hte rd n cx (hnr.mono fun e=>(Bool.or_eq_false_iff.1 e).1) h1 h2 ρ a w hs))
  rintro e a' w' ⟨tm',ob',nx',ρ',hq,hs'⟩
  cases e <;> simp only [thenQ,Exit.then] at hq ⊢
  · exact hq hte rd n cx (hnr.mono fun e=>(Bool.or_eq_false_iff.1 e).2) h1 h2 ρ' a' w' hs'
  all_goals exact ⟨tm',ob',nx',ρ',hq,hs'⟩
theorem qQ {id : Nat} {c : Code} (h : yS P te N nx0 c tm ob nx (blockQ id Q)) : yS P te N nx0 (.block id c) tm ob nx Q:=by
  intro hte rd n cx hnr h1 h2 ρ a w hs;refine wpIn_block (Code.wpIn_mono ?_ (h hte rd n cx hnr h1 h2 ρ a w hs))
  rintro e a' w' ⟨tm',ob',nx',ρ',hq,hs'⟩
  cases e <;> simp only [blockQ,Exit.inBlock] at hq ⊢
  case exit i =>
    by_cases e : i = id
    · subst e;simp only [Nat.beq_refl] at hq;rw [if_pos rfl];exact ⟨tm',ob',nx',ρ',hq,hs'⟩
    · rw [if_neg e];have : Nat.beq i id = false:=by
        cases hb : Nat.beq i id
        · rfl
        · exact absurd (Nat.eq_of_beq_eq_true hb) e
      rw [this] at hq;exact ⟨tm',ob',nx',ρ',hq,hs'⟩
  all_goals exact ⟨tm',ob',nx',ρ',hq,hs'⟩
theorem qK {c : Operand} {x y : Code} {b : Bool} (hc : look tm c = ib b) (h1 : b = true → yS P te N nx0 x tm ob nx Q) (h2 : b = false → yS P te N nx0 y tm ob nx Q) : yS P te N nx0 (.cond c x y) tm ob nx Q:=by
  intro hte rd n cx hnr e1 e2 ρ a w hs;have hr:=hs.look c;rw [hc] at hr;exact wpIn_cond_split (t:=b) hr (fun e=>h1 e hte rd n cx (hnr.mono fun e=>(Bool.or_eq_false_iff.1 e).1) e1 e2 ρ a w hs) (fun e=>h2 e hte rd n cx (hnr.mono fun e=>(Bool.or_eq_false_iff.1 e).2) e1 e2 ρ a w hs)
theorem qI {id : Nat} {ops : Array Oper} (h : awp P te N nx0 ops.toList ops.toList tm ob nx (fun tm ob nx=>Q .normal tm ob nx)) : yS P te N nx0 (.region id ops false) tm ob nx Q:=by
  intro hte rd n cx hnr e1 e2 ρ a w hs;subst e1 e2;exact wpIn_region_list (awp_sound hte ops ops.toList h hs (fun tm ob nx ρ a w hq hs=>⟨tm,ob,nx,ρ,hq,hs⟩))
theorem qB {id : Nat} {ops : Array Oper} {y : Code} (h : awp P te N nx0 ops.toList ops.toList tm ob nx (fun tm ob nx=>thenQ (fun tm ob nx=>yS P te N nx0 y tm ob nx Q) Q .normal tm ob nx)) : yS P te N nx0 (.seq (.region id ops false) y) tm ob nx Q:=qJ (qI h)
theorem acode_draw {id : Nat} {ops : Array Oper} (hm : P.follows .mixedOrders = true) (hB : (Region.lexB .any ops && noDefer ops.toList) = true) (h : awpD P te N ops.toList ops.toList tm ob (fun tm=>Q .normal tm ob nx)) : yS P te N nx0 (.region id ops true) tm ob nx Q:=by
  intro hte rd n cx hnr e1 e2 ρ a w hs;subst e1 e2;exact region_draw hte hm hB h hs (fun tm ρ a w hq hs=>⟨tm,ob,nx,ρ,hq,hs⟩)
structure Le (nx0 : Nat) (tm : Tm) (ob : Obs) (nx : Nat) (tm' : Tm) (ob' : Obs) (nx' : Nat) : Prop where
  st : ∀ cx : Cx,cx.nx0 = nx0 → ∀ ρ a w,StOk cx tm ob nx ρ a w → ∃ ρ',StOk cx tm' ob' nx' ρ' a w
def C.bd (n : Nat) : C → Bool
  | .own i _=>Nat.ble (i + 1) n
  | .vec i=>Nat.ble (i + 1) n
  | .vel i _ _=>Nat.ble (i + 1) n
  | .ifc _ c=>c.bd n
  | .clo _ c=>c.bd n
  | .clo2 _ c d=>match c.bd n with
    | true=>d.bd n
    | false=>false
  | .clo3 _ c d e=>match c.bd n with
    | true=>match d.bd n with
      | true=>e.bd n
      | false=>false
    | false=>false
  | .ref c=>c.bd n
  | .nself _ i=>Nat.ble (i + 1) n
  | .fx i _=>Nat.ble (i + 1) n
  | .vof i _ _ _=>Nat.ble (i + 1) n
  | .mp i=>Nat.ble (i + 1) n
  | _=>true
def bdL (n : Nat) : List C → Bool
  | []=>true
  | c :: r=>match c.bd n with
    | true=>bdL n r
    | false=>false
def bdT (n : Nat) : List (Bool × List C) → Bool
  | []=>true
  | p :: r=>match bdL n p.2 with
    | true=>bdT n r
    | false=>false
def A.bd (n : Nat) : A → Bool
  | .one c=>c.bd n
  | .agg cs=>bdL n cs
  | .tup cs=>bdT n cs
  | .cond _ a=>a.bd n
def bdTm (n : Nat) : Tm → Bool
  | []=>true
  | p :: r=>match p.2.bd n with
    | true=>bdTm n r
    | false=>false
def Ob.bd (n : Nat) : Ob → Bool
  | .box _ cs=>bdL n cs
  | .vec _ _ _=>true
  | .map _ _ _=>true
def bdOb (n : Nat) : Obs → Bool
  | []=>true
  | p :: r=>match Nat.ble (p.1 + 1) n,p.2.bd n with
    | true,true=>bdOb n r
    | _,_=>false
def noKey (i : Nat) : Obs → Bool
  | []=>true
  | p :: r=>match Nat.beq p.1 i with
    | true=>false
    | false=>noKey i r
def ndOb : Obs → Bool
  | []=>true
  | p :: r=>match noKey p.1 r with
    | true=>ndOb r
    | false=>false
def leT (tm : Tm) : Tm → Prop
  | []=>True
  | [p]=>get tm p.1 = p.2
  | p :: r=>get tm p.1 = p.2 ∧ leT tm r
def leO (ob : Obs) : Obs → Prop
  | []=>True
  | [p]=>getO ob p.1 = some p.2
  | p :: r=>getO ob p.1 = some p.2 ∧ leO ob r
def cut (n : Nat) (ρ : Nat → Option Value) : Nat → Option Value:=fun i=>if i < n then ρ i else none
theorem cut_lt {n : Nat} {ρ : Nat → Option Value} {i : Nat} (h : i < n) : cut n ρ i = ρ i:=if_pos h
section cutting
variable {ok : Oks} {ρ : Nat → Option Value} {w : World} {n : Nat}
theorem C.cut_rep : ∀ {c : C} {v : Value},c.bd n = true → c.rep ok ρ w v → c.rep ok (cut n ρ) w v
  | .any,_,_,_=>trivial
  | .lit _,_,_,h=>h
  | .slk _ _ _,_,_,h=>h
  | .full _ _,_,_,h=>h
  | .adk _ _ _,_,_,h=>h
  | .own _ _,_,hc,h=>by obtain ⟨b,h1,h2⟩:=h;exact ⟨b,by rw [cut_lt (Nat.lt_of_succ_le (Nat.le_of_ble_eq_true hc))];exact h1,h2⟩
  | .vec _,_,hc,h=>⟨by rw [cut_lt (Nat.lt_of_succ_le (Nat.le_of_ble_eq_true hc))];exact h.1,h.2⟩
  | .mp _,_,hc,h=>⟨by rw [cut_lt (Nat.lt_of_succ_le (Nat.le_of_ble_eq_true hc))];exact h.1,h.2⟩
  | .vel _ _ _,_,hc,h=>by obtain ⟨b,m,cap,h1,h2⟩:=h;exact ⟨b,m,cap,by rw [cut_lt (Nat.lt_of_succ_le (Nat.le_of_ble_eq_true hc))];exact h1,h2⟩
  | .ifc _ c,_,hc,h=>by obtain ⟨u,hv,h⟩:=h;exact ⟨u,hv,C.cut_rep (c:=c) hc h⟩
  | .clo _ c,_,hc,h=>by obtain ⟨u,hv,h⟩:=h;exact ⟨u,hv,C.cut_rep (c:=c) hc h⟩
  | .clo2 _ c d,_,hc,h=>by
    obtain ⟨u,x,hv,h,h'⟩:=h;unfold C.bd at hc;split at hc
    · rename_i e;exact ⟨u,x,hv,C.cut_rep (c:=c) e h,C.cut_rep (c:=d) hc h'⟩
    · cases hc
  | .clo3 _ c d k,_,hc,h=>by
    obtain ⟨u,x,y,hv,h,h',h''⟩:=h;unfold C.bd at hc;split at hc
    · rename_i e;split at hc
      · rename_i e2;exact ⟨u,x,y,hv,C.cut_rep (c:=c) e h,C.cut_rep (c:=d) e2 h',C.cut_rep (c:=k) hc h''⟩
      · cases hc
    · cases hc
  | .ref c,_,hc,h=>by obtain ⟨b,off,u,hv,h1,h2,h3,h⟩:=h;exact ⟨b,off,u,hv,h1,h2,h3,C.cut_rep (c:=c) hc h⟩
  | .nself _ _,_,hc,h=>⟨fun e=>by obtain ⟨b,h1,h2⟩:=h.1 e;exact ⟨b,by rw [cut_lt (Nat.lt_of_succ_le (Nat.le_of_ble_eq_true hc))];exact h1,h2⟩,h.2⟩
  | .fx _ _,_,hc,h=>(cut_lt (Nat.lt_of_succ_le (Nat.le_of_ble_eq_true hc))).trans h
  | .vof _ _ _ _,_,hc,h=>by obtain ⟨b,m,cap,h1,h2⟩:=h;exact ⟨b,m,cap,by rw [cut_lt (Nat.lt_of_succ_le (Nat.le_of_ble_eq_true hc))];exact h1,h2⟩
theorem bdL_rep : ∀ {cs : List C} {vs : List Value},bdL n cs = true → repL ok ρ w cs vs → repL ok (cut n ρ) w cs vs
  | [],_,_,h=>h
  | c :: r,_,hc,h=>by
    unfold bdL at hc;split at hc
    · rename_i h1;obtain ⟨v,r,e,h2,h3⟩:=h;exact ⟨v,r,e,C.cut_rep h1 h2,bdL_rep hc h3⟩
    · cases hc
theorem bdV_rep : ∀ {g : Bool} {cs : List C} {v : Value},bdL n cs = true → repV ok ρ w g cs v → repV ok (cut n ρ) w g cs v
  | true,_,_,hc,h=>by obtain ⟨vs,e,h⟩:=h;exact ⟨vs,e,bdL_rep hc h⟩
  | false,_,_,hc,h=>bdL_rep hc h
theorem bdT_rep : ∀ {cs : List (Bool × List C)} {vs : List Value},bdT n cs = true → repT ok ρ w cs vs → repT ok (cut n ρ) w cs vs
  | [],_,_,h=>h
  | c :: r,_,hc,h=>by
    unfold bdT at hc;split at hc
    · rename_i h1;obtain ⟨v,r,e,h2,h3⟩:=h;exact ⟨v,r,e,bdV_rep h1 h2,bdT_rep hc h3⟩
    · cases hc
theorem A.cut_rep : ∀ {a : A} {v : Value},a.bd n = true → a.rep ok ρ w v → a.rep ok (cut n ρ) w v
  | .one _,_,hc,h=>C.cut_rep hc h
  | .agg _,_,hc,h=>bdV_rep (g:=true) hc h
  | .tup _,_,hc,h=>by obtain ⟨vs,e,h⟩:=h;exact ⟨vs,e,bdT_rep hc h⟩
  | .cond _ a,_,hc,h=>⟨fun hb=>A.cut_rep (a:=a) hc (h.1 hb),h.2⟩
theorem Ob.cut_is {i : Nat} (hi : i < n) {o : Ob} (hc : o.bd n = true) (h : o.is ok ρ w i) : o.is ok (cut n ρ) w i:=by
  cases o with
  | box T cs=>obtain ⟨b,vs,h1,h2,h3⟩:=h;exact ⟨b,vs,by rw [cut_lt hi];exact h1,h2,bdL_rep hc h3⟩
  | vec E R xs=>obtain ⟨v,hv,h⟩:=h;exact ⟨v,by rw [cut_lt hi];exact hv,h⟩
  | map g R es=>obtain ⟨r,h1,h⟩:=h;exact ⟨r,by rw [cut_lt hi];exact h1,h⟩
end cutting
theorem bdTm_get {n : Nat} : ∀ {tm : Tm} (i : Nat),bdTm n tm = true → (get tm i).bd n = true
  | [],_,_=>rfl
  | p :: r,i,h=>by
    unfold bdTm at h;split at h
    · rename_i h1;unfold get;split
      · exact h1
      · exact bdTm_get i h
    · cases h
theorem bdOb_mem {n : Nat} : ∀ {ob : Obs} {p : Nat × Ob},bdOb n ob = true → p ∈ ob → p.1 < n ∧ p.2.bd n = true
  | [],_,_,h=>by cases h
  | q :: r,p,h,hp=>by
    unfold bdOb at h;split at h
    · rename_i h1 h2;rcases List.mem_cons.1 hp with hp|hp
      · subst hp;exact ⟨Nat.lt_of_succ_le (Nat.le_of_ble_eq_true h1),h2⟩
      · exact bdOb_mem h hp
    · cases h
theorem noKey_ne {i : Nat} : ∀ {ob : Obs},noKey i ob = true → i ∉ ob.map (·.1)
  | [],_=>by simp
  | q :: r,h=>by
    unfold noKey at h;split at h
    · cases h
    · rename_i e;intro hm;rcases List.mem_cons.1 hm with hm|hm
      · subst hm;simp at e
      · exact noKey_ne h hm
theorem ndOb_nd : ∀ {ob : Obs},ndOb ob = true → (ob.map (·.1)).Nodup
  | [],_=>by simp
  | q :: r,h=>by
    unfold ndOb at h;split at h
    · rename_i h1;exact List.nodup_cons.2 ⟨noKey_ne h1,ndOb_nd h⟩
    · cases h
theorem get_cons (p : Nat × A) (r : Tm) (i : Nat) : get (p :: r) i = (match Nat.beq p.1 i with|true=>p.2|false=>get r i):=rfl
theorem leT_get {tm : Tm} : ∀ {tm' : Tm} (i : Nat),leT tm tm' → get tm' i = .one .any ∨ get tm' i = get tm i
  | [],_,_=>.inl rfl
  | [p],i,h=>by
    rw [get_cons p];split
    · rename_i e;have e:=Nat.eq_of_beq_eq_true e;subst e;exact .inr (show get tm p.1 = p.2 from h).symm
    · exact .inl rfl
  | p :: q :: r,i,h=>by
    rw [get_cons p];split
    · rename_i e;have e:=Nat.eq_of_beq_eq_true e;subst e;exact .inr h.1.symm
    · exact leT_get i h.2
theorem leO_mem {ob : Obs} : ∀ {ob' : Obs} {p : Nat × Ob},leO ob ob' → p ∈ ob' → getO ob p.1 = some p.2
  | [],_,_,hp=>by cases hp
  | [q],p,h,hp=>by
    have : p = q:=by simpa using hp
    subst this;exact h
  | q :: q' :: r,p,h,hp=>by
    rcases List.mem_cons.1 hp with hp|hp
    · subst hp;exact h.1
    · exact leO_mem h.2 hp
theorem qP {tm' : Tm} {ob' : Obs} {nx' : Nat} (ht : leT tm tm') (ho : leO ob ob') (hb : (match bdTm nx' tm',bdOb nx' ob',ndOb ob',Nat.ble nx' nx,Nat.ble nx0 nx' with|true,true,true,true,true=>true|_,_,_,_,_=>false) = true) : Le nx0 tm ob nx tm' ob' nx':=by
  split at hb
  · rename_i b1 b2 b3 b4 b5;refine ⟨fun cx e ρ a w hs=>⟨cut nx' ρ,?_⟩⟩;have hmem : ∀ p ∈ ob',p ∈ ob:=fun p hp=>yM (leO_mem ho hp)
    have hlt : ∀ p ∈ ob',p.1 < nx':=fun p hp=>(bdOb_mem b2 hp).1
    have hblk : ∀ p ∈ ob',blk (cut nx' ρ p.1) = blk (ρ p.1):=fun p hp=>by rw [cut_lt (hlt p hp)]
    have hk : xK (okOf cx ρ ob) (okOf cx (cut nx' ρ) ob') w w:=fun _ b hb _=>⟨⟨hb.1,fun p hp=>by rw [hblk p hp];exact hb.2 p (hmem p hp)⟩,rfl⟩
    refine ⟨hs.size,hs.defers,fun i=>?_,fun p hp=>?_,ndOb_nd b3,hlt,fun i hi=>if_neg (by omega),by rw [e];exact Nat.le_of_ble_eq_true b5,?_,?_,hs.keep,hs.disj,fun i hi p e'=>by rw [cut_lt (Nat.lt_of_lt_of_le (by rw [← e];exact hi) (Nat.le_of_ble_eq_true b5))];exact hs.pin i hi p e',hs.glob,hs.bags⟩
    · rcases leT_get i ht with h|h
      · rw [h];trivial
      · have hbd:=bdTm_get i b1;rw [h] at hbd ⊢;exact A.cut_rep hbd (A.kept hk (hs.tms i))
    · exact Ob.cut_is (hlt p hp) (bdOb_mem b2 hp).2 (Ob.kept hk (fun _ _=>rfl) (hs.obs p (hmem p hp)))
    · intro p hp q hq hne b;rw [hblk p hp,hblk q hq];exact hs.sep p (hmem p hp) q (hmem q hq) hne b
    · intro p hp b;rw [hblk p hp];exact hs.low p (hmem p hp) b
  · cases hb
theorem acode_weak {c : Code} {tm' : Tm} {ob' : Obs} {nx' : Nat} (hle : Le nx0 tm ob nx tm' ob' nx') (h : yS P te N nx0 c tm' ob' nx' Q) : yS P te N nx0 c tm ob nx Q:=by
  intro hte rd n cx hnr e1 e2 ρ a w hs;obtain ⟨ρ',hs'⟩:=hle.st cx e2 ρ a w hs;exact h hte rd n cx hnr e1 e2 ρ' a w hs'
theorem acode_loop {c : Code} {ι : Type} (I : ι → Tm) (O : ι → Obs) (nx' : Nat) (μ : ι → Nat) (i0 : ι) (h0 : Le nx0 tm ob nx (I i0) (O i0) nx')
    (round : ∀ i,yS P te N nx0 c (I i) (O i) nx' (thenQ (fun tm ob nx=>∃ j,μ j < μ i ∧ Le nx0 tm ob nx (I j) (O j) nx') Q)) : yS P te N nx0 (.loop c) tm ob nx Q:=by
  intro hte rd fu cx hnr e1 e2 ρ a w hs;obtain ⟨ρ0,hs0⟩:=h0.st cx e2 ρ a w hs;have key : ∀ n i,μ i < n → ∀ ρ a w,StOk cx (I i) (O i) nx' ρ a w → Code.roundsIn (FR rd) fu P c (fun e a' w'=>∃ tm' ob' nx' ρ',Q e tm' ob' nx' ∧ StOk cx tm' ob' nx' ρ' a' w') n a w:=by
    intro n
    induction n with
    | zero=>intro i hi;omega
    | succ n ih =>
      intro i hi ρ a w hs;refine Code.wpIn_mono ?_ (round i hte rd fu cx hnr e1 e2 ρ a w hs)
      rintro e a' w' ⟨tm',ob',nx'',ρ',hq,hs'⟩
      cases e <;> simp only [thenQ,Exit.then] at hq ⊢
      · obtain ⟨j,hj,hle⟩:=hq;obtain ⟨ρ'',hs''⟩:=hle.st cx e2 ρ' a' w' hs';exact ih j (by omega) ρ'' a' w' hs''
      all_goals exact ⟨tm',ob',nx'',ρ',hq,hs'⟩
  exact wpIn_loop_rounds _ (key (μ i0 + 1) i0 (Nat.lt_succ_self _) ρ0 a w hs0)
theorem qW {c : Code} {ι : Type} (Pr : ι → Prop) (I : ι → Tm) (O : ι → Obs) (nx' : Nat) (μ : ι → Nat) (i0 : ι) (hp : Pr i0) (h0 : Le nx0 tm ob nx (I i0) (O i0) nx')
    (round : ∀ i,Pr i → yS P te N nx0 c (I i) (O i) nx' (thenQ (fun tm ob nx=>∃ j,Pr j ∧ μ j < μ i ∧ Le nx0 tm ob nx (I j) (O j) nx') Q)) : yS P te N nx0 (.loop c) tm ob nx Q:=by
  refine acode_loop (ι:={i : ι // Pr i}) (fun i=>I i.1) (fun i=>O i.1) nx' (fun i=>μ i.1) ⟨i0,hp⟩ h0 fun i=>acode_mono ?_ (round i.1 i.2)
  intro e tm ob nx h;cases e
  · obtain ⟨j,hj,hm,hle⟩:=h;exact ⟨⟨j,hj⟩,hm,hle⟩
  all_goals exact h
theorem acode_cut {x y : Code} {ι : Type} (Pr : ι → Prop) (I : ι → Tm) (O : ι → Obs) (nx' : Nat) (h1 : yS P te N nx0 x tm ob nx (thenQ (fun tm ob nx=>∃ j,Pr j ∧ Le nx0 tm ob nx (I j) (O j) nx') Q))
    (h2 : ∀ i,Pr i → yS P te N nx0 y (I i) (O i) nx' Q) : yS P te N nx0 (.seq x y) tm ob nx Q:=by
  refine qJ (acode_mono ?_ h1);intro e tm ob nx h;cases e
  · obtain ⟨j,hj,hle⟩:=h;exact acode_weak hle (h2 j hj)
  all_goals exact h
theorem yW {c : Code} (i : Nat) {α : Type} (E : TypeId) (R : Rd α) (hi : get tm i = .one (.lit (.slice none 0 0))) (h : yS P te N nx0 c ((i,.one (.vec nx)) :: tm) ((nx,.vec E R []) :: ob) (nx + 1) Q) : yS P te N nx0 c tm ob nx Q:=by
  intro hte rd n cx hnr e1 e2 ρ a w hs;obtain ⟨ρ',h1,h2⟩:=new_vec (E:=E) (R:=R) (xs:=[]) (v:=.slice none 0 0) hs (Below.refl _ _) (fun b hb=>by cases hb) ⟨_,_,_,rfl⟩ (fun ok' _=>⟨[],rfl,fun i hi=>absurd hi (by simp),World.ownsRow_nil _ _ _ _⟩);refine h hte rd n cx hnr e1 e2 ρ' a w (h1.act rfl rfl fun j=>?_);rw [get_cons];split
  · rename_i e;have e : i = j:=Nat.eq_of_beq_eq_true e;subst e;have hv:=hs.tms i;rw [hi] at hv;rw [show a.tmps.getD i undef = _ from hv];exact h2
  · exact h1.tms j
end
attribute [irreducible] yS
def argT : Nat → List A → Tm
  | _,[]=>[]
  | k,a :: r=>(k,a) :: argT (k + 1) r
def finC (te : List (TypeId × TyI)) (ob : Obs) : C → C
  | .vec id=>match getO ob id with
    | some (.vec _ R xs)=>.sl R xs
    | _=>.any
  | .own id 0=>match getO ob id with
    | some (.box T cs)=>match find te T with
      | some i=>match i.rd with
        | some ⟨_,R⟩=>match ofL R cs with
          | some (x,[])=>.addr R x
          | _=>.any
        | none=>.any
      | none=>.any
    | _=>.any
  | .own _ (_ + 1)=>.any
  | .vel _ _ _=>.any
  | .ifc t c=>.ifc t (finC te ob c)
  | .clo f c=>.clo f (finC te ob c)
  | .clo2 f c d=>.clo2 f (finC te ob c) (finC te ob d)
  | .clo3 f c d e=>.clo3 f (finC te ob c) (finC te ob d) (finC te ob e)
  | .ref c=>.ref (finC te ob c)
  | .nself _ _=>.any
  | .fx _ _=>.any
  | .vof _ _ _ _=>.any
  | .mp _=>.any
  | .any=>.any
  | .lit v=>.lit v
  | .slk k R xs=>.slk k R xs
  | .full R xs=>.full R xs
  | .adk k R x=>.adk k R x
def finL (te : List (TypeId × TyI)) (ob : Obs) : List C → List C
  | []=>[]
  | c :: r=>finC te ob c :: finL te ob r
def finA (te : List (TypeId × TyI)) (ob : Obs) : A → A
  | .one c=>.one (finC te ob c)
  | .agg cs=>match closedL cs with
    | true=>.agg cs
    | false=>.agg (finL te ob cs)
  | .tup _=>.one .any
  | .cond _ _=>.one .any
def cellsB : A → Bool × List C
  | .one c=>(false,[c])
  | .agg cs=>(true,cs)
  | _=>(false,[.any])
def retQ (te : List (TypeId × TyI)) (rs : List Nat) (r : A) : AQ:=fun e tm ob _=>match e with
  | .ret=>match rs with
    | []=>r = .tup []
    | [t]=>finA te ob (get tm t) = r
    | [t,u]=>.tup [cellsB (finA te ob (get tm t)),cellsB (finA te ob (get tm u))] = r
    | [t,u,v]=>.tup [cellsB (finA te ob (get tm t)),cellsB (finA te ob (get tm u)),cellsB (finA te ob (get tm v))] = r
    | _=>False
  | .normal=>match rs with
    | []=>r = .tup []
    | _=>False
  | _=>False
def resT : List ResultVar → List Nat
  | []=>[]
  | .tmp t :: r=>t :: resT r
  | .cell _ _ :: _=>[]
section
variable {P : Program} {te : List (TypeId × TyI)} {cx : Cx} {tm : Tm} {ob : Obs} {nx : Nat} {ρ : Nat → Option Value} {a : Act} {w : World}
theorem ok_grow (h0 : cx.nx0 = 0) {k b : Nat} (hb : okOf cx ρ ob k b) : grow cx.ok0 cx.w0 k b:=by
  rcases hb.1 with h|h|⟨_,i,hi,_⟩
  · exact .inl h
  · exact .inr h
  · rw [h0] at hi;exact absurd hi (Nat.not_lt_zero _)
theorem fin_keeps (_hs : StOk cx tm ob nx ρ a w) (h0 : cx.nx0 = 0) : xK (okOf cx ρ ob) (grow cx.ok0 cx.w0) w w:=fun _ _ hb _=>⟨ok_grow h0 hb,rfl⟩
theorem own_grow (hs : StOk cx tm ob nx ρ a w) (h0 : cx.nx0 = 0) {id : Nat} {o : Ob} (hg : getO ob id = some o) {b k : Nat} (hb : blk (ρ id) = some b) (hk : k ≠ 7) : grow cx.ok0 cx.w0 k b:=by
  rcases (hs.low _ (yM hg) b hb).2 with h|⟨_,h,_⟩
  · exact .inr ⟨h,hk⟩
  · rw [h0] at h;exact absurd h (Nat.not_lt_zero _)
theorem finC_rep (hs : StOk cx tm ob nx ρ a w) (h0 : cx.nx0 = 0) : ∀ {c : C} {v : Value},c.rep (okOf cx ρ ob) ρ w v → (finC te ob c).rep (grow cx.ok0 cx.w0) xB w v
  | .any,_,_=>trivial
  | .lit _,_,h=>h
  | .slk k R xs,v,h=>C.kept (c:=.slk k R xs) (ρ:=xB) (fin_keeps hs h0) h
  | .full R xs,v,h=>C.kept (c:=.full R xs) (ρ:=xB) (fin_keeps hs h0) h
  | .adk k R x,v,h=>C.kept (c:=.adk k R x) (ρ:=xB) (fin_keeps hs h0) h
  | .own id 0,v,h=>by
    unfold finC;split
    · rename_i T cs hg;split
      · split
        · rename_i R _;split
          · rename_i x hx;obtain ⟨b,h1,h2⟩:=h;obtain ⟨b',vs,h3,h4,h5⟩:=hs.obs _ (yM hg);rw [h1] at h3;simp only [Option.some.injEq,Value.pointer.injEq,Addr.mk.injEq,and_true] at h3;subst h3;obtain ⟨us,r,e1,hus,hr⟩:=ofL_rep R hx h5;have hr0 : r = []:=hr;rw [hr0,List.append_nil] at e1;subst e1;have hlt : b < w.heap.size:=(Array.getElem?_eq_some_iff.1 h4).1;refine ⟨b,0,vs,h2,okU0 (own_grow hs h0 hg (by rw [h1];rfl) (by decide)),hlt,⟨R.len hus,fun j _=>?_⟩,R.kept (fin_keeps hs h0) hus⟩;simp only [World.cell?,h4,Option.isSome_none,Bool.false_eq_true,if_false,List.getElem?_toArray,Nat.zero_add]
          · trivial
        · trivial
      · trivial
    · trivial
  | .own _ (_ + 1),_,_=>trivial
  | .vec id,v,h=>by
    unfold finC;split
    · rename_i R xs hg;obtain ⟨v',h1,h2⟩ : ∃ v,ρ id = some v ∧ VecOk (okOf cx ρ ob) w v _ _ _:=hs.obs _ (yM hg);have h3 : ρ id = some v:=h.1;rw [h1] at h3;obtain rfl:=Option.some.inj h3;exact vec_sl 0 h2 (fun _ b hb=>ok_grow h0 hb) (fun b hb=>own_grow hs h0 hg (by rw [h1];exact hb) (by decide))
    · trivial
  | .vel _ _ _,_,_=>trivial
  | .ifc t c,v,h=>by obtain ⟨u,hv,h⟩:=h;exact ⟨u,hv,finC_rep hs h0 h⟩
  | .clo f c,v,h=>by obtain ⟨u,hv,h⟩:=h;exact ⟨u,hv,finC_rep hs h0 h⟩
  | .clo2 f c d,v,h=>by obtain ⟨u,x,hv,h,h'⟩:=h;exact ⟨u,x,hv,finC_rep hs h0 h,finC_rep hs h0 h'⟩
  | .clo3 f c d e,v,h=>by obtain ⟨u,x,y,hv,h,h',h''⟩:=h;exact ⟨u,x,y,hv,finC_rep hs h0 h,finC_rep hs h0 h',finC_rep hs h0 h''⟩
  | .ref c,v,h=>by
    obtain ⟨b,off,u,hv,hb,hlt,hc,hr⟩:=h;exact ⟨b,off,u,hv,ok_grow h0 hb,hlt,hc,finC_rep hs h0 hr⟩
  | .nself _ _,_,_=>trivial
  | .fx _ _,_,_=>trivial
  | .vof _ _ _ _,_,_=>trivial
  | .mp _,_,_=>trivial
theorem finL_rep (hs : StOk cx tm ob nx ρ a w) (h0 : cx.nx0 = 0) : ∀ {cs : List C} {vs : List Value},repL (okOf cx ρ ob) ρ w cs vs → repL (grow cx.ok0 cx.w0) xB w (finL te ob cs) vs
  | [],_,h=>h
  | _ :: _,_,h=>by
    obtain ⟨v,r,e,h1,h2⟩:=h;exact ⟨v,r,e,finC_rep hs h0 h1,finL_rep hs h0 h2⟩
theorem finA_rep (hs : StOk cx tm ob nx ρ a w) (h0 : cx.nx0 = 0) {x : A} {v : Value} (h : x.rep (okOf cx ρ ob) ρ w v) : (finA te ob x).rep (grow cx.ok0 cx.w0) xB w v:=by
  cases x with
  | one c=>exact finC_rep hs h0 h
  | agg cs =>
    show (match closedL cs with|true=>A.agg cs|false=>A.agg (finL te ob cs)).rep _ _ _ v;split
    · rename_i hc;exact A.kept (a:=.agg cs) (fin_keeps hs h0) (A.closed_rep (a:=.agg cs) hc h)
    · obtain ⟨vs,e,h⟩:=h;exact ⟨vs,e,finL_rep hs h0 h⟩
  | tup _=>trivial
  | cond _ _=>trivial
theorem yU {ok : Oks} {x : A} {v : Value} (h : x.rep ok ρ w v) : repV ok ρ w (cellsB x).1 (cellsB x).2 v:=by
  cases x with
  | one c=>exact ⟨v,[],rfl,h,rfl⟩
  | agg cs=>exact h
  | tup _=>exact ⟨v,[],rfl,trivial,rfl⟩
  | cond _ _=>exact ⟨v,[],rfl,trivial,rfl⟩
theorem argT_get {ok : Oks} : ∀ {as : List A} {vs : List Value} (k i : Nat),xU ok ρ w as vs → (get (argT k as) i).rep ok ρ w (if i < k then undef else vs.getD (i - k) undef) ∨ get (argT k as) i = .one .any
  | [],_,_,_,_=>.inr rfl
  | x :: as,vs,k,i,h=>by
    obtain ⟨v,r,rfl,h1,h2⟩:=h;rw [argT,get_cons];split
    · rename_i e;have e : k = i:=Nat.eq_of_beq_eq_true e;subst e
      left
      simpa using h1
    · rename_i e;have e : k ≠ i:=fun e'=>by subst e';simp at e
      rcases argT_get (k + 1) i h2 with h3|h3
      · left
        by_cases hlt : i < k
        · rw [if_pos (by omega)] at h3;rw [if_pos hlt];exact h3
        · rw [if_neg (by omega)] at h3;rw [if_neg hlt];have : i - k = (i - (k + 1)) + 1:=by omega
          rw [this]
          simpa using h3
      · exact .inr h3
theorem xU.len {ok : Oks} : ∀ {as : List A} {vs : List Value},xU ok ρ w as vs → vs.length = as.length
  | [],_,h=>by rw [show _ = _ from h];rfl
  | _ :: _,_,h=>by obtain ⟨v,r,rfl,_,h2⟩:=h;simp [xU.len h2]
theorem qV {f : FuncId} {fn : Func} {c : Code} {args : List A} {rs : List Nat} {r : A} (hf : P.funcs[f]? = some fn) (hb : fn.body = some c) (hname : (fn.name == "runtime.NumGoroutine") = false) (hr : fn.results = (rs.map ResultVar.tmp).toArray) (hte : TEok P te)
    (hn : Nat.ble args.length fn.ntmps = true) (h : yS P te fn.ntmps 0 c (argT 0 args) [] 0 (retQ te rs r)) : qX P f args r:=by
  refine ⟨⟨fn,hf,by rw [hb];rfl,hname⟩,fun ok w vs hgl hvs=>callsIn_wide.1 (callsIn_of_wp_marks (F:=FR none) (n:=0) hf hb trivial ?_)⟩
  let cx : Cx:=⟨ok,xB,w,fn.ntmps,0,[],true⟩
  have hl:=xU.len hvs;have hn:=Nat.le_of_ble_eq_true hn;have hk : xK ok (okOf cx xB []) w w:=fun _ b hb _=>⟨⟨.inl hb,fun p hp=>by cases hp⟩,rfl⟩
  have hs : StOk cx (argT 0 args) [] 0 xB { tmps:=vs.toArray ++ Array.replicate (fn.ntmps - vs.toArray.size) undef,defers:=[] } w:=by
    refine ⟨?_,DefOk.none rfl,fun i=>?_,fun p hp=>by (cases hp),by simp,fun p hp=>by (cases hp),fun _ _=>rfl,Nat.le_refl _,fun p hp=>by (cases hp),fun p hp=>by (cases hp),⟨rfl,rfl,rfl,Nat.le_refl _,fun _ _ _ _=>rfl,fun _ _=>.rfl' rfl⟩,fun _ _ h _=>absurd h (Nat.not_lt_zero _),fun _ h=>absurd h (Nat.not_lt_zero _),hgl,.low (show (0 : Nat) < 1000000 by decide)⟩
    · show (vs.toArray ++ Array.replicate (fn.ntmps - vs.toArray.size) undef).size = fn.ntmps;simp;omega
    · rcases argT_get 0 i hvs with h1|h1
      · have hcell : (vs.toArray ++ Array.replicate (fn.ntmps - vs.toArray.size) undef).getD i undef = if i < 0 then undef else vs.getD (i - 0) undef:=by
          rw [if_neg (Nat.not_lt_zero _),Nat.sub_zero,Array.getD_eq_getD_getElem?,Array.getElem?_append];split
          · simp [List.getD]
          · rename_i hge;rw [Array.getElem?_replicate];simp only [List.size_toArray] at hge ⊢;rw [List.getD,List.getElem?_eq_none (by omega)];split <;> rfl
        rw [hcell];exact A.kept hk h1
      · rw [h1];trivial
  unfold yS at h;refine Code.wpIn_mono ?_ (h hte none 0 cx (noR_free rfl rfl (by show ¬ (1000000 ≤ 0);decide)) rfl rfl xB _ w hs)
  rintro e a' w0' ⟨tm',ob',nx',ρ',hq,hs0'⟩
  cases e with
  | ret =>
    refine StOk.unwind hs0' rfl rfl fun w' hs'=>?_
    have hbel : Below w.heap.size w w':=⟨hs'.keep.os,hs'.keep.tape,hs'.keep.output,hs'.keep.size,fun b hb=>hs'.keep.block b hb (fun ⟨_,h,_⟩=>absurd h (Nat.not_lt_zero _)) (fun hg=>absurd hg.1.1 (by show ¬ (1000000 ≤ 0);decide))⟩;have fin : ∀ t,(finA te ob' (get tm' t)).rep (grow ok w) xB w' (a'.tmps.getD t undef):=fun t=>finA_rep hs' rfl (hs'.tms t)
    simp only [retQ] at hq;split at hq
    · subst hq;exact ⟨_,results_none hr _ _ _,_,rfl,hbel,[],rfl,rfl⟩
    · rename_i t;subst hq;exact ⟨_,results_tmp hr _ _ _,_,rfl,hbel,fin t⟩
    · rename_i t u;subst hq;exact ⟨_,results_tmp2 hr _ _ _,_,rfl,hbel,[_,_],rfl,_,_,rfl,yU (fin t),_,_,rfl,yU (fin u),rfl⟩
    · rename_i t u v;subst hq;exact ⟨_,results_tmp3 hr _ _ _,_,rfl,hbel,[_,_,_],rfl,_,_,rfl,yU (fin t),_,_,rfl,yU (fin u),_,_,rfl,yU (fin v),rfl⟩
    · exact hq.elim
  | normal =>
    refine StOk.unwind hs0' rfl rfl fun w' hs'=>?_
    have hbel : Below w.heap.size w w':=⟨hs'.keep.os,hs'.keep.tape,hs'.keep.output,hs'.keep.size,fun b hb=>hs'.keep.block b hb (fun ⟨_,h,_⟩=>absurd h (Nat.not_lt_zero _)) (fun hg=>absurd hg.1.1 (by show ¬ (1000000 ≤ 0);decide))⟩;have fin : ∀ t,(finA te ob' (get tm' t)).rep (grow ok w) xB w' (a'.tmps.getD t undef):=fun t=>finA_rep hs' rfl (hs'.tms t)
    simp only [retQ] at hq;split at hq
    · subst hq;exact ⟨_,results_none hr _ _ _,_,rfl,hbel,[],rfl,rfl⟩
    · exact hq.elim
  | exit i=>exact (show False from hq).elim
  | goto l=>exact (show False from hq).elim
  | panic ch=>exact (show False from hq).elim
  | outgrown=>exact (show False from hq).elim
end
def keepT : List Nat → Tm → Tm
  | [],_=>[]
  | t :: r,tm=>(t,get tm t) :: keepT r tm
def resOf (rs : List Nat) (tm : Tm) : A:=match rs with
  | []=>.tup []
  | [t]=>get tm t
  | t :: r=>.tup (cellsB (get tm t) :: more r tm)
where more : List Nat → Tm → List (Bool × List C)
  | [],_=>[]
  | t :: r,tm=>cellsB (get tm t) :: more r tm
def retOK (rs : List Nat) (r : A) (m : Nat) (ob' : Obs) (m' : Nat) (tm : Tm) (ob : Obs) (nx : Nat) : Prop :=
  resOf rs tm = r ∧ leO ob ob' ∧ (match bdTm m' (keepT rs tm),bdOb m' ob',ndOb ob',Nat.ble m' nx,Nat.ble m m' with|true,true,true,true,true=>true|_,_,_,_,_=>false) = true
def retO (rs : List Nat) (r : A) (m : Nat) (ob' : Obs) (m' : Nat) : AQ:=fun e tm ob nx=>match e with
  | .ret=>retOK rs r m ob' m' tm ob nx
  | .normal=>match rs with
    | []=>retOK rs r m ob' m' tm ob nx
    | _=>False
  | _=>False
section
variable {P : Program} {te : List (TypeId × TyI)} {cx : Cx} {tm : Tm} {ob : Obs} {nx : Nat} {ρ : Nat → Option Value} {a : Act} {w : World}
theorem keepT_le : ∀ {rs : List Nat},leT tm (keepT rs tm)
  | []=>trivial
  | [_]=>rfl
  | _ :: t :: r=>⟨rfl,keepT_le (rs:=t :: r)⟩
theorem keepT_get : ∀ {rs : List Nat} {t : Nat},t ∈ rs → get (keepT rs tm) t = get tm t
  | [],_,h=>by cases h
  | s :: r,t,h=>by
    rw [keepT,get_cons];split
    · rename_i e;rw [show s = t from Nat.eq_of_beq_eq_true e]
    · rename_i e;rcases List.mem_cons.1 h with h|h
      · subst h;simp at e
      · exact keepT_get h
theorem StOk.anyD (h : StOk cx tm ob nx ρ a w) {tm' : Tm} {a' : Act} (h1 : a'.tmps.size = cx.N) (h2 : DefOk cx a'.defers w) (h3 : ∀ i,(get tm' i).rep (okOf cx ρ ob) ρ w (a'.tmps.getD i undef)) : StOk cx tm' ob nx ρ a' w :=
  ⟨h1,h2,h3,h.obs,h.nd,h.fresh,h.names,h.nx0,h.sep,h.low,h.keep,h.disj,h.pin,h.glob,h.bags⟩
theorem StOk.anyN (h : StOk cx tm ob nx ρ a w) {N : Nat} {tm' : Tm} {a' : Act} (h1 : a'.tmps.size = N) (h2 : DefOk cx a'.defers w) (h3 : ∀ i,(get tm' i).rep (okOf cx ρ ob) ρ w (a'.tmps.getD i undef)) :
    StOk { cx with N:=N } tm' ob nx ρ a' w :=
  ⟨h1,h2,h3,h.obs,h.nd,h.fresh,h.names,h.nx0,h.sep,h.low,⟨h.keep.os,h.keep.tape,h.keep.output,h.keep.size,h.keep.block,h.keep.shape⟩,h.disj,h.pin,h.glob,h.bags⟩
theorem yC {f : FuncId} {fn : Func} {c : Code} {args : List A} {rs : List Nat} {r : A} {m : Nat} {ob' : Obs} {m' : Nat} (hf : P.funcs[f]? = some fn) (hb : fn.body = some c) (hname : (fn.name == "runtime.NumGoroutine") = false)
    (hr : fn.results = (rs.map ResultVar.tmp).toArray) (hte : TEok P te) (hl : rs.length ≤ 3) (hn : Nat.ble args.length fn.ntmps = true) (h : yS P te fn.ntmps m c (argT 0 args) ob m (retO rs r m ob' m')) (hm : Nat.ble 1000000 m = false:=by rfl) : yE P f args ob m r ob' m':=by
  refine ⟨⟨fn,hf,by rw [hb];rfl,hname⟩,fun cx ρ w vs hN hnx hw hs hvs=>callsIn_wide.1 (callsIn_of_wp_marks (F:=FR none) (n:=0) hf hb trivial ?_)⟩;have hlen:=xU.len hvs;have hn:=Nat.le_of_ble_eq_true hn;have hm : cx.nx0 < 1000000:=by
    rw [hnx];exact Nat.lt_of_not_le fun h=>by rw [Nat.ble_eq_true_of_le h] at hm;cases hm
  let a0 : Act:={ tmps:=vs.toArray ++ Array.replicate (fn.ntmps - vs.toArray.size) undef,defers:=[] }
  have hs0 : StOk { cx with N:=fn.ntmps } (argT 0 args) ob m ρ a0 w:=by
    refine hs.anyN ?_ (DefOk.none hN.2.2) fun i=>?_
    · show (vs.toArray ++ Array.replicate (fn.ntmps - vs.toArray.size) undef).size = fn.ntmps;simp;omega
    · rcases argT_get 0 i hvs with h1|h1
      · have hcell : (vs.toArray ++ Array.replicate (fn.ntmps - vs.toArray.size) undef).getD i undef = if i < 0 then undef else vs.getD (i - 0) undef:=by
          rw [if_neg (Nat.not_lt_zero _),Nat.sub_zero,Array.getD_eq_getD_getElem?,Array.getElem?_append];split
          · simp [List.getD]
          · rename_i hge;rw [Array.getElem?_replicate];simp only [List.size_toArray] at hge ⊢;rw [List.getD,List.getElem?_eq_none (by omega)];split <;> rfl
        show (get (argT 0 args) i).rep _ _ _ ((vs.toArray ++ Array.replicate (fn.ntmps - vs.toArray.size) undef).getD i undef);rw [hcell];exact h1
      · rw [h1];trivial
  unfold yS at h;refine Code.wpIn_mono ?_ (h hte none 0 { cx with N:=fn.ntmps } (noR_free hN.2.1 hN.2.2 (Nat.not_le.2 hm)) rfl hnx ρ a0 w hs0)
  rintro e a' w0' ⟨tm',ob1,nx',ρ',hq,hs0'⟩
  have fin : ∀ w',StOk { cx with N:=fn.ntmps } tm' ob1 nx' ρ' ⟨a'.tmps,[]⟩ w' → retOK rs r m ob' m' tm' ob1 nx' → ∃ u ρ2,(results fn a'.tmps).run P w' = .ok u w' ∧ StOk cx [] ob' m' ρ2 ⟨#[],[]⟩ w' ∧ r.rep (okOf cx ρ2 ob') ρ2 w' u:=by
    rintro w' hs' ⟨h1,h2,h3⟩
    obtain ⟨ρ2,hs2⟩:=(qP (nx0:=m) keepT_le h2 h3).st { cx with N:=fn.ntmps } hnx ρ' _ w' hs';have hs3 : StOk cx [] ob' m' ρ2 ⟨#[],[]⟩ w':=by
      have:=hs2.anyN (N:=cx.N) (tm':=[]) (a':=⟨#[],[]⟩) (by rw [hN.1];rfl) (DefOk.none hN.2.2) (fun _=>trivial);exact this
    have hrep : ∀ t ∈ rs,(get tm' t).rep (okOf cx ρ2 ob') ρ2 w' (a'.tmps.getD t undef):=fun t ht=>by
      have:=hs2.tms t;rw [keepT_get ht] at this;exact this
    subst h1
    match rs,hl,hr,hrep with
    | [],_,hr,_=>exact ⟨_,ρ2,results_none hr _ _ _,hs3,[],rfl,rfl⟩
    | [t],_,hr,hrep=>exact ⟨_,ρ2,results_tmp hr _ _ _,hs3,hrep t (by simp)⟩
    | [t,u],_,hr,hrep=>exact ⟨_,ρ2,results_tmp2 hr _ _ _,hs3,[_,_],rfl,_,_,rfl,yU (hrep t (by simp)),_,_,rfl,yU (hrep u (by simp)),rfl⟩
    | [t,u,v],_,hr,hrep=>exact ⟨_,ρ2,results_tmp3 hr _ _ _,hs3,[_,_,_],rfl,_,_,rfl,yU (hrep t (by simp)),_,_,rfl,yU (hrep u (by simp)),_,_,rfl,yU (hrep v (by simp)),rfl⟩
    | _ :: _ :: _ :: _ :: _,hl,_,_=>simp at hl
  cases e with
  | ret =>
    refine StOk.unwind hs0' hN.2.1 hN.2.2 fun w' hs'=>?_
    obtain ⟨u,ρ2,h1,h2,h3⟩:=fin w' hs' hq;exact ⟨u,h1,u,ρ2,rfl,h2,h3⟩
  | normal =>
    cases rs with
    | nil =>
      refine StOk.unwind hs0' hN.2.1 hN.2.2 fun w' hs'=>?_
      obtain ⟨u,ρ2,h1,h2,h3⟩:=fin w' hs' hq;exact ⟨u,h1,u,ρ2,rfl,h2,h3⟩
    | cons t r'=>exact (show False from hq).elim
  | exit i=>exact (show False from hq).elim
  | goto l=>exact (show False from hq).elim
  | panic ch=>exact (show False from hq).elim
  | outgrown=>exact (show False from hq).elim
end
theorem qH {α : Type} {R : Rd α} : (Rd.sl R).dflt = []:=rfl
theorem qG {α β : Type} {R : Rd α} {S : Rd β} : (Rd.st R S).dflt = (R.dflt,S.dflt):=rfl
theorem qE : Rd.str.dflt = ByteArray.empty:=rfl
theorem qD {k : IntKind} : (Rd.int k).dflt = 0:=rfl
theorem qC : Rd.bool.dflt = false:=rfl
theorem zds : (∀ n : Nat,Int.toNat (n : Int) = n) ∧ (∀ {α : Type} {R : Rd α},(Rd.sl R).dflt = []) ∧ (∀ {α β : Type} {R : Rd α} {S : Rd β},(Rd.st R S).dflt = (R.dflt,S.dflt)) ∧ Rd.str.dflt = ByteArray.empty ∧ (∀ {k : IntKind},(Rd.int k).dflt = 0) ∧ Rd.bool.dflt = false:=⟨Int.toNat_natCast,rfl,rfl,rfl,rfl,rfl⟩
theorem zob {a b : Prop} (y : b) (x : a:=by first|omega|assumption|decide|(simp only [zds];omega)|(simp <;> omega)) : a ∧ b:=⟨x,y⟩
theorem qR {α : Type} {E : TypeId} {R : Rd α} {xs ys : List α} (h : xs = ys) : some (Ob.vec E R xs) = some (Ob.vec E R ys):=by rw [h]
theorem sl_eq {α : Type} {R : Rd α} {xs ys : List α} (h : xs = ys) : A.one (.sl R xs) = A.one (.sl R ys):=by rw [h]
theorem ib_eq {a b : Bool} (h : a = b) : ib a = ib b:=by rw [h]
theorem is_eq {a b : ByteArray} (h : a = b) : is a = is b:=by rw [h]
theorem qT {k : IntKind} {a b : Int} (h : a = b) : ii k a = ii k b:=by rw [h]
theorem yL {α : Type} {l : List α} {i : Nat} (d : α) (h : i < l.length) : l.take i ++ [l.getD i d] = l.take (i + 1):=by
  rw [List.take_succ_eq_append_getElem h];simp [List.getD,List.getElem?_eq_getElem h]
theorem take_any {α : Type} (l : List α) (p : α → Bool) (d : α) (i : Nat) (h : i < l.length) : (l.take (i + 1)).any p = ((l.take i).any p || p (l.getD i d)):=by
  rw [List.take_succ_eq_append_getElem h,List.any_append];simp [List.getD,List.getElem?_eq_getElem h]
theorem yT {α : Type} {l : List α} {i : Nat} (h : i < l.length) (d : α) : l.getD i d ∈ l:=by
  rw [List.getD_eq_getElem?_getD,List.getElem?_eq_getElem h];exact List.getElem_mem h
theorem any_at {α : Type} {l : List α} {p : α → Bool} {i : Nat} (d : α) (h : i < l.length) (hp : p (l.getD i d) = true) : l.any p = true :=
  List.any_eq_true.2 ⟨_,yT h d,hp⟩
section
variable {P : Program} {te : List (TypeId × TyI)} {N nx0 : Nat} {tm : Tm} {ob : Obs} {nx : Nat} {Q : AQ}
theorem yH {c : Code} (ids : List Nat) (h : frz te nx0 ids tm ob fun tm ob=>yS P te N nx0 c tm ob nx Q) : yS P te N nx0 c tm ob nx Q:=by
  unfold yS;intro hte rd n cx hnr e1 e2 ρ a w hs;subst e2;obtain ⟨tm',ob',h1,h2⟩:=frz_sound h hs;unfold yS at h1;exact h1 hte rd n cx hnr e1 rfl ρ a w h2
theorem repL_set1 {ok : Oks} {ρ : Nat → Option Value} {w : World} {c c' : C} : ∀ (j : Nat) {cs : List C} {vs : List Value},nthC cs j = c → j < cs.length → (∀ v,c.rep ok ρ w v → c'.rep ok ρ w v) → repL ok ρ w cs vs → repL ok ρ w (setC j [c'] cs) vs
  | _,[],_,_,hl,_,_=>absurd hl (Nat.not_lt_zero _)
  | 0,d :: cs,_,hj,_,hc,h=>by
    obtain ⟨v,r,e,h1,h2⟩:=h;have hj : d = c:=hj;subst hj;refine ⟨v,r,e,hc v h1,?_⟩;cases cs <;> exact h2
  | j + 1,d :: cs,_,hj,hl,hc,h=>by
    obtain ⟨v,r,e,h1,h2⟩:=h;exact ⟨v,r,e,h1,repL_set1 j hj (by simpa using hl) hc h2⟩
theorem yI {c : Code} (id j : Nat) {T : TypeId} {cs : List C} {α : Type} (E : TypeId) (R : Rd α) (hg : getO ob id = some (.box T cs)) (hj : nthC cs j = .lit (.slice none 0 0)) (hl : Nat.ble (j + 1) (lenC cs) = true)
    (h : yS P te N nx0 c tm ((nx,.vec E R []) :: setO id (.box T (setC j [.vec nx] cs)) ob) (nx + 1) Q) : yS P te N nx0 c tm ob nx Q:=by
  unfold yS at h ⊢;intro hte rd n cx hnr e1 e2 ρ a w hs;obtain ⟨ρ',h1,h2⟩:=new_vec (E:=E) (R:=R) (xs:=[]) (v:=.slice none 0 0) hs (Below.refl _ _) (fun b hb=>by cases hb) ⟨_,_,_,rfl⟩ (fun ok' _=>⟨[],rfl,fun i hi=>absurd hi (by simp),World.ownsRow_nil _ _ _ _⟩);have hne : Nat.beq nx id = false:=by
    have:=hs.fresh _ (yM hg);simp only at this;cases hb : Nat.beq nx id
    · rfl
    · have:=Nat.eq_of_beq_eq_true hb;omega
  have hg1 : getO ((nx,Ob.vec E R []) :: ob) id = some (.box T cs):=by
    unfold getO;simp only [hne];exact hg
  have hset : setO id (.box T (setC j [.vec nx] cs)) ((nx,Ob.vec E R []) :: ob) = (nx,Ob.vec E R []) :: setO id (.box T (setC j [.vec nx] cs)) ob:=by
    rw [setO];simp only [hne]
  have hw:=h1.write (o':=.box T (setC j [.vec nx] cs)) (w':=w) hg1 ⟨rfl,rfl,rfl,Nat.le_refl _,fun _ _ _=>rfl⟩ rfl (by
    obtain ⟨b,vs,r1,r2,r3⟩:=h1.obs _ (yM hg1);refine ⟨b,vs,r1,r2,repL_set1 j hj ?_ (fun v hv=>?_) r3⟩
    · have:=Nat.le_of_ble_eq_true hl;rw [lenC_eq] at this;omega
    · rw [show v = _ from hv];exact h2)
  rw [hset] at hw;exact h hte rd n cx hnr e1 e2 ρ' a w hw
theorem acode_bld {c : Code} (id : Nat) {T : TypeId} {α : Type} (E : TypeId) (R : Rd α) (hg : getO ob id = some (.box T [.lit (.pointer none),.lit (.slice none 0 0)]))
    (h : yS P te N nx0 c tm ((nx,.vec E R []) :: setO id (.box T [.nself false id,.vec nx]) ob) (nx + 1) Q) : yS P te N nx0 c tm ob nx Q:=by
  unfold yS at h ⊢;intro hte rd n cx hnr e1 e2 ρ a w hs;obtain ⟨ρ',h1,h2⟩:=new_vec (E:=E) (R:=R) (xs:=[]) (v:=.slice none 0 0) hs (Below.refl _ _) (fun b hb=>by cases hb) ⟨_,_,_,rfl⟩ (fun ok' _=>⟨[],rfl,fun i hi=>absurd hi (by simp),World.ownsRow_nil _ _ _ _⟩);have hne : Nat.beq nx id = false:=by
    have:=hs.fresh _ (yM hg);simp only at this;cases hb : Nat.beq nx id
    · rfl
    · have:=Nat.eq_of_beq_eq_true hb;omega
  have hg1 : getO ((nx,Ob.vec E R []) :: ob) id = some (.box T [.lit (.pointer none),.lit (.slice none 0 0)]):=by
    unfold getO;simp only [hne];exact hg
  have hset : setO id (.box T [.nself false id,.vec nx]) ((nx,Ob.vec E R []) :: ob) = (nx,Ob.vec E R []) :: setO id (.box T [.nself false id,.vec nx]) ob:=by
    rw [setO];simp only [hne]
  have hw:=h1.write (o':=.box T [.nself false id,.vec nx]) (w':=w) hg1 ⟨rfl,rfl,rfl,Nat.le_refl _,fun _ _ _=>rfl⟩ rfl (by
    obtain ⟨b,vs,r1,r2,v,t,rfl,hv,v2,t2,rfl,hv2,ht⟩:=h1.obs _ (yM hg1);refine ⟨b,_,r1,r2,v,_,rfl,⟨fun e=>by (cases e),fun _=>hv⟩,v2,_,rfl,?_,ht⟩;rw [show v2 = _ from hv2];exact h2)
  rw [hset] at hw;exact h hte rd n cx hnr e1 e2 ρ' a w hw
end
structure Det (P : Program) {α : Type} (s : Sem α) : Prop where
  h : ∀ a w w',s.run P w = .ok a w' → ∀ w2,s.run P w2 = .ok a w2
structure Nev (P : Program) {α : Type} (s : Sem α) : Prop where
  h : ∀ a w w',s.run P w ≠ .ok a w'
section
variable {P : Program} {α β : Type}
theorem Nev.det {s : Sem α} (h : Nev P s) : Det P s:=⟨fun a w w' e=>absurd e (h.h a w w')⟩
theorem nev_bind {s : Sem α} {f : α → Sem β} (h : ∀ a,Nev P (f a)) : Nev P (s >>= f):=by
  refine ⟨fun b w w' e=>?_⟩;rw [Sem.run_bind] at e;cases hs : s.run P w with
  | ok a w1=>rw [hs] at e;exact (h a).h b w1 w' e
  | halt x w1=>rw [hs] at e;cases e
theorem xE {s : Sem α} {f : α → Sem β} (h : Det P s) (h2 : ∀ a,Det P (f a)) : Det P (s >>= f):=by
  refine ⟨fun b w w' e w2=>?_⟩;rw [Sem.run_bind] at e ⊢;cases hs : s.run P w with
  | ok a w1=>rw [hs] at e;rw [h.h a w w1 hs w2];exact (h2 a).h b w1 w' e w2
  | halt x w1=>rw [hs] at e;cases e
theorem yP (a : α) : Det P (pure a : Sem α):=⟨by intro b w w' e w2;cases e;rfl⟩
theorem det_program : Det P program:=⟨by intro b w w' e w2;cases e;rfl⟩
theorem xQ (h : Halt) : Nev P (Sem.halt h : Sem α):=⟨fun a w w' e=>by cases e⟩
theorem nev_panic (e : RuntimeError) : Nev P (runtimePanic e : Sem α):=by
  unfold runtimePanic;refine nev_bind fun p=>?_
  cases e <;> first|exact xQ _|(repeat' (first|exact xQ _|(refine nev_bind fun _=>?_)))
theorem nev_bounds (k : IntKind) (x y : Int) (c : BoundsCode) : Nev P (boundsPanic k x y c : Sem α):=by
  unfold boundsPanic
  dsimp only
  split <;> exact nev_bind fun _=>nev_panic _
theorem det_underlying (t : TypeId) : Det P (underlying t):=by
  unfold underlying
  repeat' (first|exact yP _|exact det_program|exact (xQ _).det|apply xE|intro _|split)
theorem det_asIntOf (v : Value) : Det P (asIntOf v):=by
  unfold asIntOf
  repeat' (first|exact yP _|exact (xQ _).det|split)
theorem det_asBool (v : Value) : Det P (asBool v):=by
  unfold asBool
  repeat' (first|exact yP _|exact (xQ _).det|split)
theorem det_sizeOf (t : TypeId) : Det P (sizeOf t):=by
  unfold sizeOf typeInfo
  repeat' (first|exact yP _|exact det_program|exact (xQ _).det|apply xE|intro _|split)
theorem det_sureAddr (v : Value) : Det P (Instr.sureAddr v):=by
  unfold Instr.sureAddr
  repeat' (first|exact yP _|exact (xQ _).det|split)
theorem det_indexAt (t : TypeId) (x i : Value) : Det P (Instr.indexAt t x i):=by
  unfold Instr.indexAt
  dsimp only
  repeat' (first|exact yP _|exact (nev_bounds _ _ _ _).det|exact (xQ _).det|exact det_underlying _|exact det_asIntOf _|exact det_sizeOf _|exact det_sureAddr _|apply xE|intro _|split)
theorem det_index (t : TypeId) (x : ByteArray) (i : Value) : Det P (Instr.index t (.string x) i):=by
  unfold Instr.index
  repeat' (first|exact yP _|exact (nev_bounds _ _ _ _).det|exact (xQ _).det|exact det_underlying _|exact det_asIntOf _|apply xE|intro _|(rename_i h;cases h;done)|split)
theorem det_bound (x : Value) (y : Nat) (c : BoundsCode) : Det P (Instr.sliceBound x y c):=by
  unfold Instr.sliceBound
  repeat' (first|exact yP _|exact (nev_bounds _ _ _ _).det|exact det_asIntOf _|apply xE|intro _|split)
theorem det_bounds (b : Bool) (l c : Nat) (x y z : Option Value) : Det P (Instr.sliceBounds b l c x y z):=by
  unfold Instr.sliceBounds
  dsimp only
  repeat' (first|exact yP _|exact det_bound _ _ _|exact (xQ _).det|apply xE|intro _|split)
theorem det_asAddr (v : Value) : Det P (asAddr v):=by
  unfold asAddr
  repeat' (first|exact yP _|exact (nev_panic _).det|exact (xQ _).det|split)
theorem det_slice (t : TypeId) (x : Value) (a b c : Option Value) : Det P (Instr.slice t x a b c):=by
  unfold Instr.slice
  dsimp only
  repeat' (first|exact yP _|exact det_bounds _ _ _ _ _ _|exact (xQ _).det|exact det_underlying _|exact det_asAddr _|exact det_sizeOf _|apply xE|intro _|split)
theorem det_sliceAt (t : TypeId) (x : Value) (a b c : Option Value) : Det P (Instr.sliceAt t x a b c):=by
  unfold Instr.sliceAt
  repeat' (first|exact yP _|exact det_slice _ _ _ _ _|exact det_bounds _ _ _ _ _ _|exact (xQ _).det|exact det_underlying _|exact det_sureAddr _|exact det_sizeOf _|apply xE|intro _|split)
theorem det_field (t : TypeId) (x : Value) (f : Nat) : Det P (Instr.field t x f):=by
  unfold Instr.field asAgg part isAgg
  repeat' (first|exact yP _|exact (xQ _).det|exact det_underlying _|exact det_sizeOf _|exact det_program|apply xE|intro _|split)
theorem det_extract (v : Value) (i : Nat) : Det P (Instr.extract v i):=by
  unfold Instr.extract
  repeat' (first|exact yP _|exact (xQ _).det|split)
theorem det_ints (o : BinOp) (t : TypeId) (k k' : IntKind) (a b : Int) (h : (match o with|.shl|.shr=>false|_=>true) = true) : Det P (binOp o t (.int k a) (.int k' b)):=by
  cases o <;> first
    | exact absurd h (by decide)
    | (change Det P (ite (k ≠ k') _ _)
       split
       · exact (xQ _).det
       · first
         | exact yP _
         | (change Det P (ite (b = 0) _ _)
            split
            · exact (nev_panic _).det
            · exact yP _)
         | exact (xQ _).det)
theorem det_strs (o : BinOp) (t : TypeId) (a b : ByteArray) : Det P (binOp o t (.string a) (.string b)):=by
  cases o <;> first
    | exact yP _
    | (change Det P (ite _ _ _)
       split
       · exact (xQ _).det
       · exact yP _)
    | exact (xQ _).det
theorem guard_ints (o : BinOp) (t : TypeId) (x y : Operand) (k k' : IntKind) (a b : Int) : Det P (eqGuard o t x y (.int k a) (.int k' b)):=by
  unfold eqGuard
  repeat' (first|exact yP _|apply xE|intro _|split)
theorem guard_strs (o : BinOp) (t : TypeId) (x y : Operand) (a b : ByteArray) : Det P (eqGuard o t x y (.string a) (.string b)):=by
  unfold eqGuard
  repeat' (first|exact yP _|apply xE|intro _|split)
end
def lits2 (lk : Operand → A) (x y : Operand) : Bool:=match lk x,lk y with
  | .one (.lit (.int _ _)),.one (.lit (.int _ _))=>true
  | .one (.lit (.string _)),.one (.lit (.string _))=>true
  | _,_=>false
def lenB (lk : Operand → A) (c : Call) : Bool:=match c.callee,c.args.toList,c.argTypes.toList with
  | .builtin .len,[x],[_]=>match lk x with
    | .one (.slk _ _ _)=>true
    | _=>false
  | _,_,_=>false
def lightB (lk : Operand → A) (op : Op) : Bool:=match op with
  | .move _=>true
  | .assign _=>true
  | .binOp o _ x y _=>(match o with|.shl|.shr=>false|_=>true) && lits2 lk x y
  | .slice _ _ _ _ _=>true
  | .indexAddr _ _ _=>true
  | .field _ _ _=>true
  | .extract _ _=>true
  | .pick _ _ _=>true
  | .index _ x _=>match lk x with
    | .one (.lit (.string _))=>true
    | _=>false
  | .nilCheck x=>match lk x with
    | .one (.own _ _)=>true
    | .one (.adk _ _ _)=>true
    | _=>false
  | .fieldAddr _ x _=>match lk x with
    | .one (.own _ _)=>true
    | .one (.adk _ _ _)=>true
    | .one (.vel _ _ _)=>true
    | _=>false
  | .call c=>lenB lk c
  | _=>false
theorem det_len {P : Program} (t ty : TypeId) (a : Option Addr) (n c : Nat) : Det P (Builtin.len_ #[t] ty #[.slice a n c]):=by
  unfold Builtin.len_
  repeat' (first|exact yP _|exact (xQ _).det|exact det_underlying _|(rename_i h;simp at h;done)|apply xE|intro _|split)
section
variable {P : Program} {te : List (TypeId × TyI)} {cx : Cx} {tm : Tm} {ob : Obs} {nx : Nat} {ρ : Nat → Option Value} {a : Act} {w : World}
theorem light_det {te : List (TypeId × TyI)} (hte : TEok P te) {lk : Operand → A} {o : Oper} (h : lightB lk o.op = true) (hobl : (opv te ob lk o.op).obl) (hlk : ∀ x ∈ o.op.operands.toList,(lk x).rep (okOf cx ρ ob) ρ w (a.eval x)) : Det P (execOp a.eval o):=by
  obtain ⟨dst,op,type,pos,after,guard⟩:=o;simp only at h hobl;cases op <;> first|cases h|skip
  case move x=>exact yP _
  case pick c x y=>exact xE (det_asBool _) fun _=>yP _
  case assign x=>exact yP _
  case slice t x lo hi mx=>exact xE (det_sliceAt _ _ _ _ _) fun _=>yP _
  case indexAddr t x i=>exact xE (det_indexAt _ _ _) fun _=>yP _
  case call c =>
    obtain ⟨callee,args,ts⟩:=c;have hL : lenB lk ⟨callee,args,ts⟩ = true:=h;clear h;unfold lenB at hL;split at hL
    · rename_i x t e0 e1 e2;have a0 : callee = .builtin .len:=e0;have a1 : args = #[x]:=by apply Array.toList_inj.1;rw [e1]
      have a2 : ts = #[t]:=by apply Array.toList_inj.1;rw [e2]
      subst a0 a1 a2;split at hL
      · rename_i e3;have hx:=hlk x (by simp [Op.operands,Call.operands]);rw [e3] at hx;obtain ⟨ad,cap,hv,_⟩:=hx;have he : execOp a.eval { dst:=dst,op:=.call { callee:=.builtin .len,args:=#[x],argTypes:=#[t] },type:=type,pos:=pos,after:=after,guard:=guard } = (do pure (.value (← Builtin.len_ #[t] type #[a.eval x]))):=by simp [execOp,resolve,invoke,builtin]
        rw [he,hv];exact xE (det_len _ _ _ _ _) fun _=>yP _
      · cases hL
    · cases hL
  case field t x f=>exact xE (det_field _ _ _) fun _=>yP _
  case extract t i=>exact xE (det_extract _ _) fun _=>yP _
  case nilCheck x =>
    simp only [lightB] at h;split at h
    · rename_i id off e;have hx:=hlk x (by simp [Op.operands]);rw [e] at hx;obtain ⟨b,_,hv⟩:=hx;show Det P (match a.eval x with|.pointer none|.nilIface|.nilFunc=>_|.func (.method _) _ _=>_|_=>_);rw [hv];exact yP _
    · rename_i e;have hx:=hlk x (by simp [Op.operands]);rw [e] at hx;obtain ⟨b,off,cs,hv,_⟩:=hx;show Det P (match a.eval x with|.pointer none|.nilIface|.nilFunc=>_|.func (.method _) _ _=>_|_=>_);rw [hv];exact yP _
    · cases h
  case fieldAddr t x f =>
    simp only [lightB] at h;split at h
    · rename_i id off e;have ho : (vFld te t (lk x) f).obl:=hobl;rw [e] at ho;unfold vFld at ho;split at ho
      · rename_i i hi;have hk:=(yN hte hi).kind;split at ho
        · rename_i fs hfs;rw [hfs] at hk;simp only at ho;split at ho
          · rename_i o' he;obtain ⟨ty,he⟩:=nthF_eq he;have hx:=hlk x (by simp [Op.operands]);rw [e] at hx;obtain ⟨b,_,hv⟩:=hx;show Det P (do pure (Next.value (← Instr.fieldAt t (a.eval x) f)));rw [hv];refine xE ⟨fun u w1 w2 e1 w3=>?_⟩ fun _=>yP _
            rw [run_fieldAt hk he _] at e1 ⊢;cases e1;rfl
          · exact ho.elim
        · exact ho.elim
      · exact ho.elim
    · rename_i e;have ho : (vFld te t (lk x) f).obl:=hobl;rw [e] at ho;unfold vFld at ho;split at ho
      · rename_i i hi;have hk:=(yN hte hi).kind;split at ho
        · rename_i fs hfs;rw [hfs] at hk;simp only at ho;split at ho
          · rename_i β S y he;have hx:=hlk x (by simp [Op.operands]);rw [e] at hx;obtain ⟨b,off,cs,hv,_,_,hc,hr⟩:=hx;obtain ⟨o,ty,ds,h1,_,_⟩:=fldR_sound (off:=off) he (by simpa using hc) hr;show Det P (do pure (Next.value (← Instr.fieldAt t (a.eval x) f)));rw [hv];refine xE ⟨fun u w1 w2 e1 w3=>?_⟩ fun _=>yP _
            rw [run_fieldAt hk h1 _] at e1 ⊢;cases e1;rfl
          · exact ho.elim
        · exact ho.elim
      · exact ho.elim
    · rename_i id k n e;have ho : (vFld te t (lk x) f).obl:=hobl;rw [e] at ho;unfold vFld at ho;split at ho
      · rename_i i hi;have hk:=(yN hte hi).kind;split at ho
        · rename_i fs hfs;rw [hfs] at hk;simp only at ho;split at ho
          · rename_i o' he;obtain ⟨ty,he⟩:=nthF_eq he;have hx:=hlk x (by simp [Op.operands]);rw [e] at hx;obtain ⟨b,m,cap,_,hv⟩:=hx;show Det P (do pure (Next.value (← Instr.fieldAt t (a.eval x) f)));rw [hv];refine xE ⟨fun u w1 w2 e1 w3=>?_⟩ fun _=>yP _
            rw [run_fieldAt hk he _] at e1 ⊢;cases e1;rfl
          · exact ho.elim
        · exact ho.elim
      · exact ho.elim
    · cases h
  case index t x i =>
    simp only [lightB] at h;split at h
    · rename_i s e;have hx:=hlk x (by simp [Op.operands]);rw [e] at hx;have hx : a.eval x = .string s:=hx;show Det P (do pure (Next.value (← Instr.index t (a.eval x) (a.eval i))));rw [hx];exact xE (det_index _ _ _) fun _=>yP _
    · cases h
  case binOp op t x y ty =>
    simp only [lightB,Bool.and_eq_true] at h;obtain ⟨h1,h2⟩:=h;show Det P ((eqGuard op t x y (a.eval x) (a.eval y) >>= fun _=>Go.binOp op t (a.eval x) (a.eval y)) >>= fun v=>pure (Next.value v));unfold lits2 at h2;have hx:=hlk x (by simp [Op.operands]);have hy:=hlk y (by simp [Op.operands]);split at h2
    · rename_i k m k' m' e1 e2;rw [e1] at hx;rw [e2] at hy;rw [show a.eval x = .int k m from hx,show a.eval y = .int k' m' from hy];exact xE (xE (guard_ints _ _ _ _ _ _ _ _) fun _=>det_ints _ _ _ _ _ _ h1) fun _=>yP _
    · rename_i s s' e1 e2;rw [e1] at hx;rw [e2] at hy;rw [show a.eval x = .string s from hx,show a.eval y = .string s' from hy];exact xE (xE (guard_strs _ _ _ _ _ _) fun _=>det_strs _ _ _ _) fun _=>yP _
    · cases h2
def ordQ (cx : Cx) (K : Tm → Obs → Nat → Prop) : Exit → Act → World → Prop:=fun e a w=>e = .normal ∧ ∃ tm ob nx ρ,K tm ob nx ∧ StOk cx tm ob nx ρ a w
def AOrd (P : Program) (te : List (TypeId × TyI)) (N nx0 : Nat) (ops : Array Oper) (fuel : Nat) (listed : Array Bool) (tm : Tm) (ob : Obs) (nx : Nat) (K : Tm → Obs → Nat → Prop) : Prop :=
  TEok P te → ∀ cx : Cx,cx.N = N → cx.nx0 = nx0 → ∀ ρ a w,StOk cx tm ob nx ρ a w → wpAny P .any ops (ordQ cx K) fuel listed a w
variable {N nx0 : Nat} {ops : Array Oper} {fuel : Nat} {listed : Array Bool} {K : Tm → Obs → Nat → Prop}
theorem aord_done (hr : Region.ready .any ops listed = []) (h : K tm ob nx) : AOrd P te N nx0 ops fuel listed tm ob nx K :=
  fun _ _ _ _ ρ _ _ hs=>wpAny_done hr ⟨rfl,tm,ob,nx,ρ,h,hs⟩ fuel
theorem qS (h : K tm ob nx) (hr : Region.ready .any ops listed = []:=by kernel_rfl) : AOrd P te N nx0 ops fuel listed tm ob nx K:=aord_done hr h
theorem aord_light (i : Nat) {o : Oper} (hi : ops[i]? = some o) (hg : o.guard = none) (hl : lightB (look tm) o.op = true) (hc : (Region.noSelect ops && (Region.free .any ops listed i && (Region.ready .any ops listed).contains i)) = true)
    (h : vrK (opv te ob (look tm) o.op) fun v=>put N o.dst v tm fun tm=>AOrd P te N nx0 ops fuel (listed.setIfInBounds i true) tm ob nx K) : AOrd P te N nx0 ops (fuel + 1) listed tm ob nx K:=by
  intro hte cx h1 h2 ρ a w hs;subst h1 h2;simp only [Bool.and_eq_true] at hc;have hobl : (opv te ob (look tm) o.op).obl ∧ ((opv te ob (look tm) o.op).fact → put cx.N o.dst (opv te ob (look tm) o.op).val tm fun tm=>AOrd P te cx.N cx.nx0 ops fuel (listed.setIfInBounds i true) tm ob nx K):=by
    unfold vrK at h;split at h
    · rename_i v e;rw [e];exact ⟨trivial,fun _=>h⟩
    · rename_i p v e;rw [e];exact ⟨h.1,fun _=>h.2⟩
    · rename_i p v e;rw [e];exact ⟨trivial,fun hp=>h hp⟩
    · exact h.elim
  obtain ⟨⟨u,w',hrun,hb,hrep⟩,hf⟩:=opv_sound hte hobl.1 (fun x _=>hs.look x) hs.obs;have hd:=(light_det (cx:=cx) (ρ:=ρ) (w:=w) (a:=a) hte hl hobl.1 (fun x _=>hs.look x)).h _ _ _ hrun;have hw : w' = w:=by have:=hd w;rw [hrun] at this;cases this;rfl
  subst hw;obtain ⟨tm',h3,h4⟩:=hs.put (hobl.2 hf) (rep_grow hs (Below.refl _ _) hrep);exact wpAny_take hi hc.1 hc.2.1 hc.2.2 (fun c a w hq=>(by cases hq.1)) (.inl ⟨by simp [Region.wanted,hg],hd⟩) (h3 hte cx rfl rfl ρ _ _ h4)
theorem qN (i : Nat) {o : Oper} (hi : ops[i]? = some o) (h : vrK (opv te ob (look tm) o.op) fun v=>put N o.dst v tm fun tm=>AOrd P te N nx0 ops fuel (listed.setIfInBounds i true) tm ob nx K) (hg : o.guard = none:=by exact rfl) (hl : lightB (look tm) o.op = true:=by exact rfl) (hc : (Region.noSelect ops && (Region.free .any ops listed i && (Region.ready .any ops listed).contains i)) = true:=by kernel_rfl) : AOrd P te N nx0 ops (fuel + 1) listed tm ob nx K:=aord_light i hi hg hl hc h
def allR (F : Nat → Prop) : List Nat → Prop
  | []=>True
  | [i]=>F i
  | i :: r=>F i ∧ allR F r
theorem allR_spec {F : Nat → Prop} : ∀ {l : List Nat},allR F l → ∀ i ∈ l,F i
  | [],_,_,h=>by cases h
  | [i],h,j,hj=>by rw [List.mem_singleton.1 hj];exact h
  | i :: k :: r,h,j,hj=>by
    rcases List.mem_cons.1 hj with rfl|hj
    · exact h.1
    · exact allR_spec (l:=k :: r) h.2 j hj
def oneR (P : Program) (te : List (TypeId × TyI)) (N nx0 : Nat) (ops : Array Oper) (fuel : Nat) (listed : Array Bool) (tm : Tm) (ob : Obs) (nx : Nat) (K : Tm → Obs → Nat → Prop) (i : Nat) : Prop :=
  match ops[i]? with
  | some o=>match o.guard with
    | none=>aop P te N nx0 o tm ob nx fun tm ob nx=>AOrd P te N nx0 ops fuel (listed.setIfInBounds i true) tm ob nx K
    | some (j,want)=>match dstAt ops.toList j with
      | some d=>match Nat.ble (d + 1) N,get tm d with
        | true,.one (.lit (.bool b))=>aopQ P te N nx0 o (gq want b) tm ob nx fun tm ob nx=>AOrd P te N nx0 ops fuel (listed.setIfInBounds i true) tm ob nx K
        | true,.cond p (.one (.lit (.bool b)))=>aopQ P te N nx0 o (p && gq want b) tm ob nx fun tm ob nx=>AOrd P te N nx0 ops fuel (listed.setIfInBounds i true) tm ob nx K
        | _,_=>False
      | none=>False
  | none=>False
theorem aopG_light (hte : TEok P te) {o : Oper} {q : Bool} {K : Tm → Prop} (hl : lightB (bareLk tm) o.op = true) (h : aopG P te cx.N o q tm ob K) (hs : StOk cx tm ob nx ρ a w) :
    ∃ v tm',((q = true ∧ ∀ w2,(execOp a.eval o).run P w2 = .ok (.value v) w2) ∨ (q = false ∧ v = undef)) ∧ K tm' ∧ StOk cx tm' ob nx ρ (a.put o.dst v) w:=by
  have fin : ∀ {v : A},put cx.N o.dst (.cond q v) tm K → (q = true → Yld P o a.eval (okOf cx ρ ob) ρ w v ∧ Det P (execOp a.eval o)) → ∃ v tm',((q = true ∧ ∀ w2,(execOp a.eval o).run P w2 = .ok (.value v) w2) ∨ (q = false ∧ v = undef)) ∧ K tm' ∧ StOk cx tm' ob nx ρ (a.put o.dst v) w:=by
    intro v hp hy;cases hq : q with
    | false =>
      obtain ⟨tm',h1,h2⟩:=hs.put hp (u:=undef) ⟨fun e=>by (rw [hq] at e;cases e),fun _=>rfl⟩;exact ⟨undef,tm',.inr ⟨rfl,rfl⟩,h1,h2⟩
    | true =>
      obtain ⟨⟨u,w',h1,h2,h3⟩,hd⟩:=hy hq;have hd:=hd.h _ _ _ h1;have hw : w' = w:=by have:=hd w;rw [h1] at this;cases this;rfl
      subst hw;obtain ⟨tm',h4,h5⟩:=hs.put hp (u:=u) ⟨fun _=>rep_grow hs h2 h3,fun e=>by rw [hq] at e;cases e⟩;exact ⟨u,tm',.inl ⟨rfl,hd⟩,h4,h5⟩
  unfold aopG at h;split at h
  · rename_i hop;rw [hop] at hl;cases hl
  · rename_i c x y hop;have yes : ∀ {v : Vr},v = vPick (bareLk tm c) (look tm x) (look tm y) → v.obl → wereL tm [c] → Yld P o a.eval (okOf cx ρ ob) ρ w v.val ∧ Det P (execOp a.eval o):=by
      intro v hv ho hw;subst hv;have hpk:=vPick_sound (P:=P) ho (A.bare_rep (xN hw c (by simp)) (hs.look c)) (hs.look x) (hs.look y);refine ⟨(Yld.of (o:=o) (ev:=a.eval) (by
        unfold execOp;simp only [hop,bind_assoc]
        congr 1
        funext p
        cases p <;> rfl) hpk).1,?_⟩
      unfold execOp;simp only [hop];exact xE (det_asBool _) fun _=>yP _
    split at h
    · rename_i v e;exact fin h.2 fun hq=>yes (v:=.ok v) e.symm trivial (h.1 hq)
    · rename_i p v e;exact fin h.2 fun hq=>yes (v:=.need p v) e.symm (h.1 hq).2 (h.1 hq).1
    · exact h.elim
  · have yes : ∀ {v : Vr},v = opv te ob (bareLk tm) o.op → v.obl → wereL tm o.op.operands.toList → Yld P o a.eval (okOf cx ρ ob) ρ w v.val ∧ Det P (execOp a.eval o):=by
      intro v hv ho hw;subst hv;have hlk : ∀ x ∈ o.op.operands.toList,(bareLk tm x).rep (okOf cx ρ ob) ρ w (a.eval x):=fun x hx=>A.bare_rep (xN hw x hx) (hs.look x)
      exact ⟨(opv_sound hte ho hlk hs.obs).1,light_det (cx:=cx) (ρ:=ρ) (w:=w) (a:=a) hte hl ho hlk⟩
    split at h
    · rename_i v e;exact fin h.2 fun hq=>yes (v:=.ok v) e.symm trivial (h.1 hq)
    · rename_i p v e;exact fin h.2 fun hq=>yes (v:=.need p v) e.symm (h.1 hq).2 (h.1 hq).1
    · rename_i p v e;exact fin h.2 fun hq=>yes (v:=.know p v) e.symm trivial (h.1 hq)
    · exact h.elim
theorem xI (i : Nat) {o : Oper} (hi : ops[i]? = some o) {g : Nat × Bool} (hg : o.guard = some g) (hl : lightB (bareLk tm) o.op = true) (hc : (Region.noSelect ops && (Region.free .any ops listed i && (Region.ready .any ops listed).contains i)) = true)
    (h : oneR P te N nx0 ops fuel listed tm ob nx K i) : AOrd P te N nx0 ops (fuel + 1) listed tm ob nx K:=by
  intro hte cx h1 h2 ρ a w hs;subst h1 h2;simp only [Bool.and_eq_true] at hc;have go : ∀ {q : Bool},Region.wanted o (yielded ops a.tmps) = q → aopQ P te cx.N cx.nx0 o q tm ob nx (fun tm ob nx=>AOrd P te cx.N cx.nx0 ops fuel (listed.setIfInBounds i true) tm ob nx K) → wpAny P .any ops (ordQ cx K) (fuel + 1) listed a w:=by
    intro q hw h;have h : aopG P te cx.N o q tm ob (fun tm=>AOrd P te cx.N cx.nx0 ops fuel (listed.setIfInBounds i true) tm ob nx K):=by
      unfold aopQ at h;split at h
      · rename_i e;rw [e] at hl;cases hl
      · rename_i e;rw [e] at hl;cases hl
      · exact h
    obtain ⟨v,tm',h3,h4,h5⟩:=aopG_light hte hl h hs;refine wpAny_take hi hc.1 hc.2.1 hc.2.2 (fun c a w hq=>(by cases hq.1)) ?_ (h4 hte cx rfl rfl ρ _ _ h5);rcases h3 with ⟨h6,h7⟩|⟨h6,h7⟩
    · exact .inl ⟨hw.trans h6,h7⟩
    · exact .inr ⟨hw.trans h6,h7⟩
  unfold oneR at h;rw [hi] at h;simp only [hg] at h;split at h
  · rename_i d hd;split at h
    · rename_i b hlt hb;exact go (wanted_at hs hg hd hlt hb) h
    · rename_i p b hlt hb;exact go (wanted_at' hs hg hd hlt hb) h
    · exact h.elim
  · exact h.elim
theorem aord_all (rs : List Nat) (hr : Region.ready .any ops listed = rs) (hne : rs.isEmpty = false) (h : allR (oneR P te N nx0 ops fuel listed tm ob nx K) rs) : AOrd P te N nx0 ops (fuel + 1) listed tm ob nx K:=by
  intro hte cx h1 h2 ρ a w hs;subst h1 h2;refine wpAny_all hr (fun e=>by rw [e] at hne;cases hne) fun i hi=>?_
  have:=allR_spec h i hi;unfold oneR at this;unfold wpOp;split at this
  · rename_i o ho;split at this
    · rename_i hg;rw [ho];simp only;rw [if_pos (by simp [Region.wanted,hg])];exact .inl (aop_sound hte this hs fun tm ob nx ρ a w hk hs=>hk hte cx rfl rfl ρ a w hs)
    · rename_i j want hg;rw [ho];simp only;have go : ∀ {q : Bool},Region.wanted o (yielded ops a.tmps) = q → aopQ P te cx.N cx.nx0 o q tm ob nx (fun tm ob nx=>AOrd P te cx.N cx.nx0 ops fuel (listed.setIfInBounds i true) tm ob nx K) → if Region.wanted o (yielded ops a.tmps) = true then o.wp P a w (wpAny P .any ops (ordQ cx K) fuel (listed.setIfInBounds i true)) (ordQ cx K) ∨ (o.asks P a w ∧ LetsOut (ordQ cx K)) else wpAny P .any ops (ordQ cx K) fuel (listed.setIfInBounds i true) (a.put o.dst undef) w:=by
        intro q hw h;obtain ⟨h3,h4⟩:=aopQ_sound (Q:=ordQ cx K) (next:=wpAny P .any ops (ordQ cx K) fuel (listed.setIfInBounds i true)) hte h hs (fun tm ob nx ρ a w hk hs=>hk hte cx rfl rfl ρ a w hs);split
        · rename_i e;exact .inl (h3 (hw.symm.trans e))
        · rename_i e;exact h4 (hw.symm.trans (by simpa using e))
      split at this
      · rename_i d hd;split at this
        · rename_i b hlt hb;exact go (wanted_at hs hg hd hlt hb) this
        · rename_i p b hlt hb;exact go (wanted_at' hs hg hd hlt hb) this
        · exact this.elim
      · exact this.elim
  · exact this.elim
theorem qF (rs : List Nat) (h : allR (oneR P te N nx0 ops fuel listed tm ob nx K) rs) (hr : Region.ready .any ops listed = rs:=by kernel_rfl) (hne : rs.isEmpty = false:=by exact rfl) : AOrd P te N nx0 ops (fuel + 1) listed tm ob nx K:=aord_all rs hr hne h
theorem yK {id : Nat} {Q : AQ} (hm : (P.follows .mixedOrders && noDefer ops.toList) = true) (h : AOrd P te N nx0 ops ops.size (Array.replicate ops.size false) tm ob nx (fun tm ob nx=>Q .normal tm ob nx)) : yS P te N nx0 (.region id ops true) tm ob nx Q:=by
  unfold yS;intro hte rd n cx _ e1 e2 ρ a w hs;rw [Bool.and_eq_true] at hm;have hs' : StOk cx tm ob nx ρ a { w with drawn:=w.drawn + 1 }:=hs.below ⟨rfl,rfl,rfl,Nat.le_refl _,fun _ _=>rfl⟩;refine wpIn_mono (region_fr (id:=id) hm.1 hm.2 (by rintro ⟨_,_,h,_⟩;cases h) (h hte cx e1 e2 ρ a _ hs')) ?_
  rintro e a' w' ⟨rfl,tm',ob',nx',ρ',hk,hs'⟩
  exact ⟨tm',ob',nx',ρ',hk,hs'⟩
end
def cellV (te : List (TypeId × TyI)) (ob : Obs) (ty : TypeId) (x : A) : Option A:=match x with
  | .one (.own id off)=>match find te ty,getO ob id with
    | some i,some (.box _ cs)=>match ldBox i off cs with
      | .ok v=>some v
      | _=>none
    | _,_=>none
  | _=>none
def retQC (te : List (TypeId × TyI)) (rs : List ResultVar) (r : A) : AQ:=fun e tm ob _=>match e with
  | .ret=>match rs with
    | [.cell t ty]=>match cellV te ob ty (get tm t) with
      | some v=>finA te ob v = r
      | none=>False
    | [.cell t ty,.tmp u]=>match cellV te ob ty (get tm t) with
      | some v=>.tup [cellsB (finA te ob v),cellsB (finA te ob (get tm u))] = r
      | none=>False
    | [.cell t ty,.cell u uy]=>match cellV te ob ty (get tm t),cellV te ob uy (get tm u) with
      | some v,some x=>.tup [cellsB (finA te ob v),cellsB (finA te ob x)] = r
      | _,_=>False
    | [.cell t ty,.tmp u,.tmp x]=>match cellV te ob ty (get tm t) with
      | some v=>.tup [cellsB (finA te ob v),cellsB (finA te ob (get tm u)),cellsB (finA te ob (get tm x))] = r
      | none=>False
    | [.cell t ty,.tmp u,.tmp x,.tmp y]=>match cellV te ob ty (get tm t) with
      | some v=>.tup [cellsB (finA te ob v),cellsB (finA te ob (get tm u)),cellsB (finA te ob (get tm x)),cellsB (finA te ob (get tm y))] = r
      | none=>False
    | _=>False
  | _=>False
theorem results_cell_3 {fn : Func} {p q r : Tmp} {ty : TypeId} (h : fn.results = #[.cell p ty,.tmp q,.tmp r]) (tmps : Array Value) (P : Program) (w : World) :
    (results fn tmps).run P w = ((asAddr (tmps.getD p undef)).run P w).andThen fun a w₁=>((loadVar ty a).run P w₁).andThen fun v w₂=>.ok (.tuple #[v,tmps.getD q undef,tmps.getD r undef]) w₂:=by
  simp only [results,h];simp [Sem.run_bind,Result.andThen]
theorem results_cell_4 {fn : Func} {p q r s : Tmp} {ty : TypeId} (h : fn.results = #[.cell p ty,.tmp q,.tmp r,.tmp s]) (tmps : Array Value) (P : Program) (w : World) :
    (results fn tmps).run P w = ((asAddr (tmps.getD p undef)).run P w).andThen fun a w₁=>((loadVar ty a).run P w₁).andThen fun v w₂=>.ok (.tuple #[v,tmps.getD q undef,tmps.getD r undef,tmps.getD s undef]) w₂:=by
  simp only [results,h];simp [Sem.run_bind,Result.andThen]
theorem results_cell {fn : Func} {p : Tmp} {ty : TypeId} (h : fn.results = #[.cell p ty]) (tmps : Array Value) (P : Program) (w : World) :
    (results fn tmps).run P w = ((asAddr (tmps.getD p undef)).run P w).andThen fun a w₁=>(loadVar ty a).run P w₁:=by
  simp only [results,h];simp [Sem.run_bind,Result.andThen]
theorem results_cell2 {fn : Func} {p q : Tmp} {ty uy : TypeId} (h : fn.results = #[.cell p ty,.cell q uy]) (tmps : Array Value) (P : Program) (w : World) :
    (results fn tmps).run P w = ((asAddr (tmps.getD p undef)).run P w).andThen fun a w₁=>((loadVar ty a).run P w₁).andThen fun v w₂=>((asAddr (tmps.getD q undef)).run P w₂).andThen fun b w₃=>((loadVar uy b).run P w₃).andThen fun u w₄=>.ok (.tuple #[v,u]) w₄:=by
  simp only [results,h];simp [Sem.run_bind,Result.andThen]
section
variable {P : Program} {te : List (TypeId × TyI)} {cx : Cx} {tm : Tm} {ob : Obs} {nx : Nat} {ρ : Nat → Option Value} {a : Act} {w : World}
theorem box_load {i : TyI} {t : TypeId} {b off : Nat} {T : TypeId} {vs : List Value} {cs : List C} (hok : TyOk P t i) (hb : w.heap[b]? = some (.cells (vs.toArray : Array Value) T (0,0))) (hcs : repL (okOf cx ρ ob) ρ w cs vs) (h : (ldBox i off cs).obl) :
    ∃ u,(loadVar t ⟨b,off,none⟩).run P w = .ok u w ∧ (ldBox i off cs).val.rep (okOf cx ρ ob) ρ w u:=by
  have hlen:=repL.len hcs;unfold ldBox at h ⊢;split at h
  · rename_i hle;have hle:=Nat.le_of_ble_eq_true hle;rw [lenC_eq,← hlen] at hle;have hc:=cells_box hb off i.size hle;have hrun:=run_loadVar hok hc;cases hag : i.k.agg <;> simp only [hag] at h hrun
    · have h1:=hok.size1 hag;obtain ⟨v,hv,hv'⟩:=repL_nth off (by omega) hcs;obtain ⟨ho,hf⟩:=okC_obl h;refine ⟨v,?_,?_⟩
      · rw [hrun,h1,nth_drop vs off v hv];rfl
      · rw [ho];exact hv'
    · split at h
      · rename_i hsz;have hsz:=Nat.eq_of_beq_eq_true hsz;rw [lenC_eq] at hsz;have h0 : off = 0:=by omega
        subst h0;refine ⟨_,hrun,vs,?_,hcs⟩;simp only [List.drop_zero,if_true];rw [List.take_of_length_le (by omega)]
      · refine ⟨_,hrun,_,rfl,?_⟩;rw [takeC_eq,dropC_eq];exact repL_take _ (repL_drop _ hcs)
  · exact h.elim
theorem cell_load (hte : TEok P te) {ty : TypeId} {t : Nat} {v : A} (hs : StOk cx tm ob nx ρ a w) (h : cellV te ob ty (get tm t) = some v) :
    ∃ ad u,(asAddr (a.tmps.getD t undef)).run P w = .ok ad w ∧ (loadVar ty ad).run P w = .ok u w ∧ v.rep (okOf cx ρ ob) ρ w u:=by
  have hr:=hs.tms t
  generalize get tm t = x at h hr
  unfold cellV at h;split at h
  · rename_i id off;obtain ⟨b,hρ,hv⟩:=hr;split at h
    · rename_i i T cs hi hg;obtain ⟨b',vs,hρ',hb,hcs⟩:=getO_is hs.obs hg;rw [hρ] at hρ';simp only [Option.some.injEq,Value.pointer.injEq,Addr.mk.injEq,and_true] at hρ';subst hρ';split at h
      · rename_i y e;cases h;obtain ⟨u,h1,h2⟩:=box_load (t:=ty) (off:=off) (yN hte hi) hb hcs (by rw [e];trivial);rw [e] at h2;exact ⟨_,u,by rw [hv];rfl,h1,h2⟩
      · cases h
    · cases h
  · cases h
theorem yV {f : FuncId} {fn : Func} {c : Code} {args : List A} {rs : List ResultVar} {r : A} (hf : P.funcs[f]? = some fn) (hb : fn.body = some c) (hname : (fn.name == "runtime.NumGoroutine") = false) (hr : fn.results = rs.toArray) (hte : TEok P te)
    (hn : Nat.ble args.length fn.ntmps = true) (h : yS P te fn.ntmps 0 c (argT 0 args) [] 0 (retQC te rs r)) : qX P f args r:=by
  refine ⟨⟨fn,hf,by rw [hb];rfl,hname⟩,fun ok w vs hgl hvs=>callsIn_wide.1 (callsIn_of_wp_marks (F:=FR none) (n:=0) hf hb trivial ?_)⟩
  let cx : Cx:=⟨ok,xB,w,fn.ntmps,0,[],true⟩
  have hl:=xU.len hvs;have hn:=Nat.le_of_ble_eq_true hn;have hk : xK ok (okOf cx xB []) w w:=fun _ b hb _=>⟨⟨.inl hb,fun p hp=>by cases hp⟩,rfl⟩
  have hs : StOk cx (argT 0 args) [] 0 xB { tmps:=vs.toArray ++ Array.replicate (fn.ntmps - vs.toArray.size) undef,defers:=[] } w:=by
    refine ⟨?_,DefOk.none rfl,fun i=>?_,fun p hp=>by (cases hp),by simp,fun p hp=>by (cases hp),fun _ _=>rfl,Nat.le_refl _,fun p hp=>by (cases hp),fun p hp=>by (cases hp),⟨rfl,rfl,rfl,Nat.le_refl _,fun _ _ _ _=>rfl,fun _ _=>.rfl' rfl⟩,fun _ _ h _=>absurd h (Nat.not_lt_zero _),fun _ h=>absurd h (Nat.not_lt_zero _),hgl,.low (show (0 : Nat) < 1000000 by decide)⟩
    · show (vs.toArray ++ Array.replicate (fn.ntmps - vs.toArray.size) undef).size = fn.ntmps;simp;omega
    · rcases argT_get 0 i hvs with h1|h1
      · have hcell : (vs.toArray ++ Array.replicate (fn.ntmps - vs.toArray.size) undef).getD i undef = if i < 0 then undef else vs.getD (i - 0) undef:=by
          rw [if_neg (Nat.not_lt_zero _),Nat.sub_zero,Array.getD_eq_getD_getElem?,Array.getElem?_append];split
          · simp [List.getD]
          · rename_i hge;rw [Array.getElem?_replicate];simp only [List.size_toArray] at hge ⊢;rw [List.getD,List.getElem?_eq_none (by omega)];split <;> rfl
        rw [hcell];exact A.kept hk h1
      · rw [h1];trivial
  unfold yS at h;refine Code.wpIn_mono ?_ (h hte none 0 cx (noR_free rfl rfl (by show ¬ (1000000 ≤ 0);decide)) rfl rfl xB _ w hs)
  rintro e a' w0' ⟨tm',ob',nx',ρ',hq,hs0'⟩
  cases e with
  | ret =>
    refine StOk.unwind hs0' rfl rfl fun w' hs'=>?_
    have hbel : Below w.heap.size w w':=⟨hs'.keep.os,hs'.keep.tape,hs'.keep.output,hs'.keep.size,fun b hb=>hs'.keep.block b hb (fun ⟨_,h,_⟩=>absurd h (Nat.not_lt_zero _)) (fun hg=>absurd hg.1.1 (by show ¬ (1000000 ≤ 0);decide))⟩;have fin : ∀ t,(finA te ob' (get tm' t)).rep (grow ok w) xB w' (a'.tmps.getD t undef):=fun t=>finA_rep hs' rfl (hs'.tms t)
    simp only [retQC] at hq;split at hq
    · rename_i t ty;split at hq
      · rename_i v hv;obtain ⟨ad,u,h1,h2,h3⟩:=cell_load hte hs' hv;subst hq;refine ⟨u,?_,u,rfl,hbel,finA_rep hs' rfl h3⟩;rw [results_cell hr,h1];exact h2
      · exact hq.elim
    · rename_i t ty u;split at hq
      · rename_i v hv;obtain ⟨ad,x,h1,h2,h3⟩:=cell_load hte hs' hv;subst hq;refine ⟨.tuple #[x,a'.tmps.getD u undef],?_,_,rfl,hbel,[_,_],rfl,_,_,rfl,yU (finA_rep hs' rfl h3),_,_,rfl,yU (fin u),rfl⟩;rw [results_cell_tmp hr];simp only [Result.andThen,h1,h2]
      · exact hq.elim
    · rename_i t ty u uy;split at hq
      · rename_i v x hv hx;obtain ⟨ad,y,h1,h2,h3⟩:=cell_load hte hs' hv;obtain ⟨ad2,z,g1,g2,g3⟩:=cell_load hte hs' hx;subst hq;refine ⟨.tuple #[y,z],?_,_,rfl,hbel,[_,_],rfl,_,_,rfl,yU (finA_rep hs' rfl h3),_,_,rfl,yU (finA_rep hs' rfl g3),rfl⟩;rw [results_cell2 hr];simp only [Result.andThen,h1,h2,g1,g2]
      · exact hq.elim
    · rename_i t ty u x;split at hq
      · rename_i v hv;obtain ⟨ad,y,h1,h2,h3⟩:=cell_load hte hs' hv;subst hq;refine ⟨.tuple #[y,a'.tmps.getD u undef,a'.tmps.getD x undef],?_,_,rfl,hbel,[_,_,_],rfl,_,_,rfl,yU (finA_rep hs' rfl h3),_,_,rfl,yU (fin u),_,_,rfl,yU (fin x),rfl⟩;rw [results_cell_3 hr];simp only [Result.andThen,h1,h2]
      · exact hq.elim
    · rename_i t ty u x z;split at hq
      · rename_i v hv;obtain ⟨ad,y,h1,h2,h3⟩:=cell_load hte hs' hv;subst hq;refine ⟨.tuple #[y,a'.tmps.getD u undef,a'.tmps.getD x undef,a'.tmps.getD z undef],?_,_,rfl,hbel,[_,_,_,_],rfl,_,_,rfl,yU (finA_rep hs' rfl h3),_,_,rfl,yU (fin u),_,_,rfl,yU (fin x),_,_,rfl,yU (fin z),rfl⟩;rw [results_cell_4 hr];simp only [Result.andThen,h1,h2]
      · exact hq.elim
    · exact hq.elim
  | normal=>exact (show False from hq).elim
  | exit i=>exact (show False from hq).elim
  | goto l=>exact (show False from hq).elim
  | panic ch=>exact (show False from hq).elim
  | outgrown=>exact (show False from hq).elim
end
def swN (i j k : Nat) : Nat:=match Nat.beq k i with
  | true=>j
  | false=>match Nat.beq k j with
    | true=>i
    | false=>k
def renTm (σ : Nat → Nat) : Tm → Tm
  | []=>[]
  | p :: r=>(p.1,p.2.ren σ) :: renTm σ r
theorem get_ren (σ : Nat → Nat) : ∀ (tm : Tm) (i : Nat),get (renTm σ tm) i = (get tm i).ren σ
  | [],_=>rfl
  | p :: r,i=>by
    simp only [renTm,get];split
    · rfl
    · exact get_ren σ r i
theorem swN_eq (i j k : Nat) : swN i j k = if k = i then j else if k = j then i else k:=by
  unfold swN
  by_cases h : k = i
  · subst h;simp
  · have : Nat.beq k i = false:=by
      cases hb : Nat.beq k i
      · rfl
      · exact absurd (Nat.eq_of_beq_eq_true hb) h
    rw [this,if_neg h]
    by_cases h2 : k = j
    · subst h2;simp
    · have : Nat.beq k j = false:=by
        cases hb : Nat.beq k j
        · rfl
        · exact absurd (Nat.eq_of_beq_eq_true hb) h2
      rw [this,if_neg h2]
theorem swN_swN (i j k : Nat) : swN i j (swN i j k) = k:=by
  rw [swN_eq i j k]
  by_cases h : k = i
  · rw [if_pos h,swN_eq]
    by_cases h2 : j = i
    · rw [if_pos h2,h2,h]
    · rw [if_neg h2,if_pos rfl,h]
  · rw [if_neg h]
    by_cases h2 : k = j
    · rw [if_pos h2,swN_eq,if_pos rfl,h2]
    · rw [if_neg h2,swN_eq,if_neg h,if_neg h2]
theorem swN_inj {i j a b : Nat} (h : swN i j a = swN i j b) : a = b:=by rw [← swN_swN i j a,h,swN_swN]
section
variable {P : Program} {te : List (TypeId × TyI)} {N nx0 : Nat} {tm : Tm} {ob : Obs} {nx : Nat} {Q : AQ}
theorem StOk.swapN {cx : Cx} {ρ : Nat → Option Value} {a : Act} {w : World} (i j : Nat) {α β : Type} {E E' : TypeId} {R : Rd α} {S : Rd β} {xs : List α} {ys : List β} (hi : getO ob i = some (.vec E R xs)) (hj : getO ob j = some (.vec E' S ys)) (hs : StOk cx tm ob nx ρ a w) : StOk cx (renTm (swN i j) tm) (renOb (swN i j) ob) nx (fun k=>ρ (swN i j k)) a w:=by
  have hback : (fun k=>(fun k=>ρ (swN i j k)) (swN i j k)) = ρ:=funext fun k=>by simp only [swN_swN]
  have hok : okOf cx (fun k=>ρ (swN i j k)) (renOb (swN i j) ob) = okOf cx ρ ob:=by
    funext _ b
    unfold okOf
    congr 1
    apply propext
    constructor
    · intro h1 p hp;have hm : ∀ {ob : Obs},p ∈ ob → (swN i j p.1,p.2.ren (swN i j)) ∈ renOb (swN i j) ob:=by
        intro ob hp
        induction ob with
        | nil=>cases hp
        | cons q r ih =>
          rcases List.mem_cons.1 hp with hp|hp
          · subst hp;exact List.mem_cons_self
          · exact List.mem_cons_of_mem _ (ih hp)
      have:=h1 _ (hm hp);simp only [swN_swN] at this;exact this
    · intro h1 p hp;obtain ⟨q,hq,rfl⟩:=mem_renOb hp;simp only [swN_swN];exact h1 q hq
  have slice : ∀ {id : Nat} {γ : Type} {E : TypeId} {T : Rd γ} {zs : List γ} {p : Option Addr},getO ob id = some (.vec E T zs) → ρ id ≠ some (.pointer p):=by
    intro id γ E T zs p hg e;obtain ⟨v,hv,css,_,_,h3⟩:=hs.obs _ (yM hg);have hv : ρ id = some v:=hv;rw [hv] at e;rcases h3.2 with ⟨h4,_⟩|⟨g,cap,cur,h4,_⟩ <;> (rw [h4] at e;cases e)
  have hlt : ∀ k,k < nx → swN i j k < nx:=fun k hk=>by
    rw [swN_eq];have h1:=hs.fresh _ (yM hi);have h2:=hs.fresh _ (yM hj);simp only at h1 h2;split
    · exact h2
    · split
      · exact h1
      · exact hk
  refine ⟨hs.size,hs.defers,fun k=>?_,fun p hp=>?_,?_,fun p hp=>?_,fun k hk=>?_,hs.nx0,fun p hp q hq hne b=>?_,fun p hp b=>?_,hs.keep,hs.disj,fun k hk p e=>?_,hs.glob,hs.bags⟩
  · rw [get_ren,hok];refine A.ren_rep.2 ?_;rw [hback];exact hs.tms k
  · obtain ⟨q,hq,rfl⟩:=mem_renOb hp;rw [hok];show Ob.is (okOf cx ρ ob) (fun k=>ρ (swN i j k)) w (swN i j q.1) (Ob.ren (swN i j) q.2);refine Ob.ren_is.2 ?_;rw [hback];exact hs.obs q hq
  · rw [renOb_keys];exact List.Pairwise.map _ (fun _ _ h e=>h (swN_inj e)) hs.nd
  · obtain ⟨q,hq,rfl⟩:=mem_renOb hp;exact hlt _ (hs.fresh q hq)
  · have : ¬ swN i j k < nx:=fun h=>by
      have:=hlt _ h;rw [swN_swN] at this;omega
    exact hs.names _ (Nat.le_of_not_lt this)
  · obtain ⟨p',hp',rfl⟩:=mem_renOb hp;obtain ⟨q',hq',rfl⟩:=mem_renOb hq;simp only [swN_swN];exact hs.sep p' hp' q' hq' (fun e=>hne (by simp only [e])) b
  · obtain ⟨p',hp',rfl⟩:=mem_renOb hp;simp only [swN_swN];exact hs.low p' hp' b
  · have h1:=(hs.pin k hk p e).trans e;show ρ (swN i j k) = cx.nm k;rw [swN_eq];split
    · rename_i h2;rw [h2] at h1;exact absurd h1 (slice hi)
    · split
      · rename_i h2;rw [h2] at h1;exact absurd h1 (slice hj)
      · exact hs.pin k hk p e
theorem acode_swap {c : Code} (i j : Nat) {α β : Type} {E E' : TypeId} {R : Rd α} {S : Rd β} {xs : List α} {ys : List β} (hi : getO ob i = some (.vec E R xs)) (hj : getO ob j = some (.vec E' S ys)) (h : yS P te N nx0 c (renTm (swN i j) tm) (renOb (swN i j) ob) nx Q) : yS P te N nx0 c tm ob nx Q:=by
  unfold yS at h ⊢;intro hte rd n cx hnr e1 e2 ρ a w hs;exact h hte rd n cx hnr e1 e2 (fun k=>ρ (swN i j k)) a w (hs.swapN i j hi hj)
def isVec : Option Ob → Bool
  | some (.vec _ _ _)=>true
  | _=>false
theorem isVec_of {o : Option Ob} (h : isVec o = true) : ∃ (α : Type) (E : TypeId) (R : Rd α) (xs : List α),o = some (.vec E R xs):=by
  unfold isVec at h;split at h
  · exact ⟨_,_,_,_,rfl⟩
  · cases h
def mendQ (i j : Nat) (Q : AQ) : AQ:=fun e tm ob nx=>isVec (getO ob i) = true ∧ isVec (getO ob j) = true ∧ Q e (renTm (swN i j) tm) (renOb (swN i j) ob) nx
theorem acode_mend {c : Code} (i j : Nat) (h : yS P te N nx0 c tm ob nx (mendQ i j Q)) : yS P te N nx0 c tm ob nx Q:=by
  unfold yS at h ⊢;intro hte rd n cx hnr e1 e2 ρ a w hs;refine Code.wpIn_mono ?_ (h hte rd n cx hnr e1 e2 ρ a w hs)
  rintro e a' w' ⟨tm',ob',nx',ρ',⟨h1,h2,hq⟩,hs'⟩
  obtain ⟨_,_,_,_,h1⟩:=isVec_of h1;obtain ⟨_,_,_,_,h2⟩:=isVec_of h2;exact ⟨_,_,_,_,hq,hs'.swapN i j h1 h2⟩
end
section
variable {P : Program} {te : List (TypeId × TyI)} {N nx0 : Nat} {tm : Tm} {ob : Obs} {nx : Nat} {Q : AQ}
theorem acode_renew {c : Code} (i : Nat) {α : Type} {E : TypeId} {R : Rd α} {xs : List α} (hg : getO ob i = some (.vec E R xs)) (h : yS P te N nx0 c (subTm i (.sl R xs) tm) ((i,.vec E R []) :: subOb i (.sl R xs) (eraseO i ob)) nx Q) : yS P te N nx0 c tm ob nx Q:=by
  unfold yS at h ⊢;intro hte rd n cx hnr e1 e2 ρ a w hs;have hmem:=yM hg;obtain ⟨v,hv,hvec⟩ : ∃ v,ρ i = some v ∧ VecOk (okOf cx ρ ob) w v E R xs:=hs.obs _ hmem;have hsl : ∀ p,v ≠ .pointer p:=by
    intro p e;obtain ⟨css,_,_,h3⟩:=hvec;rcases h3.2 with ⟨h4,_⟩|⟨g,cap,cur,h4,_⟩ <;> (rw [h4] at e;cases e)
  let ρ' : Nat → Option Value:=upd ρ i (.slice none 0 0)
  let ob' : Obs:=(i,.vec E R []) :: subOb i (.sl R xs) (eraseO i ob)
  have hmem' : ∀ p ∈ ob',(p.1 = i ∧ p.2 = .vec E R []) ∨ ∃ q ∈ ob,q.1 ≠ i ∧ p = (q.1,q.2.sub i (.sl R xs)):=by
    intro p hp;rcases List.mem_cons.1 hp with rfl|hp
    · exact .inl ⟨rfl,rfl⟩
    · obtain ⟨q,hq,rfl⟩:=mem_subOb hp;obtain ⟨h1,h2⟩:=xM.1 hq;exact .inr ⟨q,h1,h2,rfl⟩
  have hblk : ∀ p ∈ ob',∀ b,blk (ρ' p.1) = some b → ∃ q ∈ ob,q.1 ≠ i ∧ q.1 = p.1 ∧ blk (ρ q.1) = some b:=by
    intro p hp b e;rcases hmem' p hp with ⟨h1,_⟩|⟨q,hq,hn,rfl⟩
    · rw [h1,show ρ' i = some (.slice none 0 0) from xJ] at e;cases e
    · exact ⟨q,hq,hn,rfl,by rw [show ρ' q.1 = ρ q.1 from upd_ne hn] at e;exact e⟩
  have hok : ∀ k b,okOf cx ρ ob k b → okOf cx ρ' ob' k b:=fun k b hb=>⟨hb.1,fun p hp e=>by
    obtain ⟨q,hq,_,_,e2⟩:=hblk p hp b e;exact hb.2 q hq e2⟩
  have hkeep : xK (okOf cx ρ ob) (okOf cx ρ' ob') w w:=fun _ b hb _=>⟨hok _ b hb,rfl⟩
  have hsub : Sub i (.sl R xs) (okOf cx ρ ob) (okOf cx ρ' ob') ρ ρ' w w:=by
    refine ⟨fun u hu=>?_,fun j u hj e=>by rw [show ρ' j = ρ j from upd_ne hj];exact e,hkeep⟩;rw [hv] at hu;obtain rfl:=Option.some.inj hu;refine vec_sl 0 hvec hok fun b hb=>⟨?_,fun p hp e=>?_⟩
    · rcases (hs.low _ hmem b (by rw [hv];exact hb)).2 with h1|h1
      · exact .inr (.inl ⟨h1,by decide⟩)
      · exact .inr (.inr ⟨by decide,h1⟩)
    · obtain ⟨q,hq,hn,_,e2⟩:=hblk p hp b e;exact hs.sep q hq _ hmem hn b e2 (by rw [hv];exact hb)
  refine h hte rd n cx hnr e1 e2 ρ' a w ⟨hs.size,hs.defers,fun k=>by rw [get_sub];exact A.sub_rep hsub (hs.tms k),fun p hp=>?_,?_,fun p hp=>?_,fun k hk=>?_,hs.nx0,fun p hp q hq hne b e3 e4=>?_,fun p hp b e3=>?_,hs.keep,hs.disj,fun k hk p e=>?_,hs.glob,hs.bags⟩
  · rcases hmem' p hp with ⟨h1,h2⟩|⟨q,hq,hn,rfl⟩
    · rw [h1,h2];exact ⟨.slice none 0 0,xJ,[],rfl,fun k hk=>absurd hk (by simp),World.ownsRow_nil _ _ _ _⟩
    · exact Ob.sub_is hsub hn (fun _ _=>rfl) (hs.obs q hq)
  · have h1 : ((subOb i (C.sl R xs) (eraseO i ob)).map (·.1)).Nodup:=by rw [subOb_keys];exact hs.nd.sublist eraseO_sub
    refine List.nodup_cons.2 ⟨fun hm=>?_,h1⟩;rw [subOb_keys] at hm;obtain ⟨q,hq,e⟩:=List.mem_map.1 hm;exact (xM.1 hq).2 e
  · rcases hmem' p hp with ⟨h1,_⟩|⟨q,hq,_,rfl⟩
    · rw [h1];exact hs.fresh _ hmem
    · exact hs.fresh q hq
  · have : k ≠ i:=fun e=>by have:=hs.fresh _ hmem;simp only at this;omega
    rw [show ρ' k = ρ k from upd_ne this];exact hs.names k hk
  · obtain ⟨p',hp',hpn,ep,e5⟩:=hblk p hp b e3;obtain ⟨q',hq',hqn,eq,e6⟩:=hblk q hq b e4;exact hs.sep p' hp' q' hq' (fun e=>hne (by rw [← ep,← eq,e])) b e5 e6
  · obtain ⟨q,hq,_,_,e4⟩:=hblk p hp b e3;exact hs.low q hq b e4
  · have h1:=(hs.pin k hk p e).trans e;have hki : k ≠ i:=fun e3=>by
      subst e3;rw [hv] at h1;exact hsl p (Option.some.inj h1)
    rw [show ρ' k = ρ k from upd_ne hki];exact hs.pin k hk p e
end
def keyed (ob : Obs) (ρ : Nat → Option Value) : Nat → Option Value:=fun i=>match getO ob i with
  | some _=>ρ i
  | none=>none
def OwnB (ob : Obs) (ρ : Nat → Option Value) (b : Nat) : Prop:=∃ p ∈ ob,blk (ρ p.1) = some b
structure Grows (w w' : World) : Prop where
  os : w'.os = w.os
  tape : w'.tape = w.tape
  output : w'.output = w.output
  size : w.heap.size ≤ w'.heap.size
theorem Grows.refl (w : World) : Grows w w:=⟨rfl,rfl,rfl,Nat.le_refl _⟩
theorem Grows.trans {a b c : World} (h : Grows a b) (k : Grows b c) : Grows a c:=⟨k.os.trans h.os,k.tape.trans h.tape,k.output.trans h.output,Nat.le_trans h.size k.size⟩
theorem Keep.grows {cx : Cx} {w : World} (h : Keep cx w) : Grows cx.w0 w:=⟨h.os,h.tape,h.output,h.size⟩
theorem grows_put (w : World) (b : Nat) (o : Obj) : Grows w (w.putObj b o):=⟨rfl,rfl,rfl,by rw [World.putObj_size];exact Nat.le_refl _⟩
theorem getO_mem : ∀ {ob : Obs} {p : Nat × Ob},p ∈ ob → ∃ o,getO ob p.1 = some o
  | [],_,h=>by cases h
  | q :: r,p,h=>by
    unfold getO;split
    · exact ⟨_,rfl⟩
    · rename_i e;rcases List.mem_cons.1 h with h|h
      · subst h;simp at e
      · exact getO_mem h
theorem keyed_mem {ob : Obs} {ρ : Nat → Option Value} {p : Nat × Ob} (h : p ∈ ob) : keyed ob ρ p.1 = ρ p.1:=by
  obtain ⟨o,ho⟩:=getO_mem h;unfold keyed;rw [ho]
theorem keyed_some {ob : Obs} {ρ : Nat → Option Value} {i : Nat} {v : Value} (h : keyed ob ρ i = some v) : ρ i = some v ∧ ∃ o,(i,o) ∈ ob:=by
  unfold keyed at h;split at h
  · rename_i o ho;exact ⟨h,o,yM ho⟩
  · cases h
theorem keyed_blk {ob : Obs} {ρ : Nat → Option Value} {i b : Nat} (h : blk (keyed ob ρ i) = some b) : OwnB ob ρ b:=by
  cases e : keyed ob ρ i with
  | none=>rw [e] at h;cases h
  | some v =>
    obtain ⟨h1,o,h2⟩:=keyed_some e;rw [e] at h;exact ⟨_,h2,by rw [h1];exact h⟩
section
variable {P : Program} {te : List (TypeId × TyI)} {cx : Cx} {tm : Tm} {ob : Obs} {nx N : Nat} {ρ : Nat → Option Value} {a : Act} {w w' : World} {ok : Oks} {hids : List (Nat × Obj)}
abbrev anew (ok : Oks) (ob : Obs) (ρ : Nat → Option Value) (w : World) (N nx : Nat) (hids : List (Nat × Obj)) : Cx:=⟨ok,keyed ob ρ,w,N,nx,hids,false⟩
theorem keyed_none (hf : ∀ p ∈ ob,p.1 < nx) : keyed ob ρ nx = none:=by
  cases h : keyed ob ρ nx with
  | none=>rfl
  | some v =>
    obtain ⟨_,o,h1⟩:=keyed_some h;exact absurd (hf _ h1) (Nat.lt_irrefl nx)
theorem StOk.anew (h : StOk cx tm ob nx ρ a w) {ok : Oks} (hok : ∀ k b,okOf cx ρ ob k b → CellB w b → ok k b) (hno : ∀ k b,ok k b → ¬ OwnB ob ρ b) (hd : a.defers = []) (hh : HidOk hids w) : StOk (anew ok ob ρ w cx.N nx hids) tm ob nx ρ a w:=by
  have hk : xK (okc (okOf cx ρ ob) w) (okOf (Ab.anew ok ob ρ w cx.N nx hids) ρ ob) w w:=fun _ b hb _=>⟨⟨.inl (hok _ b hb.1 hb.2),hb.1.2⟩,rfl⟩
  refine ⟨h.size,⟨⟨(fun e=>by cases e),fun _=>hd⟩,hh⟩,fun i=>A.kept hk (A.cells (h.tms i)),fun p hp=>Ob.kept hk (fun _ _=>rfl) (Ob.okcells (h.obs p hp)),h.nd,h.fresh,h.names,Nat.le_refl _,h.sep,
    fun p hp b e=>⟨(h.low p hp b e).1,.inr ⟨p.1,h.fresh p hp,by show blk (keyed ob ρ p.1) = _;rw [keyed_mem hp];exact e⟩⟩,⟨rfl,rfl,rfl,Nat.le_refl _,fun _ _ _ _=>rfl,fun _ _=>.rfl' rfl⟩,fun i b _ e k hb=>hno k b hb (keyed_blk e),fun i _ p e=>?_,?_,.none (keyed_none h.fresh)⟩
  · have e : keyed ob ρ i = some (.pointer p):=e;show ρ i = keyed ob ρ i;rw [e];exact (keyed_some e).1
  · obtain ⟨h1,h2,h3⟩:=h.globAt;exact ⟨fun g hg=>hok 0 g (h1 g hg) (CellB.of (h3.cells g hg)),h2,h3⟩
theorem StOk.other (h : StOk (Ab.anew ok ob ρ w N nx hids) tm ob nx ρ a w) (hg : Grows w w') (hs : ∀ b,b < w.heap.size → ((∃ k,ok k b) ∨ OwnB ob ρ b) → w'.heap[b]? = w.heap[b]?) (hh : HidOk hids w') : StOk (Ab.anew ok ob ρ w' N nx hids) tm ob nx ρ a w':=by
  have hk : xK (okOf (Ab.anew ok ob ρ w N nx hids) ρ ob) (okOf (Ab.anew ok ob ρ w' N nx hids) ρ ob) w w':=fun _ b hb hlt=>by
    rcases hb.1 with h1|h1|⟨_,i,_,h1⟩
    · exact ⟨⟨.inl h1,hb.2⟩,hs b hlt (.inl ⟨_,h1⟩)⟩
    · have : w.heap.size ≤ b:=h1.1;omega
    · obtain ⟨p,hp,e⟩:=keyed_blk h1;exact absurd e (hb.2 p hp)
  refine ⟨h.size,⟨⟨(fun e=>by cases e),h.defers.1.2⟩,hh⟩,fun i=>A.kept hk (h.tms i),fun p hp=>Ob.kept hk (fun b hb=>hs b (h.low p hp b hb).1 (.inr ⟨p,hp,hb⟩)) (h.obs p hp),h.nd,h.fresh,h.names,Nat.le_refl _,h.sep,
    fun p hp b e=>⟨Nat.lt_of_lt_of_le (h.low p hp b e).1 hg.size,.inr ⟨p.1,h.fresh p hp,by show blk (keyed ob ρ p.1) = _;rw [keyed_mem hp];exact e⟩⟩,⟨rfl,rfl,rfl,Nat.le_refl _,fun _ _ _ _=>rfl,fun _ _=>.rfl' rfl⟩,h.disj,h.pin,?_,.none (keyed_none h.fresh)⟩
  obtain ⟨h1,h2,h3⟩:=h.glob;exact ⟨h1,Nat.le_trans h2 hg.size,h3.kept fun g hlt=>hs g (Nat.lt_of_lt_of_le hlt h2) (.inl ⟨0,h1 g hlt⟩)⟩
theorem StOk.more (h : StOk (Ab.anew ok ob ρ w N nx hids) tm ob nx ρ a w) {ok' : Oks} {hids' : List (Nat × Obj)} (hm : ∀ k b,ok k b → ok' k b) (hno : ∀ k b,ok' k b → ¬ OwnB ob ρ b) (hh : HidOk hids' w) : StOk (Ab.anew ok' ob ρ w N nx hids') tm ob nx ρ a w:=by
  have hk : xK (okOf (Ab.anew ok ob ρ w N nx hids) ρ ob) (okOf (Ab.anew ok' ob ρ w N nx hids') ρ ob) w w:=fun _ b hb _=>⟨⟨hb.1.imp (hm _ b) id,hb.2⟩,rfl⟩
  exact ⟨h.size,⟨⟨(fun e=>by cases e),h.defers.1.2⟩,hh⟩,fun i=>A.kept hk (h.tms i),fun p hp=>Ob.kept hk (fun _ _=>rfl) (h.obs p hp),h.nd,h.fresh,h.names,h.nx0,h.sep,h.low,⟨h.keep.os,h.keep.tape,h.keep.output,h.keep.size,fun b h1 h2 _=>h.keep.block b h1 h2 fun hg=>noflag (cx:=Ab.anew ok ob ρ w N nx hids) (keyed_none h.fresh) hg.1,fun b hb=>absurd hb.1 (noflag (cx:=Ab.anew ok' ob ρ w N nx hids') (keyed_none h.fresh))⟩,fun i b _ e k hb=>hno k b hb (keyed_blk e),h.pin,⟨fun g hg=>hm 0 g (h.glob.1 g hg),h.glob.2⟩,.none (keyed_none h.fresh)⟩
end
structure Two (ok : Oks) (own : Nat → Prop) (ok' : Oks) (own' : Nat → Prop) (w : World) : Prop where
  lt1 : ∀ k b,ok k b → b < w.heap.size
  lt2 : ∀ b,own b → b < w.heap.size
  lt3 : ∀ k b,ok' k b → b < w.heap.size
  lt4 : ∀ b,own' b → b < w.heap.size
  ij : ∀ k b,ok k b → ¬ own' b
  ji : ∀ k b,ok' k b → ¬ own b
  ss : ∀ b,own b → ¬ own' b
def Abides {ι : Type} (n0 : Nat) (J : ι → Oks → (Nat → Prop) → World → Prop) : Prop :=
  ∀ i ok own w w',J i ok own w → Grows w w' → (∀ b,b < w.heap.size → b < n0 ∨ (∃ k,ok k b) ∨ own b → w'.heap[b]? = w.heap[b]?) → J i ok own w'
def Yields (P : Program) (l : Nat) (xs : List (List A)) {ι : Type} (Pr : Bool → Nat → ι → Prop) (J : ι → Oks → (Nat → Prop) → World → Prop) (U : Oks) (n0 : Nat) : Prop :=
  ∀ (k : Nat) (i : ι) (ok ok' : Oks) (own' : Nat → Prop) (W : World) (vs : List Value) (n : Nat) (hk : k < xs.length),Pr false k i → J i ok' own' W → Two ok (fun _=>False) ok' own' W → (∀ k b,ok k b → U k b) → n0 ≤ W.heap.size → xU ok xB W (xs[k]) vs →
    YieldAt (FR none) n P l vs.toArray W fun e W'=>Grows W W' ∧ (∀ b,b < W.heap.size → ¬ own' b → W'.heap[b]? = W.heap[b]?) ∧ ∃ st j ok2 own2,e = .returned (.bool (!st)) ∧ Pr st (k + 1) j ∧ J j ok2 own2 W' ∧
      (∀ b,own2 b → own' b ∨ W.heap.size ≤ b) ∧ (∀ k b,ok2 k b → ok' k b ∨ ok k b ∨ (k ≠ 7 ∧ (own' b ∨ W.heap.size ≤ b))) ∧ (∀ k b,ok2 k b → b < W'.heap.size) ∧ ∀ b,own2 b → b < W'.heap.size
def AIter (P : Program) (g : FuncId) (caps : List A) (xs : List (List A)) : Prop :=
  FnOk P g ∧ ∀ (l : Nat) (ι : Type) (Pr : Bool → Nat → ι → Prop) (J : ι → Oks → (Nat → Prop) → World → Prop) (U : Oks) (n0 : Nat),(∀ k b,k ≠ 7 → n0 ≤ b → U k b) → Abides n0 J → Yields P l xs Pr J U n0 →
    ∀ (i : ι) (ok ok' : Oks) (own' : Nat → Prop) (W : World) (vs : List Value),Pr false 0 i → J i ok' own' W → GlobAt ok W → Two ok (fun _=>False) ok' own' W → (∀ k b,ok k b → U k b) → n0 = W.heap.size → xU ok xB W caps vs →
      Calls P g (.func (.yield l) #[] #[] :: vs).toArray W fun e W'=>(∃ v,e = .returned v) ∧ ∃ st k j ok2 own2,(st = false → k = xs.length) ∧ Pr st k j ∧ J j ok2 own2 W'
section
variable {P : Program} {te : List (TypeId × TyI)} {N : Nat} {l : Nat} {xs : List (List A)} {ι : Type} {Pr : Bool → Nat → ι → Prop} {J : ι → Oks → (Nat → Prop) → World → Prop} {U : Oks} {n0 : Nat}
def YS (N : Nat) {ι : Type} (Pr : Bool → Nat → ι → Prop) (J : ι → Oks → (Nat → Prop) → World → Prop) (U : Oks) (n0 : Nat) (st : Bool) (k : Nat) (tm : Tm) (ob : Obs) (nx : Nat) (a : Act) (w : World) : Prop :=
  ∃ (ok : Oks) (ρ : Nat → Option Value) (i : ι) (ok' : Oks) (own' : Nat → Prop),StOk (anew ok ob ρ w N nx []) tm ob nx ρ a w ∧ Two ok (OwnB ob ρ) ok' own' w ∧ ((∀ k b,ok k b ∨ (k ≠ 7 ∧ OwnB ob ρ b) → U k b) ∧ ∀ b,OwnB ob ρ b → n0 ≤ b) ∧ n0 ≤ w.heap.size ∧ Pr st k i ∧ J i ok' own' w
def YQ:=Exit → Bool → Nat → Tm → Obs → Nat → Prop
def ACodeY (P : Program) (te : List (TypeId × TyI)) (N : Nat) {ι : Type} (Pr : Bool → Nat → ι → Prop) (J : ι → Oks → (Nat → Prop) → World → Prop) (U : Oks) (n0 : Nat) (c : Code) (st : Bool) (k : Nat) (tm : Tm) (ob : Obs) (nx : Nat) (Q : YQ) : Prop :=
  TEok P te → ∀ (n : Nat) (a : Act) (w : World),YS N Pr J U n0 st k tm ob nx a w → c.wpIn (FR none) n P (fun e a' w'=>∃ st' k' tm' ob' nx',Q e st' k' tm' ob' nx' ∧ YS N Pr J U n0 st' k' tm' ob' nx' a' w') a w
variable {st : Bool} {k : Nat} {tm : Tm} {ob : Obs} {nx : Nat} {Q : YQ}
theorem ys_step {tm' : Tm} {ob' : Obs} {nx' : Nat} {a' : Act} {w w' : World} {ok ok' : Oks} {own' : Nat → Prop} {ρ ρ' : Nat → Option Value} {i : ι} (hab : Abides n0 J) (hU : ∀ k b,k ≠ 7 → n0 ≤ b → U k b)
    (h2 : Two ok (OwnB ob ρ) ok' own' w) (hu : (∀ k b,ok k b ∨ (k ≠ 7 ∧ OwnB ob ρ b) → U k b) ∧ ∀ b,OwnB ob ρ b → n0 ≤ b) (hn : n0 ≤ w.heap.size) (hp : Pr st k i) (hj : J i ok' own' w) (hf : ∀ p ∈ ob,p.1 < nx)
    (hs' : StOk (anew ok ob ρ w N nx []) tm' ob' nx' ρ' a' w') : YS N Pr J U n0 st k tm' ob' nx' a' w':=by
  have hg:=hs'.keep.grows;have hown : ∀ b,OwnB ob' ρ' b → w.heap.size ≤ b ∨ OwnB ob ρ b:=by
    rintro b ⟨p,hp,e⟩
    rcases (hs'.low p hp b e).2 with h|⟨_,_,h⟩
    · exact .inl h
    · exact .inr (keyed_blk h)
  have hokk : ∀ k b,okOf (anew ok ob ρ w N nx []) ρ' ob' k b → ok k b ∨ (w.heap.size ≤ b ∧ k ≠ 7) ∨ (k ≠ 7 ∧ OwnB ob ρ b):=by
    rintro k b ⟨h|h|⟨h7,j,_,h⟩,_⟩
    · exact .inl h
    · exact .inr (.inl h)
    · exact .inr (.inr ⟨h7,keyed_blk h⟩)
  refine ⟨fun k b=>okOf (anew ok ob ρ w N nx []) ρ' ob' k b ∧ b < w'.heap.size,ρ',i,ok',own',?_,⟨fun k b h=>h.2,?_,?_,?_,?_,?_,?_⟩,?_,Nat.le_trans hn hg.size,hp,?_⟩
  · refine hs'.anew (fun k b h hc=>⟨h,?_⟩) (fun k b h ⟨p,hp,e⟩=>h.1.2 p hp e) (hs'.defers.1.2 rfl) (fun q hq=>by cases hq);obtain ⟨_,e,_⟩:=hc;exact (Array.getElem?_eq_some_iff.1 e).1
  · rintro b ⟨p,hp,e⟩;exact (hs'.low p hp b e).1
  · exact fun k b h=>Nat.lt_of_lt_of_le (h2.lt3 k b h) hg.size
  · exact fun b h=>Nat.lt_of_lt_of_le (h2.lt4 b h) hg.size
  · rintro k b ⟨h,_⟩ h'
    rcases hokk k b h with h|h|h
    · exact h2.ij k b h h'
    · have : w.heap.size ≤ b:=h.1;have:=h2.lt4 b h';omega
    · exact h2.ss b h.2 h'
  · intro k b h h';rcases hown b h' with h1|h1
    · have:=h2.lt3 k b h;omega
    · exact h2.ji k b h h1
  · intro b h h';rcases hown b h with h1|h1
    · have:=h2.lt4 b h';omega
    · exact h2.ss b h1 h'
  · refine ⟨?_,fun b h=>?_⟩
    · rintro k b (h|h)
      · rcases hokk k b h.1 with h|h|h
        · exact hu.1 k b (.inl h)
        · exact hU k b h.2 (Nat.le_trans hn h.1)
        · exact hu.1 k b (.inr h)
      · rcases hown b h.2 with h3|h3
        · exact hU k b h.1 (Nat.le_trans hn h3)
        · exact hu.1 k b (.inr ⟨h.1,h3⟩)
    · rcases hown b h with h|h
      · exact Nat.le_trans hn h
      · exact hu.2 b h
  · refine hab i ok' own' w w' hj hg fun b hb ho=>hs'.keep.block b hb (fun ⟨j,_,e⟩=>?_) (fun hg=>noflag (cx:=anew ok ob ρ w N nx []) (keyed_none hf) hg.1)
    have h3:=keyed_blk e;rcases ho with ho|⟨k,ho⟩|ho
    · have:=hu.2 b h3;omega
    · exact h2.ji k b ho h3
    · exact h2.ss b h3 ho
theorem xP {c : Code} (hab : Abides n0 J) (hU : ∀ k b,k ≠ 7 → n0 ≤ b → U k b) (hr : rngs c = false) (h : yS P te N nx c tm ob nx (fun e tm1 ob1 nx1=>∃ tm' ob' nx',Le nx tm1 ob1 nx1 tm' ob' nx' ∧ Q e st k tm' ob' nx')) (hnx : Nat.ble 1000000 nx = false:=by rfl) : ACodeY P te N Pr J U n0 c st k tm ob nx Q:=by
  rintro hte n a w ⟨ok,ρ,i,ok',own',hs,h2,hu,hn,hp,hj⟩
  unfold yS at h;refine Code.wpIn_mono ?_ (h hte none n (anew ok ob ρ w N nx []) (noR_low hnx hr) rfl rfl ρ a w hs)
  rintro e a' w' ⟨tm1,ob1,nx1,ρ1,⟨tm',ob',nx',hle,hq⟩,hs1⟩
  obtain ⟨ρ',hs'⟩:=hle.st _ rfl ρ1 a' w' hs1;exact ⟨st,k,tm',ob',nx',hq,ys_step hab hU h2 hu hn hp hj hs.fresh hs'⟩
def thenY (K : Bool → Nat → Tm → Obs → Nat → Prop) (Q : YQ) : YQ:=fun e st k tm ob nx=>match e with
  | .normal=>K st k tm ob nx
  | e=>Q e st k tm ob nx
def blockY (id : Nat) (Q : YQ) : YQ:=fun e st k tm ob nx=>match e with
  | .exit i=>match Nat.beq i id with
    | true=>Q .normal st k tm ob nx
    | false=>Q (.exit i) st k tm ob nx
  | e=>Q e st k tm ob nx
theorem xC {x y : Code} (h : ACodeY P te N Pr J U n0 x st k tm ob nx (thenY (fun st k tm ob nx=>ACodeY P te N Pr J U n0 y st k tm ob nx Q) Q)) : ACodeY P te N Pr J U n0 (.seq x y) st k tm ob nx Q:=by
  intro hte n a w hs;refine wpIn_seq (Code.wpIn_mono ?_ (h hte n a w hs))
  rintro e a' w' ⟨st',k',tm',ob',nx',hq,hs'⟩
  cases e <;> simp only [thenY,Exit.then] at hq ⊢
  · exact hq hte n a' w' hs'
  all_goals exact ⟨st',k',tm',ob',nx',hq,hs'⟩
theorem acodeY_block {id : Nat} {c : Code} (h : ACodeY P te N Pr J U n0 c st k tm ob nx (blockY id Q)) : ACodeY P te N Pr J U n0 (.block id c) st k tm ob nx Q:=by
  intro hte n a w hs;refine wpIn_block (Code.wpIn_mono ?_ (h hte n a w hs))
  rintro e a' w' ⟨st',k',tm',ob',nx',hq,hs'⟩
  cases e <;> simp only [blockY,Exit.inBlock] at hq ⊢
  case exit i =>
    by_cases e : i = id
    · subst e;simp only [Nat.beq_refl] at hq;rw [if_pos rfl];exact ⟨st',k',tm',ob',nx',hq,hs'⟩
    · rw [if_neg e];have : Nat.beq i id = false:=by
        cases hb : Nat.beq i id
        · rfl
        · exact absurd (Nat.eq_of_beq_eq_true hb) e
      rw [this] at hq;exact ⟨st',k',tm',ob',nx',hq,hs'⟩
  all_goals exact ⟨st',k',tm',ob',nx',hq,hs'⟩
theorem acodeY_ret (h : Q .ret st k tm ob nx) : ACodeY P te N Pr J U n0 .ret st k tm ob nx Q :=
  fun _ _ _ _ hs=>wpIn_ret ⟨st,k,tm,ob,nx,h,hs⟩
theorem acodeY_exit {id : Nat} (h : Q (.exit id) st k tm ob nx) : ACodeY P te N Pr J U n0 (.exit id) st k tm ob nx Q :=
  fun _ _ _ _ hs=>wpIn_exit ⟨st,k,tm,ob,nx,h,hs⟩
theorem acodeY_skip (h : Q .normal st k tm ob nx) : ACodeY P te N Pr J U n0 .skip st k tm ob nx Q :=
  fun _ _ _ _ hs=>wpIn_skip ⟨st,k,tm,ob,nx,h,hs⟩
theorem acodeY_cond {c : Operand} {x y : Code} {b : Bool} (hc : look tm c = ib b) (h1 : b = true → ACodeY P te N Pr J U n0 x st k tm ob nx Q) (h2 : b = false → ACodeY P te N Pr J U n0 y st k tm ob nx Q) : ACodeY P te N Pr J U n0 (.cond c x y) st k tm ob nx Q:=by
  intro hte n a w hs;have hr : a.eval c = .bool b:=by
    obtain ⟨ok,ρ,i,ok',own',hs,_⟩:=hs;have:=hs.look c;rw [hc] at this;exact this
  exact wpIn_cond_split (t:=b) hr (fun e=>h1 e hte n a w hs) (fun e=>h2 e hte n a w hs)
theorem acodeY_loop {c : Code} {κ : Type} (Ip : κ → Prop) (ks : κ → Nat) (I : κ → Tm) (O : κ → Obs) (nx' : Nat) (μ : κ → Nat) (i0 : κ) (hp : Ip i0) (hab : Abides n0 J) (hU : ∀ k b,k ≠ 7 → n0 ≤ b → U k b) (h0 : Le nx tm ob nx (I i0) (O i0) nx') (hk : ks i0 = k)
    (round : ∀ i,Ip i → ACodeY P te N Pr J U n0 c st (ks i) (I i) (O i) nx' (thenY (fun st1 k1 tm1 ob1 nx1=>∃ j,Ip j ∧ μ j < μ i ∧ st1 = st ∧ k1 = ks j ∧ tm1 = I j ∧ ob1 = O j ∧ nx1 = nx') Q)) : ACodeY P te N Pr J U n0 (.loop c) st k tm ob nx Q:=by
  intro hte n a w hs;have hs0 : YS N Pr J U n0 st (ks i0) (I i0) (O i0) nx' a w:=by
    obtain ⟨ok,ρ,i,ok',own',hs,h2,hu,hn,hp,hj⟩:=hs;obtain ⟨ρ',hs'⟩:=h0.st _ rfl ρ a w hs;rw [hk];exact ys_step hab hU h2 hu hn hp hj hs.fresh hs'
  have key : ∀ m i,Ip i → μ i < m → ∀ a w,YS N Pr J U n0 st (ks i) (I i) (O i) nx' a w → Code.roundsIn (FR none) n P c (fun e a' w'=>∃ st' k' tm' ob' nx',Q e st' k' tm' ob' nx' ∧ YS N Pr J U n0 st' k' tm' ob' nx' a' w') m a w:=by
    intro m
    induction m with
    | zero=>intro i _ hi;omega
    | succ m ih =>
      intro i hpi hi a w hs;refine Code.wpIn_mono ?_ (round i hpi hte n a w hs)
      rintro e a' w' ⟨st',k',tm',ob',nx2,hq,hs'⟩
      cases e <;> simp only [thenY,Exit.then] at hq ⊢
      · obtain ⟨j,hpj,hj,rfl,rfl,rfl,rfl,rfl⟩:=hq;exact ih j hpj (by omega) a' w' hs'
      all_goals exact ⟨st',k',tm',ob',nx2,hq,hs'⟩
  exact wpIn_loop_rounds _ (key (μ i0 + 1) i0 hp (Nat.lt_succ_self _) a w hs0)
theorem run_yieldop {o : Oper} {f : Operand} {args : Array Operand} {ts : Array TypeId} {a : Act} {w w' : World} {nxt : Next} (hop : o.op = .call { callee:=.value f,args:=args,argTypes:=ts }) (hf : a.eval f = .func (.yield l) #[] #[]) (h : (Instr.yield l (args.map a.eval)).run P w = .ok nxt w') :
    (execOp a.eval o).run P w = .ok nxt w':=by
  unfold execOp;rw [hop];simp only [resolve,hf];simp [go_sem,invoke];exact h
theorem ok_anew {ok : Oks} {ρ : Nat → Option Value} {w : World} {hids : List (Nat × Obj)} : xK (okOf (anew ok ob ρ w N nx hids) ρ ob) ok w w:=fun _ b hb hlt=>by
  rcases hb.1 with h|h|⟨_,i,_,h⟩
  · exact ⟨h,rfl⟩
  · have : w.heap.size ≤ b:=h.1;omega
  · obtain ⟨p,hp,e⟩:=keyed_blk h;exact absurd e (hb.2 p hp)
theorem anew_disj {ok : Oks} {ρ : Nat → Option Value} {a : Act} {w w' : World} {hids : List (Nat × Obj)} {tm' : Tm} (h : StOk (anew ok ob ρ w N nx hids) tm' ob nx ρ a w') {k b : Nat} (hb : ok k b) : ¬ OwnB ob ρ b:=by
  rintro ⟨p,hp,e⟩
  exact h.disj p.1 b (h.fresh p hp) (by show blk (keyed ob ρ p.1) = _;rw [keyed_mem hp];exact e) k hb
theorem acodeY_yield {id : Nat} {ops : Array Oper} (pre post : List Oper) (o : Oper) {f : Operand} {args : Array Operand} {ts : Array TypeId} (hops : ops.toList = pre ++ o :: post) (hop : o.op = .call { callee:=.value f,args:=args,argTypes:=ts }) (hg : o.guard = none)
    (hab : Abides n0 J) (hU : ∀ k b,k ≠ 7 → n0 ≤ b → U k b) (hy : Yields P l xs Pr J U n0) (hk : k < xs.length)
    (h : awp P te N nx ops.toList pre tm ob nx (fun tm1 ob1 nx1=>∃ tm2 ob2 nx2,Le nx tm1 ob1 nx1 tm2 ob2 nx2 ∧ look tm2 f = .one (.lit (.func (.yield l) #[] #[])) ∧ mapL (look tm2) args.toList = xs[k] ∧ kB xs[k] = true ∧
      ∀ st,put N o.dst (ib (!st)) tm2 fun tm3=>awp P te N nx2 ops.toList post tm3 ob2 nx2 fun tm4 ob4 nx4=>∃ tm5 ob5 nx5,Le nx2 tm4 ob4 nx4 tm5 ob5 nx5 ∧ Q .normal st (k + 1) tm5 ob5 nx5)) :
    ACodeY P te N Pr J U n0 (.region id ops false) false k tm ob nx Q:=by
  rintro hte n a w ⟨ok,ρ,i,ok',own',hs,h2,hu,hn,hp,hj⟩
  refine wpIn_region_list ?_;rw [hops];refine awp_rest (cx:=anew ok ob ρ w N nx []) hte ops (o :: post) pre h hs ?_
  rintro tm1 ob1 nx1 ρ1 a1 w1 ⟨tm2,ob2,nx2,hle,hf,hargs,hcl,hpost⟩ hs1
  obtain ⟨ρ2,hs2⟩:=hle.st _ rfl ρ1 a1 w1 hs1;obtain ⟨ok2,ρ3,i2,ok3,own3,hs3,h3,hu3,hn3,hp3,hj3⟩:=ys_step hab hU h2 hu hn hp hj hs.fresh hs2;have hfv : a1.eval f = .func (.yield l) #[] #[]:=by
    have:=hs3.look f;rw [hf] at this;exact this
  have hreps : xU ok2 xB w1 xs[k] (args.toList.map a1.eval):=by
    have:=(mapL_rep (w:=w1) (lk:=look tm2) (xs:=args.toList) (fun x _=>hs3.look x)).kept ok_anew;rw [hargs] at this;exact closedAs_rep hcl this
  obtain ⟨fn,tmps,assign,body,hrun,hround⟩:=hy k i2 ok2 ok3 own3 w1 _ (n - 1) hk hp3 hj3 ⟨h3.lt1,fun _ h=>h.elim,h3.lt3,h3.lt4,h3.ij,fun _ _ _ h=>h,fun _ h=>h.elim⟩ (fun k b h=>hu3.1 k b (.inl h)) hn3 hreps;unfold wpListIn;rw [if_pos (by simp [Region.wanted,hg])];refine ⟨fun _ _=>trivial,?_⟩;rw [show o.semAt (FR none).round a1.eval = execOp a1.eval o from Oper.semAt_none _ _,run_yieldop hop hfv (by rw [show args.map a1.eval = (args.toList.map a1.eval).toArray by apply Array.toList_inj.1;simp];exact hrun)];refine ⟨fr_depth,hround.mono ?_⟩
  rintro e' W' ⟨hg',hsame,st,j,ok4,own4,rfl,hp4,hj4,hsub,hoks,hlt4,hlt5⟩
  have hs4:=hs3.other hg' (fun b hb ho=>hsame b hb (by
    rcases ho with ⟨k,ho⟩|ho
    · exact h3.ij k b ho
    · exact h3.ss b ho)) (fun q hq=>by cases hq)
  have h4 : Two ok2 (OwnB ob2 ρ3) ok4 own4 W':=by
    refine ⟨fun k b h=>Nat.lt_of_lt_of_le (h3.lt1 k b h) hg'.size,fun b h=>Nat.lt_of_lt_of_le (h3.lt2 b h) hg'.size,hlt4,hlt5,fun k b h h'=>?_,fun k b h h'=>?_,fun b h h'=>?_⟩
    · rcases hsub b h' with h1|h1
      · exact h3.ij k b h h1
      · have:=h3.lt1 k b h;omega
    · rcases hoks k b h with h1|h1|⟨_,h1|h1⟩
      · exact h3.ji k b h1 h'
      · exact anew_disj hs3 h1 h'
      · exact h3.ss b h' h1
      · have:=h3.lt2 b h';omega
    · rcases hsub b h' with h1|h1
      · exact h3.ss b h h1
      · have:=h3.lt2 b h;omega
  obtain ⟨tm3,hk3,hs5⟩:=hs4.put (v:=ib (!st)) (u:=.bool (!st)) (hpost st) rfl;refine awp_sound (cx:=anew ok2 ob2 ρ3 W' N nx2 []) hte ops post hk3 hs5 ?_
  rintro tm4 ob4 nx4 ρ4 a4 w4 ⟨tm5,ob5,nx5,hle5,hq⟩ hs6
  obtain ⟨ρ6,hs7⟩:=hle5.st _ rfl ρ4 a4 w4 hs6;exact ⟨st,k + 1,tm5,ob5,nx5,hq,ys_step hab hU h4 hu3 (Nat.le_trans hn3 hg'.size) hp4 hj4 hs3.fresh hs7⟩
theorem acodeY_yieldG {id : Nat} {ops : Array Oper} (pre post : List Oper) (o : Oper) {f : Operand} {args : Array Operand} {ts : Array TypeId} {j d : Nat} {want : Bool} (q : Bool) (hops : ops.toList = pre ++ o :: post) (hop : o.op = .call { callee:=.value f,args:=args,argTypes:=ts }) (hg : o.guard = some (j,want))
    (hd : dstAt ops.toList j = some d) (hN : Nat.ble (d + 1) N = true) (hab : Abides n0 J) (hU : ∀ k b,k ≠ 7 → n0 ≤ b → U k b) (hy : Yields P l xs Pr J U n0)
    (h : awp P te N nx ops.toList pre tm ob nx (fun tm1 ob1 nx1=>∃ tm2 ob2 nx2,Le nx tm1 ob1 nx1 tm2 ob2 nx2 ∧ (∃ b,get tm2 d = ib b ∧ gq want b = q) ∧
      (q = true → ∃ hk : k < xs.length,wereL tm2 (f :: args.toList) ∧ bareLk tm2 f = .one (.lit (.func (.yield l) #[] #[])) ∧ mapL (bareLk tm2) args.toList = xs[k] ∧ kB xs[k] = true ∧
        ∀ st,put N o.dst (.cond true (ib (!st))) tm2 fun tm3=>awp P te N nx2 ops.toList post tm3 ob2 nx2 fun tm4 ob4 nx4=>∃ tm5 ob5 nx5,Le nx2 tm4 ob4 nx4 tm5 ob5 nx5 ∧ Q .normal st (k + 1) tm5 ob5 nx5) ∧
      (q = false → put N o.dst (.cond false (ib false)) tm2 fun tm3=>awp P te N nx2 ops.toList post tm3 ob2 nx2 fun tm4 ob4 nx4=>∃ tm5 ob5 nx5,Le nx2 tm4 ob4 nx4 tm5 ob5 nx5 ∧ Q .normal false k tm5 ob5 nx5))) :
    ACodeY P te N Pr J U n0 (.region id ops false) false k tm ob nx Q:=by
  rintro hte n a w ⟨ok,ρ,i,ok',own',hs,h2,hu,hn,hp,hj⟩
  refine wpIn_region_list ?_;rw [hops];refine awp_rest (cx:=anew ok ob ρ w N nx []) hte ops (o :: post) pre h hs ?_
  rintro tm1 ob1 nx1 ρ1 a1 w1 ⟨tm2,ob2,nx2,hle,⟨b,hb,hq⟩,hyes,hnot⟩ hs1
  obtain ⟨ρ2,hs2⟩:=hle.st _ rfl ρ1 a1 w1 hs1;obtain ⟨ok2,ρ3,i2,ok3,own3,hs3,h3,hu3,hn3,hp3,hj3⟩:=ys_step hab hU h2 hu hn hp hj hs.fresh hs2;have hwt : Region.wanted o (yielded ops a1.tmps) = q:=(wanted_at (ops:=ops) hs3 hg hd hN hb).trans hq;unfold wpListIn;cases q with
  | false =>
    rw [if_neg (by rw [hwt];decide)];obtain ⟨tm3,hk3,hs5⟩:=hs3.put (v:=.cond false (ib false)) (u:=undef) (hnot rfl) ⟨fun e=>(by cases e),fun _=>rfl⟩;refine ⟨fun _ _=>trivial,?_⟩;refine awp_sound (cx:=anew ok2 ob2 ρ3 w1 N nx2 []) hte ops post hk3 hs5 ?_
    rintro tm4 ob4 nx4 ρ4 a4 w4 ⟨tm5,ob5,nx5,hle5,hq⟩ hs6
    obtain ⟨ρ6,hs7⟩:=hle5.st _ rfl ρ4 a4 w4 hs6;exact ⟨false,k,tm5,ob5,nx5,hq,ys_step hab hU h3 hu3 hn3 hp3 hj3 hs3.fresh hs7⟩
  | true =>
    obtain ⟨hk,hwr,hf,hargs,hcl,hpost⟩:=hyes rfl;have hfv : a1.eval f = .func (.yield l) #[] #[]:=by
      have:=A.bare_rep (xN hwr f (by simp)) (hs3.look f);rw [show (look tm2 f).bare = _ from hf] at this;exact this
    have hreps : xU ok2 xB w1 xs[k] (args.toList.map a1.eval):=by
      have:=(mapL_rep (w:=w1) (lk:=bareLk tm2) (xs:=args.toList) (fun x hx=>A.bare_rep (xN hwr x (by simp [hx])) (hs3.look x))).kept ok_anew;rw [hargs] at this;exact closedAs_rep hcl this
    obtain ⟨fn,tmps,assign,body,hrun,hround⟩:=hy k i2 ok2 ok3 own3 w1 _ (n - 1) hk hp3 hj3 ⟨h3.lt1,fun _ h=>h.elim,h3.lt3,h3.lt4,h3.ij,fun _ _ _ h=>h,fun _ h=>h.elim⟩ (fun k b h=>hu3.1 k b (.inl h)) hn3 hreps;rw [if_pos hwt];refine ⟨fun _ _=>trivial,?_⟩;rw [show o.semAt (FR none).round a1.eval = execOp a1.eval o from Oper.semAt_none _ _,run_yieldop hop hfv (by rw [show args.map a1.eval = (args.toList.map a1.eval).toArray by apply Array.toList_inj.1;simp];exact hrun)];refine ⟨fr_depth,hround.mono ?_⟩
    rintro e' W' ⟨hg',hsame,st,j,ok4,own4,rfl,hp4,hj4,hsub,hoks,hlt4,hlt5⟩
    have hs4:=hs3.other hg' (fun b hb ho=>hsame b hb (by
      rcases ho with ⟨k,ho⟩|ho
      · exact h3.ij k b ho
      · exact h3.ss b ho)) (fun q hq=>by cases hq)
    have h4 : Two ok2 (OwnB ob2 ρ3) ok4 own4 W':=by
      refine ⟨fun k b h=>Nat.lt_of_lt_of_le (h3.lt1 k b h) hg'.size,fun b h=>Nat.lt_of_lt_of_le (h3.lt2 b h) hg'.size,hlt4,hlt5,fun k b h h'=>?_,fun k b h h'=>?_,fun b h h'=>?_⟩
      · rcases hsub b h' with h1|h1
        · exact h3.ij k b h h1
        · have:=h3.lt1 k b h;omega
      · rcases hoks k b h with h1|h1|⟨_,h1|h1⟩
        · exact h3.ji k b h1 h'
        · exact anew_disj hs3 h1 h'
        · exact h3.ss b h' h1
        · have:=h3.lt2 b h';omega
      · rcases hsub b h' with h1|h1
        · exact h3.ss b h h1
        · have:=h3.lt2 b h;omega
    obtain ⟨tm3,hk3,hs5⟩:=hs4.put (v:=.cond true (ib (!st))) (u:=.bool (!st)) (hpost st) ⟨fun _=>rfl,fun e=>(by cases e)⟩;refine awp_sound (cx:=anew ok2 ob2 ρ3 W' N nx2 []) hte ops post hk3 hs5 ?_
    rintro tm4 ob4 nx4 ρ4 a4 w4 ⟨tm5,ob5,nx5,hle5,hq⟩ hs6
    obtain ⟨ρ6,hs7⟩:=hle5.st _ rfl ρ4 a4 w4 hs6;exact ⟨st,k + 1,tm5,ob5,nx5,hq,ys_step hab hU h4 hu3 (Nat.le_trans hn3 hg'.size) hp4 hj4 hs3.fresh hs7⟩
theorem aiter_of {g : FuncId} {fn : Func} {c : Code} {caps : List A} (hf : P.funcs[g]? = some fn) (hb : fn.body = some c) (hname : (fn.name == "runtime.NumGoroutine") = false) (hr : fn.results = #[]) (hte : TEok P te) (hn : Nat.ble (caps.length + 1) fn.ntmps = true)
    (h : ∀ (l : Nat) (ι : Type) (Pr : Bool → Nat → ι → Prop) (J : ι → Oks → (Nat → Prop) → World → Prop) (U : Oks) (n0 : Nat),(∀ k b,k ≠ 7 → n0 ≤ b → U k b) → Abides n0 J → Yields P l xs Pr J U n0 →
      ACodeY P te fn.ntmps Pr J U n0 c false 0 (argT 0 (.one (.lit (.func (.yield l) #[] #[])) :: caps)) [] 0 (fun e st k _ _ _=>(e = .ret ∨ e = .normal) ∧ (st = false → k = xs.length))) : AIter P g caps xs:=by
  refine ⟨⟨fn,hf,by rw [hb];rfl,hname⟩,fun l ι Pr J U n0 hU hab hy i ok ok' own' W vs hp hj hgl h2 hu hn0 hvs=>callsIn_wide.1 (callsIn_of_wp_marks (F:=FR none) (n:=0) hf hb trivial ?_)⟩;have hvs' : xU ok xB W (.one (.lit (.func (.yield l) #[] #[])) :: caps) (.func (.yield l) #[] #[] :: vs):=⟨_,_,rfl,rfl,hvs⟩;have hl:=xU.len hvs';have hn:=Nat.le_of_ble_eq_true hn;have hk : xK ok (okOf (anew ok [] xB W fn.ntmps 0 []) xB []) W W:=fun _ b hb _=>⟨⟨.inl hb,fun p hp=>by cases hp⟩,rfl⟩
  have hs : StOk (anew ok [] xB W fn.ntmps 0 []) (argT 0 (.one (.lit (.func (.yield l) #[] #[])) :: caps)) [] 0 xB { tmps:=(.func (.yield l) #[] #[] :: vs).toArray ++ Array.replicate (fn.ntmps - (.func (.yield l) #[] #[] :: vs).toArray.size) undef,defers:=[] } W:=by
    refine ⟨?_,⟨⟨(fun e=>by cases e),fun _=>rfl⟩,fun q hq=>by cases hq⟩,fun i=>?_,fun p hp=>by (cases hp),by simp,fun p hp=>by (cases hp),fun _ _=>rfl,Nat.le_refl _,fun p hp=>by (cases hp),fun p hp=>by (cases hp),⟨rfl,rfl,rfl,Nat.le_refl _,fun _ _ _ _=>rfl,fun _ _=>.rfl' rfl⟩,fun _ _ h _=>absurd h (Nat.not_lt_zero _),fun _ h=>absurd h (Nat.not_lt_zero _),hgl,.none rfl⟩
    · show ((.func (.yield l) #[] #[] :: vs).toArray ++ Array.replicate (fn.ntmps - (.func (.yield l) #[] #[] :: vs).toArray.size) undef).size = fn.ntmps;simp only [Array.size_append,List.size_toArray,Array.size_replicate];rw [List.length_cons] at hl ⊢;simp only [List.length_cons] at hl;omega
    · rcases argT_get 0 i hvs' with h1|h1
      · have hcell : ((.func (.yield l) #[] #[] :: vs).toArray ++ Array.replicate (fn.ntmps - (.func (.yield l) #[] #[] :: vs).toArray.size) undef).getD i undef = if i < 0 then undef else (Value.func (.yield l) #[] #[] :: vs).getD (i - 0) undef:=by
          rw [if_neg (Nat.not_lt_zero _),Nat.sub_zero,Array.getD_eq_getD_getElem?,Array.getElem?_append];split
          · simp [List.getD]
          · rename_i hge;rw [Array.getElem?_replicate];simp only [List.size_toArray] at hge ⊢;rw [List.getD,List.getElem?_eq_none (by omega)];split <;> rfl
        rw [hcell];exact A.kept hk h1
      · rw [h1];trivial
  have hno : ∀ b,¬ OwnB ([] : Obs) xB b:=fun b ⟨p,hp,_⟩=>by cases hp
  refine Code.wpIn_mono ?_ (h l ι Pr J U n0 hU hab hy hte 0 _ W ⟨ok,xB,i,ok',own',hs,⟨h2.lt1,fun b h=>(hno b h).elim,h2.lt3,h2.lt4,h2.ij,fun _ b _ h=>hno b h,fun b h=>(hno b h).elim⟩,⟨fun k b h=>h.elim (hu k b) (fun h=>(hno b h.2).elim),fun b h=>(hno b h).elim⟩,Nat.le_of_eq hn0,hp,hj⟩)
  rintro e a' w' ⟨st,k,tm',ob',nx',⟨he,hst⟩,ok2,ρ2,j,ok3,own3,hs',_,_,_,hp',hj'⟩
  have hd : a'.defers = []:=hs'.defers.1.2 rfl;have fin : LeavesInM (FR none) 0 P fn a'.tmps (fun e W'=>(∃ v,e = .returned v) ∧ ∃ st k j ok2 own2,(st = false → k = xs.length) ∧ Pr st k j ∧ J j ok2 own2 W') a'.defers .returning w':=by
    rw [hd];exact ⟨_,results_none hr _ _ _,⟨_,rfl⟩,st,k,j,ok3,own3,hst,hp',hj'⟩
  rcases he with rfl|rfl
  · exact fin
  · exact fin
end
def appT : List Nat → List A → Tm → Tm
  | p :: ps,x :: xs,tm=>appT ps xs ((p,x) :: tm)
  | _,_,tm=>tm
def hasO (ob : Obs) (i : Nat) : Bool:=match getO ob i with
  | some _=>true
  | none=>false
def denseO (ob : Obs) : Nat → Bool
  | 0=>true
  | m + 1=>match hasO ob m with
    | true=>denseO ob m
    | false=>false
theorem denseO_get {ob : Obs} : ∀ {m i : Nat},denseO ob m = true → i < m → ∃ o,getO ob i = some o
  | m + 1,i,h,hi=>by
    unfold denseO at h;split at h
    · rename_i h1;rcases Nat.lt_or_ge i m with h2|h2
      · exact denseO_get h h2
      · obtain rfl : i = m:=by omega
        unfold hasO at h1;split at h1
        · rename_i o e;exact ⟨o,e⟩
        · cases h1
    · cases h
def downN : Nat → List Nat
  | 0=>[]
  | m + 1=>m :: downN m
theorem memN_down : ∀ {m i : Nat},i < m → memN (downN m) i = true
  | m + 1,i,h=>by
    unfold downN memN;split
    · rfl
    · rename_i e;exact memN_down (by
        have : m ≠ i:=fun e'=>by subst e';simp at e
        omega)
def rndQ {ι : Type} (Pr : Bool → Nat → ι → Prop) (I : ι → Obs) (Xc : ι → Code) (m k : Nat) : AQ:=fun e tm ob nx=>match e with
  | .normal=>∃ j,Pr false (k + 1) j ∧ Le m tm ob nx [] (I j) m
  | .ret=>∃ j,Pr true (k + 1) j ∧ Xc j = .ret ∧ Le m tm ob nx [] (I j) m
  | .exit id=>∃ j,Pr true (k + 1) j ∧ Xc j = .exit id ∧ Le m tm ob nx [] (I j) m
  | _=>False
def asnQ (K : Tm → Obs → Nat → Prop) : AQ:=fun e tm ob nx=>match e with
  | .normal=>K tm ob nx
  | _=>False
def MarkB (ds : List Deferred) (b : Nat) : Prop:={ target:=.collected b,args:=#[] } ∈ ds
section
variable {P : Program} {te : List (TypeId × TyI)} {cx : Cx} {tm : Tm} {ob : Obs} {nx : Nat} {ρ : Nat → Option Value} {a : Act} {w w' : World}
theorem Defs.mark {M : Nat → Prop} : ∀ {ds : List Deferred},Defs M ds w → ∀ b,MarkB ds b → w.heap[b]? = some (Obj.deferred (some [])) ∧ M b
  | d :: ds,h,b,hb=>by
    obtain ⟨⟨c,h1,h2,h3,_⟩,h5⟩:=h;rcases List.mem_cons.1 hb with e|e
    · rw [h1] at e
      injection e with e _
      injection e with e
      subst e;exact ⟨h3,h2⟩
    · exact Defs.mark h5 b e
theorem Defs.same {M : Nat → Prop} : ∀ {ds : List Deferred},Defs M ds w → (∀ b,MarkB ds b → w'.heap[b]? = w.heap[b]?) → Defs M ds w'
  | [],_,_=>trivial
  | d :: ds,h,hs=>by
    obtain ⟨⟨c,h1,h2,h3,h4⟩,h5⟩:=h;exact ⟨⟨c,h1,h2,(hs c (by rw [h1];exact List.mem_cons_self)).trans h3,h4⟩,h5.same fun b hb=>hs b (List.mem_cons_of_mem _ hb)⟩
def UOk (cx : Cx) (k b : Nat) : Prop:=cx.ok0 k b ∨ (cx.w0.heap.size ≤ b ∧ k ≠ 7) ∨ (k ≠ 7 ∧ ∃ i,i < cx.nx0 ∧ blk (cx.nm i) = some b)
theorem StOk.reput {ok : Oks} {nm : Nat → Option Value} {w0 : World} {N n0 l : Nat} {h1 h2 : List (Nat × Obj)} {o q : Obj} (h : StOk ⟨ok,nm,w0,N,n0,h1,false⟩ tm ob nx ρ a w) (hl0 : w0.heap[l]? = some q) (hq : Obj.noCells q) (hl : w.heap[l]? = some q) (hh : HidOk h2 (w.putObj l o)) :
    StOk ⟨ok,nm,w0.putObj l o,N,n0,h2,false⟩ tm ob nx ρ a (w.putObj l o):=by
  have hn : ¬ CellB w l:=CellB.not hl hq;have hok : ∀ k b,okOf ⟨ok,nm,w0,N,n0,h1,false⟩ ρ ob k b → okOf ⟨ok,nm,w0.putObj l o,N,n0,h2,false⟩ ρ ob k b:=fun k b hb=>⟨hb.1.imp id (Or.imp (fun h=>⟨by show (w0.putObj l o).heap.size ≤ b;rw [World.putObj_size];exact h.1,h.2⟩) id),hb.2⟩
  have hk : xK (okc (okOf ⟨ok,nm,w0,N,n0,h1,false⟩ ρ ob) w) (okOf ⟨ok,nm,w0.putObj l o,N,n0,h2,false⟩ ρ ob) w (w.putObj l o):=fun k c hc _=>⟨hok k c hc.1,World.putObj_heap_other (fun e=>hn (e ▸ hc.2))⟩
  have hlt0 : l < w0.heap.size:=(Array.getElem?_eq_some_iff.1 hl0).1;have hlt : l < w.heap.size:=(Array.getElem?_eq_some_iff.1 hl).1;refine ⟨h.size,⟨⟨(fun e=>by cases e),h.defers.1.2⟩,hh⟩,fun i=>A.kept hk (A.cells (h.tms i)),fun p hp=>Ob.kept hk (fun c hc=>World.putObj_heap_other (fun e=>hn (e ▸ Ob.cells (h.obs p hp) hc))) (Ob.okcells (h.obs p hp)),h.nd,h.fresh,h.names,h.nx0,h.sep,
    fun p hp c hc=>⟨by rw [World.putObj_size];exact (h.low p hp c hc).1,(h.low p hp c hc).2.imp (fun h=>by show (w0.putObj l o).heap.size ≤ c;rw [World.putObj_size];exact h) id⟩,
    ⟨h.keep.os,h.keep.tape,h.keep.output,?_,fun c hc ho hcg=>?_,fun c hcg=>?_⟩,h.disj,h.pin,?_,fun b hb=>⟨by show b < (w0.putObj l o).heap.size;rw [World.putObj_size];exact (h.bags b hb).1,(h.bags b hb).2⟩⟩
  · show (w0.putObj l o).heap.size ≤ _;rw [World.putObj_size,World.putObj_size];exact h.keep.size
  · have hc : c < (w0.putObj l o).heap.size:=hc;rw [World.putObj_size] at hc;show (w.putObj l o).heap[c]? = (w0.putObj l o).heap[c]?
    by_cases e : c = l
    · subst e;rw [World.putObj_heap_same hlt,World.putObj_heap_same hlt0]
    · rw [World.putObj_heap_other e,World.putObj_heap_other e];exact h.keep.block c hc ho hcg
  · by_cases e : c = l
    · subst e;exact .rfl' (by rw [World.putObj_heap_same hlt,World.putObj_heap_same hlt0])
    · intro cs T f e2;have e2 : (w0.putObj l o).heap[c]? = some (.cells cs T f):=e2;rw [World.putObj_heap_other e] at e2;obtain ⟨cs',e3,h3⟩:=h.keep.shape c hcg cs T f e2;exact ⟨cs',(World.putObj_heap_other e).trans e3,h3⟩
  · obtain ⟨g1,g2,g3⟩:=h.glob;refine ⟨g1,by show _ ≤ (w0.putObj l o).heap.size;rw [World.putObj_size];exact g2,g3.kept fun g hg=>World.putObj_heap_other fun e=>?_⟩;obtain ⟨cs,T,f,hc⟩:=g3.cells g hg;rw [e,hl0] at hc;exact hq.1 _ _ _ (Option.some.inj hc)
theorem appT_st {N : Nat} : ∀ {ps : List Nat} {xs : List A} {vs : List Value} {tm : Tm} {tmps : Array Value},StOk cx tm ob nx ρ ⟨tmps,[]⟩ w → cx.N = N → ps.all (fun p=>decide (p < N)) = true → xU (okOf cx ρ ob) ρ w xs vs →
    StOk cx (appT ps xs tm) ob nx ρ ⟨(ps.zip vs).foldl (fun t (p,v)=>t.setIfInBounds p v) tmps,[]⟩ w
  | [],_,_,_,_,h,_,_,_=>h
  | _ :: _,[],_,_,_,h,_,_,hr=>by rw [show _ = _ from hr];exact h
  | p :: ps,x :: xs,vs,tm,tmps,h,hN,hp,hr=>by
    obtain ⟨v,r,rfl,h1,h2⟩:=hr;rw [List.all_cons,Bool.and_eq_true,decide_eq_true_eq] at hp;have hput : put cx.N (some p) x tm (fun tm'=>tm' = (p,x) :: tm):=by
      unfold put;simp only;rw [Nat.ble_eq_true_of_le (by rw [hN];exact hp.1)];trivial
    obtain ⟨tm',e,h3⟩:=h.put hput h1;subst e;exact appT_st (tm:=(p,x) :: tm) (tmps:=tmps.setIfInBounds p v) h3 hN hp.2 h2
end
section
variable {P : Program} {te : List (TypeId × TyI)} {N nx0 nx : Nat} {tm : Tm} {ob : Obs} {Q : AQ}
theorem DefOk.kept' {cx : Cx} {ds : List Deferred} {w : World} (h : DefOk cx ds w) {l : Nat} {q : Loop} (hl : w.heap[l]? = some (.loop q)) (o : Obj) (hh : cx.hids = []:=by first|assumption|rfl) : DefOk cx ds (w.putObj l o):=by
  refine ⟨⟨fun e=>(h.1.1 e).same fun b hb=>World.putObj_heap_other fun e2=>?_,h.1.2⟩,by rw [hh];exact fun q hq=>by cases hq⟩;have:=((h.1.1 e).mark b hb).1;rw [e2,hl] at this;cases this
structure LS {ι : Type} (cx : Cx) (a : Act) (tm1 : Tm) (m l D : Nat) (I : ι → Obs) (rec : LoopState → Option Code → Loop) (Xc : ι → Code) (N : Nat) (si : Bool × ι) (ok : Oks) (own : Nat → Prop) (W : World) (ρ : Nat → Option Value) : Prop where
  st : StOk (anew ok (I si.2) ρ W N m []) tm1 (I si.2) m ρ ⟨a.tmps,[]⟩ W
  own : ∀ b,own b ↔ OwnB (I si.2) ρ b ∨ b = l ∨ b = D ∨ MarkB a.defers b
  loop : W.heap[l]? = some (.loop (if si.1 then rec .done (some (Xc si.2)) else rec .ready none))
  defs : Defs cx.mark ({ target:=.collected D,args:=#[] } :: a.defers) W
  keep : Keep cx W
  low : cx.w0.heap.size ≤ l
  okU : ∀ k b,ok k b → UOk cx k b
  okl : ∀ k b,ok k b → b < W.heap.size ∧ b ≠ l
  ownl : ∀ p ∈ I si.2,∀ b,blk (ρ p.1) = some b → cx.w0.heap.size ≤ b ∨ ∃ i,i < cx.nx0 ∧ blk (cx.nm i) = some b
  pin : ∀ i,i < cx.nx0 → ∀ p,cx.nm i = some (.pointer p) → ρ i = cx.nm i
variable {ι : Type} {cx : Cx} {a : Act} {tm1 : Tm} {m l D : Nat} {I : ι → Obs} {rec : LoopState → Option Code → Loop} {Xc : ι → Code} {si : Bool × ι} {ok : Oks} {own : Nat → Prop} {W : World} {ρ : Nat → Option Value}
theorem LS.lt (h : LS cx a tm1 m l D I rec Xc N si ok own W ρ) {b : Nat} (hb : own b) : b < W.heap.size:=by
  rcases (h.own b).1 hb with ⟨p,hp,e⟩|rfl|rfl|h1
  · exact (h.st.low p hp b e).1
  · exact (Array.getElem?_eq_some_iff.1 h.loop).1
  · exact (Array.getElem?_eq_some_iff.1 (h.defs.mark b (List.mem_cons_self)).1).1
  · exact (Array.getElem?_eq_some_iff.1 (h.defs.mark b (List.mem_cons_of_mem _ h1)).1).1
theorem LS.abides (n0 : Nat) (hn : cx.w0.heap.size ≤ n0) (hbk : ∀ b,cx.bag b → b < cx.w0.heap.size) : Abides n0 (fun (si : Bool × ι) ok own W=>∃ ρ,LS cx a tm1 m l D I rec Xc N si ok own W ρ):=by
  rintro si ok own w w' ⟨ρ,h⟩ hg hs
  have hown : ∀ b,own b → w'.heap[b]? = w.heap[b]?:=fun b hb=>hs b (h.lt hb) (.inr (.inr hb))
  refine ⟨ρ,h.st.other hg (fun b hb ho=>hs b hb (.inr (ho.imp id fun ho=>(h.own b).2 (.inl ho)))) (fun q hq=>by cases hq),h.own,(hown l ((h.own l).2 (.inr (.inl rfl)))).trans h.loop,h.defs.same fun b hb=>hown b ((h.own b).2 ?_),?_,h.low,h.okU,fun k b hb=>⟨Nat.lt_of_lt_of_le (h.okl k b hb).1 hg.size,(h.okl k b hb).2⟩,h.ownl,h.pin⟩
  · rcases List.mem_cons.1 hb with e|e
    · injection e with e _
      injection e with e
      exact .inr (.inr (.inl e))
    · exact .inr (.inr (.inr e))
  · exact ⟨hg.os.trans h.keep.os,hg.tape.trans h.keep.tape,hg.output.trans h.keep.output,Nat.le_trans h.keep.size hg.size,fun b hb ho hg=>(hs b (Nat.lt_of_lt_of_le hb h.keep.size) (.inl (Nat.lt_of_lt_of_le hb hn))).trans (h.keep.block b hb ho hg),fun b hbg=>(h.keep.shape b hbg).trans (.rfl' (hs b (Nat.lt_of_lt_of_le (hbk b hbg) h.keep.size) (.inl (Nat.lt_of_lt_of_le (hbk b hbg) hn))))⟩
theorem LS.back (h : LS cx a tm1 m l D I rec Xc N si ok own W ρ) (hfr : cx.fr = true) (hh : cx.hids = []) (hN : cx.N = N) (hnx : cx.nx0 ≤ m) (hdj : ∀ i b,i < cx.nx0 → blk (cx.nm i) = some b → ∀ k,¬ cx.ok0 k b) (hgl : GlobAt cx.ok0 cx.w0) (hbg : BagOk cx) :
    StOk cx tm1 (I si.2) m ρ ⟨a.tmps,{ target:=.collected D,args:=#[] } :: a.defers⟩ W:=by
  have hk : xK (okOf (anew ok (I si.2) ρ W N m []) ρ (I si.2)) (okOf cx ρ (I si.2)) W W:=fun _ b hb hlt=>by
    refine ⟨⟨?_,hb.2⟩,rfl⟩;exact h.okU _ b (ok_anew _ b hb hlt).1
  refine ⟨h.st.size.trans hN.symm,⟨⟨fun _=>h.defs,fun e=>by rw [hfr] at e;cases e⟩,by rw [hh];exact fun q hq=>by cases hq⟩,fun i=>A.kept hk (h.st.tms i),fun p hp=>Ob.kept hk (fun _ _=>rfl) (h.st.obs p hp),h.st.nd,h.st.fresh,h.st.names,hnx,h.st.sep,fun p hp b e=>⟨(h.st.low p hp b e).1,h.ownl p hp b e⟩,h.keep,hdj,h.pin,hgl,hbg⟩
theorem LS.next {sj : Bool × ι} {okU : Oks} {tm3 : Tm} {W3 : World} {ρ4 : Nat → Option Value} {a3 : Act} {q : Loop} {ok1 : Oks} (h : LS cx a tm1 m l D I rec Xc N si ok own W ρ) (hok1 : ∀ k b,ok k b → okU k b) (hokU : ∀ k b,okU k b → ok k b ∨ ok1 k b) (hU1 : ∀ k b,ok1 k b → UOk cx k b)
    (hdj : ∀ i b,i < cx.nx0 → blk (cx.nm i) = some b → ∀ k,¬ cx.ok0 k b) (hbgs : BagOk cx) (hn1 : cx.nx0 ≤ m) (hde : denseO (I si.2) m = true) (hcalm : drpTm (downN m) tm1 = tm1)
    (hs4 : StOk ⟨okU,keyed (I si.2) ρ,W.putObj l (.loop q),N,m,[(l,.loop q)],false⟩ tm3 (I sj.2) m ρ4 a3 W3) :
    ∃ ok2 own2,LS cx a tm1 m l D I rec Xc N sj ok2 own2 (W3.putObj l (.loop (if sj.1 then rec .done (some (Xc sj.2)) else rec .ready none))) ρ4 ∧
      (∀ b,own2 b → own b ∨ W.heap.size ≤ b) ∧ (∀ k b,ok2 k b → ok k b ∨ ok1 k b ∨ (k ≠ 7 ∧ (own b ∨ W.heap.size ≤ b))):=by
  obtain ⟨X,hX⟩ : ∃ X,Obj.loop (if sj.1 then rec .done (some (Xc sj.2)) else rec .ready none) = X:=⟨_,rfl⟩;rw [hX];have hXn : Obj.noCells X:=by rw [← hX];exact noC_loop
  have hl3 : W3.heap[l]? = some (.loop q):=(hs4.defers.2 (l,.loop q) (by simp)).1;have hl3n : ¬ CellB W3 l:=CellB.not hl3 noC_loop;have hsz : (W.putObj l (.loop q)).heap.size = W.heap.size:=World.putObj_size;have hlW : l < W.heap.size:=(Array.getElem?_eq_some_iff.1 h.loop).1;have hlW3 : l < W3.heap.size:=(Array.getElem?_eq_some_iff.1 hl3).1;have hgr : W.heap.size ≤ W3.heap.size:=by rw [← hsz];exact hs4.keep.size
  have hsame : ∀ b,b < W.heap.size → b ≠ l → ¬ OwnB (I si.2) ρ b → W3.heap[b]? = W.heap[b]?:=fun b hb hbl ho=>by
    rw [hs4.keep.block b (by show b < (W.putObj l (.loop q)).heap.size;rw [hsz];exact hb) (fun ⟨i,_,e⟩=>ho (keyed_blk e)) (fun hg=>noflag (cx:=⟨okU,keyed (I si.2) ρ,W.putObj l (.loop q),N,m,[(l,.loop q)],false⟩) (keyed_none h.st.fresh) hg.1)];exact World.putObj_heap_other hbl
  have hown4 : ∀ b,OwnB (I sj.2) ρ4 b → W.heap.size ≤ b ∨ OwnB (I si.2) ρ b:=by
    rintro b ⟨p,hp,e⟩
    rcases (hs4.low p hp b e).2 with h1|⟨_,_,h1⟩
    · left;rw [← hsz];exact h1
    · exact .inr (keyed_blk h1)
  have hown4l : ∀ b,OwnB (I sj.2) ρ4 b → b ≠ l:=fun b ⟨p,hp,e⟩ e'=>by
    subst e';exact hl3n (Ob.cells (hs4.obs p hp) e)
  have hUo : ∀ k b,k ≠ 7 → OwnB (I si.2) ρ b → UOk cx k b:=fun k b h7 ⟨p,hp,e⟩=>by
    rcases h.ownl p hp b e with h1|h1
    · exact .inr (.inl ⟨h1,h7⟩)
    · exact .inr (.inr ⟨h7,h1⟩)
  have hW0 : cx.w0.heap.size ≤ W.heap.size:=h.keep.size
  let okN : Oks:=fun k b=>okOf ⟨okU,keyed (I si.2) ρ,W.putObj l (.loop q),N,m,[(l,.loop q)],false⟩ ρ4 (I sj.2) k b ∧ b < W3.heap.size ∧ CellB W3 b
  have hokN : ∀ k b,okN k b → ok k b ∨ ok1 k b ∨ (k ≠ 7 ∧ (OwnB (I si.2) ρ b ∨ W.heap.size ≤ b)):=by
    rintro k b ⟨⟨h1|h1|⟨h7,i,_,h1⟩,_⟩,_,_⟩
    · exact (hokU k b h1).imp id .inl
    · exact .inr (.inr ⟨h1.2,.inr (by rw [← hsz];exact h1.1)⟩)
    · exact .inr (.inr ⟨h7,.inl (keyed_blk h1)⟩)
  have hst1 : StOk (anew okN (I sj.2) ρ4 W3 N m []) tm3 (I sj.2) m ρ4 a3 W3:=hs4.anew (fun k b hb hc=>⟨hb,(by obtain ⟨_,e,_⟩:=hc;exact (Array.getElem?_eq_some_iff.1 e).1),hc⟩) (fun k b hb ⟨p,hp,e⟩=>hb.1.2 p hp e) (hs4.defers.1.2 rfl) (fun q hq=>by cases hq);have hst2 : StOk (anew okN (I sj.2) ρ4 (W3.putObj l X) N m []) tm3 (I sj.2) m ρ4 a3 (W3.putObj l X):=hst1.other (grows_put _ _ _) (fun b _ ho=>World.putObj_heap_other (fun e=>by
    subst e;rcases ho with ⟨k,ho⟩|ho
    · exact hl3n ho.2.2
    · exact hown4l _ ho rfl)) (fun q hq=>by cases hq)
  have hkeyed : ∀ i,i < m → keyed (I si.2) ρ i = ρ i:=fun i hi=>by
    obtain ⟨o,ho⟩:=denseO_get hde hi;unfold keyed;rw [ho]
  have hdrp : Drp (downN m) (okc (okOf (anew ok (I si.2) ρ W N m []) ρ (I si.2)) W) (okOf (anew okN (I sj.2) ρ4 (W3.putObj l X) N m []) ρ4 (I sj.2)) ρ ρ4 W (W3.putObj l X):=by
    refine ⟨fun i p e=>?_,fun i v hb e=>?_,fun kc b hb hlt=>?_⟩
    · have hi : i < m:=Nat.lt_of_not_ge fun h'=>by rw [h.st.names i h'] at e;cases e
      have hnm : keyed (I si.2) ρ i = some (.pointer p):=(hkeyed i hi).trans e;exact (hs4.pin i hi p hnm).trans hnm
    · exfalso
      have hi : i < m:=Nat.lt_of_not_ge fun h'=>by rw [h.st.names i h'] at e;cases e
      rw [memN_down hi] at hb;cases hb
    · have hokb : ok kc b:=(ok_anew kc b hb.1 hlt).1;have hbl : b ≠ l:=(h.okl kc b hokb).2;have hno : ¬ OwnB (I si.2) ρ b:=fun ⟨p,hp,e⟩=>hb.1.2 p hp e
      have hno4 : ¬ OwnB (I sj.2) ρ4 b:=fun ho=>by
        rcases hown4 b ho with h1|h1
        · omega
        · exact hno h1
      have hsb:=hsame b hlt hbl hno;refine ⟨⟨.inl ⟨⟨.inl (hok1 kc b hokb),fun p hp e=>hno4 ⟨p,hp,e⟩⟩,Nat.lt_of_lt_of_le hlt hgr,?_⟩,fun p hp e=>hno4 ⟨p,hp,e⟩⟩,?_⟩
      · obtain ⟨o',e,hno'⟩:=hb.2;exact ⟨o',hsb.trans e,hno'⟩
      · rw [World.putObj_heap_other hbl];exact hsb
  have hst : StOk (anew okN (I sj.2) ρ4 (W3.putObj l X) N m []) tm1 (I sj.2) m ρ4 ⟨a.tmps,[]⟩ (W3.putObj l X):=by
    have:=hst2.anyD (tm':=tm1) (a':=⟨a.tmps,[]⟩) h.st.size ⟨⟨(fun e=>by cases e),fun _=>rfl⟩,fun q hq=>by cases hq⟩ (fun i=>?_)
    · exact this
    · have h1:=A.drp_rep hdrp (A.cells (h.st.tms i));rw [← get_drp,hcalm] at h1;exact h1
  have hmark : ∀ b,MarkB ({ target:=.collected D,args:=#[] } :: a.defers) b → (W3.putObj l X).heap[b]? = W.heap[b]?:=fun b hb=>by
    have h1:=(h.defs.mark b hb).1;have hbl : b ≠ l:=fun e=>by
      rw [e,h.loop] at h1;cases h1
    rw [World.putObj_heap_other hbl];refine hsame b (Array.getElem?_eq_some_iff.1 h1).1 hbl fun ⟨p,hp,e⟩=>?_
    exact CellB.not h1 noC_def (Ob.cells (h.st.obs p hp) e)
  refine ⟨okN,fun b=>OwnB (I sj.2) ρ4 b ∨ b = l ∨ b = D ∨ MarkB a.defers b,⟨hst,fun b=>Iff.rfl,?_,h.defs.same hmark,?_,h.low,fun k b hb=>?_,fun k b hb=>⟨by rw [World.putObj_size];exact hb.2.1,fun e=>hl3n (e ▸ hb.2.2)⟩,?_,?_⟩,?_,fun k b hb=>?_⟩
  · rw [hX];exact World.putObj_heap_same hlW3
  · have hk:=hs4.keep;refine ⟨hk.os.trans h.keep.os,hk.tape.trans h.keep.tape,hk.output.trans h.keep.output,by rw [World.putObj_size];exact Nat.le_trans hW0 hgr,fun b hb ho hbg=>?_,fun b hbg=>?_⟩
    rotate_left
    · have hb:=(hbgs b hbg).1;have hbl : b ≠ l:=by have:=h.low;omega
      refine (h.keep.shape b hbg).trans (.rfl' ?_);rw [World.putObj_heap_other hbl];refine hsame b (Nat.lt_of_lt_of_le hb hW0) hbl fun ⟨p,hp,e⟩=>?_
      rcases h.ownl p hp b e with h1|⟨i,hi,h1⟩
      · omega
      · exact hdj i b hi h1 7 hbg.2
    have hbl : b ≠ l:=by have:=h.low;omega
    rw [World.putObj_heap_other hbl,hsame b (Nat.lt_of_lt_of_le hb hW0) hbl ?_]
    · exact h.keep.block b hb ho hbg
    · rintro ⟨p,hp,e⟩
      rcases h.ownl p hp b e with h1|h1
      · omega
      · exact ho h1
  · rcases hokN k b hb with h1|h1|⟨h7,h1|h1⟩
    · exact h.okU k b h1
    · exact hU1 k b h1
    · exact hUo k b h7 h1
    · exact .inr (.inl ⟨Nat.le_trans hW0 h1,h7⟩)
  · intro p hp b e;rcases (hs4.low p hp b e).2 with h1|⟨i,h0,h1⟩
    · left
      have : (W.putObj l (.loop q)).heap.size ≤ b:=h1;rw [hsz] at this;omega
    · have hnm : blk (keyed (I si.2) ρ i) = some b:=h1;cases e2 : keyed (I si.2) ρ i with
      | none=>rw [e2] at hnm;cases hnm
      | some v =>
        obtain ⟨e3,o,e4⟩:=keyed_some e2;rw [e2] at hnm;exact h.ownl (i,o) e4 b (by rw [e3];exact hnm)
  · intro i hi p e;have h1:=(h.pin i hi p e).trans e;have him : i < m:=Nat.lt_of_lt_of_le hi hn1;have hnm : keyed (I si.2) ρ i = some (.pointer p):=(hkeyed i him).trans h1;exact ((hs4.pin i him p hnm).trans hnm).trans e.symm
  · rintro b (h1|rfl|rfl|h1)
    · rcases hown4 b h1 with h2|h2
      · exact .inr h2
      · exact .inl ((h.own b).2 (.inl h2))
    · exact .inl ((h.own _).2 (.inr (.inl rfl)))
    · exact .inl ((h.own _).2 (.inr (.inr (.inl rfl))))
    · exact .inl ((h.own b).2 (.inr (.inr (.inr h1))))
  · rcases hokN k b hb with h1|h1|⟨h7,h1|h1⟩
    · exact .inl h1
    · exact .inr (.inl h1)
    · exact .inr (.inr ⟨h7,.inl ((h.own b).2 (.inl h1))⟩)
    · exact .inr (.inr ⟨h7,.inr h1⟩)
theorem run_func {f : FuncId} {args : Array Value} {w : World} (h : FnOk P f) : (callFunc f args).run P w = .ok (.enter f args) w:=by
  obtain ⟨fn,hfn,hb,hn⟩:=h;have hb' : fn.body.isNone = false:=by cases h : fn.body <;> simp [h] at hb ⊢
  simp only [callFunc,Sem.run_bind,run_program,Result.andThen_ok,hfn,hn,hb',Bool.false_eq_true,if_false,Sem.run_pure]
theorem acode_range {g : Operand} {ps : List Nat} {assign body : Code} {f : FuncId} {caps : List A} {xs : List (List A)} {ι : Type} (tm1 : Tm) (m : Nat) (Pr : Bool → Nat → ι → Prop) (I : ι → Obs) (Xc : ι → Code) (i0 : ι)
    (hg : tgt (look tm1 g) = some (f,caps)) (hcl : kB caps = true) (hit : AIter P f caps xs) (hle : Le nx0 tm ob nx tm1 (I i0) m) (hp0 : Pr false 0 i0) (hps : ∀ (k : Nat) (hk : k < xs.length),(xs[k]).length = ps.length) (hpN : ps.all (fun p=>decide (p < N)) = true)
    (hra : rngs assign = false) (hrb : rngs body = false) (hI : ∀ k i,Pr false k i → denseO (I i) m = true) (hcalm : drpTm (downN m) tm1 = tm1)
    (round : ∀ (k : Nat) (i : ι) (hk : k < xs.length),Pr false k i → yS P te N m assign (appT ps xs[k] tm1) (I i) m (asnQ fun tm2 ob2 nx2=>yS P te N m body tm2 ob2 nx2 (rndQ Pr I Xc m k)))
    (done : ∀ i,Pr false xs.length i → Q .normal tm1 (I i) m) (stop : ∀ k i,Pr true k i → yS P te N nx0 (Xc i) tm1 (I i) m Q) (hm : Nat.ble 1000000 m = false:=by rfl) : yS P te N nx0 (.rangeFunc g ps.toArray assign body) tm ob nx Q:=by
  unfold yS;intro hte rd n cx hnr e1 e2 ρ a w hs;obtain ⟨rfl,hfr,hh⟩ : rd = none ∧ cx.fr = true ∧ cx.hids = []:=by
    rcases hnr.2 with h|h
    · exact h
    · cases h
  obtain ⟨ρ1,hs1⟩:=hle.st cx e2 ρ a w hs;refine wpIn_rangeFunc ?_;intro fn _;obtain ⟨rec,hrec⟩ : ∃ rec : LoopState → Option Code → Loop,rec = fun st pe=>{ state:=st,pending:=pe,fn,tmps:=a.tmps,params:=ps.toArray,assign,body,defers:=w.heap.size }:=⟨_,rfl⟩
  obtain ⟨W1,hW1⟩ : ∃ W1,(w.alloc (.deferred (some []))).alloc (.loop (rec .ready none)) = W1:=⟨_,rfl⟩;have hL1 : W1.heap[w.heap.size + 1]? = some (.loop (rec .ready none)):=by
    rw [← hW1];have:=World.alloc_heap_new (w.alloc (.deferred (some []))) (.loop (rec .ready none));rwa [World.size_alloc] at this
  have hK1 : W1.heap[w.heap.size]? = some (.deferred (some [])):=by
    rw [← hW1];exact (Below.heap_alloc _ _ _ (by simp)).trans (World.alloc_heap_new w _)
  have hsz1 : W1.heap.size = w.heap.size + 2:=by rw [← hW1];simp
  have hb1 : Below w.heap.size w W1:=by
    rw [← hW1];exact ((Below.refl _ w).alloc (Nat.le_refl _) _).alloc (by simp) _
  have hs2:=hs1.below hb1;have hcell1 : ∀ b,CellB W1 b → b < w.heap.size:=fun b ⟨o',e,hno'⟩=>by
    have h1:=(Array.getElem?_eq_some_iff.1 e).1;rcases Nat.lt_or_ge b w.heap.size with h2|h2
    · exact h2
    · exfalso
      rcases Nat.eq_or_lt_of_le h2 with h3|h3
      · rw [← h3,hK1] at e;cases e;exact hno' noC_def
      · obtain rfl : b = w.heap.size + 1:=by omega
        rw [hL1] at e;cases e;exact hno' noC_loop
  let okS : Oks:=fun k b=>okOf cx ρ1 (I i0) k b ∧ CellB W1 b
  have hs3 : StOk cx tm1 (I i0) m ρ1 ⟨a.tmps,[]⟩ W1:=by
    have:=hs2.anyD (tm':=tm1) (a':=⟨a.tmps,[]⟩) hs2.size ⟨⟨fun _=>trivial,fun _=>rfl⟩,hs2.defers.2⟩ hs2.tms;exact this
  have hsJ : StOk (anew okS (I i0) ρ1 W1 N m []) tm1 (I i0) m ρ1 ⟨a.tmps,[]⟩ W1:=by
    have:=hs3.anew (ok:=okS) (hids:=[]) (fun k b hb hc=>⟨hb,hc⟩) (fun k b hb ⟨p,hp,e⟩=>hb.1.2 p hp e) rfl (fun q hq=>by cases hq);rw [e1] at this;exact this
  have hdefs : Defs cx.mark a.defers W1:=hs2.defers.1.1 hfr;have hmark0 : ∀ b,MarkB a.defers b → b < w.heap.size:=fun b hb=>(Array.getElem?_eq_some_iff.1 ((hs1.defers.1.1 hfr).mark b hb).1).1
  have L0 : LS cx a tm1 m (w.heap.size + 1) w.heap.size I rec Xc N (false,i0) okS (fun b=>OwnB (I i0) ρ1 b ∨ b = w.heap.size + 1 ∨ b = w.heap.size ∨ MarkB a.defers b) W1 ρ1:=by
    refine ⟨hsJ,fun b=>Iff.rfl,hL1,⟨⟨w.heap.size,rfl,.inl hs1.keep.size,hK1,fun e he h=>?_⟩,hdefs⟩,hs2.keep,Nat.le_succ_of_le hs1.keep.size,fun k b hb=>hb.1.1,fun k b hb=>⟨by have:=hcell1 b hb.2;omega,by have:=hcell1 b hb.2;omega⟩,fun p hp b e=>(hs2.low p hp b e).2,hs2.pin⟩;subst h;have:=hmark0 w.heap.size he;omega
  obtain ⟨cs,hgv,hcs⟩:=tgt_rep hg (hsJ.look g);have hgv : a.eval g = .func (.func f) #[] cs.toArray:=by
    rw [← hgv];cases g <;> rfl
  have hcs' : xU okS xB W1 caps cs:=closedAs_rep hcl (hcs.kept ok_anew);have hU : ∀ k b,k ≠ 7 → W1.heap.size ≤ b → UOk cx k b:=fun k b h7 hb=>.inr (.inl ⟨Nat.le_trans (Nat.le_trans hs1.keep.size hb1.size) hb,h7⟩)
  have hyl : Yields P (w.heap.size + 1) xs (fun st k (si : Bool × ι)=>si.1 = st ∧ Pr st k si.2) (fun (si : Bool × ι) ok own W=>∃ ρ,LS cx a tm1 m (w.heap.size + 1) w.heap.size I rec Xc N si ok own W ρ) (fun k b=>UOk cx k b) W1.heap.size:=by
    rintro k ⟨s,i⟩ ok ok' own' W vs n' hk ⟨rfl,hp⟩ ⟨ρ',L⟩ h2 hu hn hvs
    have hl : W.heap[w.heap.size + 1]? = some (.loop (rec .ready none)):=L.loop;have hvl:=xU.len hvs;have hy:=run_yield (P:=P) (args:=vs.toArray) hl (by rw [hrec];simp [hvl,hps k hk]);rw [hrec] at hy;refine ⟨fn,_,assign,body,hy,roundIn_of_wpIn trivial ?_⟩;clear hy;have hokown : ∀ k b,ok' k b ∨ ok k b → ¬ OwnB (I i) ρ' b:=by
      rintro k b (h|h) ho
      · exact anew_disj L.st h ho
      · exact h2.ij k b h ((L.own b).2 (.inl ho))
    have hsU:=L.st.more (ok':=fun k b=>ok' k b ∨ ok k b) (hids':=[(w.heap.size + 1,.loop (rec .ready none))]) (fun k b h=>.inl h) hokown (fun q hq=>by
      rw [List.mem_singleton.1 hq];exact ⟨hl,noC_loop⟩)
    have hvs2 : xU (okOf (anew (fun k b=>ok' k b ∨ ok k b) (I i) ρ' W N m [(w.heap.size + 1,.loop (rec .ready none))]) ρ' (I i)) ρ' W xs[k] vs:=by
      have hk2 : xK ok (okOf (anew (fun k b=>ok' k b ∨ ok k b) (I i) ρ' W N m [(w.heap.size + 1,.loop (rec .ready none))]) ρ' (I i)) W W:=fun _ b hb _=>⟨⟨.inl (.inr hb),fun p hp e=>hokown _ b (.inr hb) ⟨p,hp,e⟩⟩,rfl⟩
      have h3:=xU.kept hk2 hvs;clear hk2 hvl hvs
      revert h3
      generalize xs[k] = as
      intro h3
      induction as generalizing vs with
      | nil=>exact h3
      | cons x as ih =>
        obtain ⟨v,r,rfl,h4,h5⟩:=h3;exact ⟨v,r,rfl,A.names noNames_names h4,ih r h5⟩
    have hsA:=appT_st (ps:=ps) hsU rfl hpN hvs2;have hr:=round k i hk hp;unfold yS at hr;have hrun:=hr hte (some (w.heap.size + 1)) n' _ (noR_low hm hra) rfl rfl ρ' _ W hsA;have hzip : (ps.toArray.zip vs.toArray).foldl (fun (tmps : Array Value) (x : Nat × Value)=>tmps.setIfInBounds x.1 x.2) a.tmps = (ps.zip vs).foldl (fun t (p,v)=>t.setIfInBounds p v) a.tmps:=by
      rw [← Array.foldl_toList];simp
    refine Code.wpIn_mono ?_ (show assign.wpIn ((FR none).inRound (w.heap.size + 1)) n' P _ { tmps:=(ps.toArray.zip vs.toArray).foldl (fun (tmps : Array Value) (x : Nat × Value)=>tmps.setIfInBounds x.1 x.2) a.tmps,defers:=[] } W by rw [hzip];exact hrun)
    rintro e a2 W2 ⟨tm2,ob2,nx2,ρ2,hq,hs4⟩
    cases e <;> simp only [asnQ,Exit.then] at hq ⊢
    have hl2 : W2.heap[w.heap.size + 1]? = some (.loop (rec .ready none)):=(hs4.defers.2 (w.heap.size + 1,.loop (rec .ready none)) (by simp)).1;have hlW2 : w.heap.size + 1 < W2.heap.size:=(Array.getElem?_eq_some_iff.1 hl2).1;refine ⟨_,run_beginRound hl2 (by rw [hrec]),?_⟩;obtain ⟨busy,hbusy⟩ : ∃ q : Loop,q = { rec .ready none with state:=.busy }:=⟨_,rfl⟩;rw [← hbusy];have hs5:=hs4.reput (h2:=[(w.heap.size + 1,.loop busy)]) (o:=.loop busy) hl noC_loop hl2 (fun q hq=>by
      rw [List.mem_singleton.1 hq];exact ⟨World.putObj_heap_same hlW2,noC_loop⟩)
    refine Code.wpIn_mono ?_ (hq hte (some (w.heap.size + 1)) n' _ (noR_low hm hrb) rfl rfl ρ2 a2 _ hs5);have fin : ∀ (s : Bool) (j : ι) (tm3 : Tm) (ob3 : Obs) (nx3 : Nat) (ρ3 : Nat → Option Value) (a3 : Act) (W3 : World) (jump : Option Code),Le m tm3 ob3 nx3 [] (I j) m → jump = (if s then some (Xc j) else none) → Pr s (k + 1) j →
        StOk ⟨fun k b=>ok' k b ∨ ok k b,keyed (I i) ρ',W.putObj (w.heap.size + 1) (.loop busy),N,m,[(w.heap.size + 1,.loop busy)],false⟩ tm3 ob3 nx3 ρ3 a3 W3 →
        ∃ v w',(Instr.endRound (w.heap.size + 1) jump).run P W3 = .ok v w' ∧ Grows W w' ∧ (∀ b,b < W.heap.size → ¬ own' b → w'.heap[b]? = W.heap[b]?) ∧ ∃ (st : Bool) (j : Bool × ι) (ok2 : Oks) (own2 : Nat → Prop),Ending.returned v = .returned (.bool (!st)) ∧ (j.1 = st ∧ Pr st (k + 1) j.2) ∧ (∃ ρ,LS cx a tm1 m (w.heap.size + 1) w.heap.size I rec Xc N j ok2 own2 w' ρ) ∧
          (∀ b,own2 b → own' b ∨ W.heap.size ≤ b) ∧ (∀ k b,ok2 k b → ok' k b ∨ ok k b ∨ (k ≠ 7 ∧ (own' b ∨ W.heap.size ≤ b))) ∧ (∀ k b,ok2 k b → b < w'.heap.size) ∧ ∀ b,own2 b → b < w'.heap.size:=by
      intro s j tm3 ob3 nx3 ρ3 a3 W3 jump hle hj hpj hs6;obtain ⟨ρ4,hs7⟩:=hle.st _ rfl ρ3 a3 W3 hs6;obtain ⟨ok2,own2,LN,hsub,hoks⟩:=L.next (sj:=(s,j)) (ok1:=ok) (fun k b h=>.inl h) (fun k b h=>h) hu hs1.disj hs1.bags hs1.nx0 (hI k i hp) hcalm hs7;have hl3 : W3.heap[w.heap.size + 1]? = some (.loop busy):=(hs7.defers.2 (w.heap.size + 1,.loop busy) (by simp)).1;have hend:=run_endRound (P:=P) jump hl3;have hrec2 : Obj.loop { busy with state:=if jump.isNone then .ready else .done,pending:=jump } = .loop (if s then rec .done (some (Xc j)) else rec .ready none):=by
        rw [hbusy,hj,hrec];cases s <;> rfl
      rw [hrec2] at hend;refine ⟨_,_,hend,?_,fun b hb ho=>?_,s,(s,j),ok2,own2,?_,⟨rfl,hpj⟩,⟨ρ4,LN⟩,hsub,hoks,fun k b hb=>(LN.okl k b hb).1,fun b hb=>LN.lt hb⟩
      · exact (grows_put W _ _).trans (hs7.keep.grows.trans (grows_put W3 _ _))
      · have hbl : b ≠ w.heap.size + 1:=fun e=>ho ((L.own b).2 (.inr (.inl e)))
        rw [World.putObj_heap_other hbl,hs7.keep.block b (by show b < (W.putObj _ _).heap.size;rw [World.putObj_size];exact hb) (fun ⟨q,_,e⟩=>ho ((L.own b).2 (.inl (keyed_blk e)))) (fun hg=>noflag (cx:=⟨fun k b=>ok' k b ∨ ok k b,keyed (I i) ρ',W.putObj (w.heap.size + 1) (.loop busy),N,m,[(w.heap.size + 1,.loop busy)],false⟩) (keyed_none L.st.fresh) hg.1)];exact World.putObj_heap_other hbl
      · rw [hj];cases s <;> rfl
    rintro e a3 W3 ⟨tm3,ob3,nx3,ρ3,hq3,hs6⟩
    cases e <;> simp only [rndQ,roundPost] at hq3 ⊢
    · obtain ⟨j,hpj,hle⟩:=hq3;exact fin false j tm3 ob3 nx3 ρ3 a3 W3 none hle rfl hpj hs6
    · obtain ⟨j,hpj,hx,hle⟩:=hq3;exact fin true j tm3 ob3 nx3 ρ3 a3 W3 _ hle (by rw [hx];rfl) hpj hs6
    · obtain ⟨j,hpj,hx,hle⟩:=hq3;exact fin true j tm3 ob3 nx3 ρ3 a3 W3 _ hle (by rw [hx];rfl) hpj hs6
  have htwo : Two okS (fun _=>False) okS (fun b=>OwnB (I i0) ρ1 b ∨ b = w.heap.size + 1 ∨ b = w.heap.size ∨ MarkB a.defers b) W1:=by
    refine ⟨fun k b h=>(L0.okl k b h).1,fun _ h=>h.elim,fun k b h=>(L0.okl k b h).1,fun b h=>L0.lt h,fun k b h h'=>?_,fun _ _ _ h=>h,fun _ h=>h.elim⟩;have hb:=hcell1 b h.2;rcases h' with ⟨p,hp,e⟩|rfl|rfl|h1
    · exact h.1.2 p hp e
    · omega
    · omega
    · exact CellB.not (hdefs.mark b h1).1 noC_def h.2
  refine ⟨w.heap.size + 1,[{ target:=.collected w.heap.size,args:=#[] }],W1,{ target:=.fn (.func f) cs.toArray,args:=#[.func (.yield (w.heap.size + 1)) #[] #[]] },W1,f,
    #[.func (.yield (w.heap.size + 1)) #[] #[]] ++ cs.toArray,W1,?_,?_,fun _ _=>trivial,?_,fr_depth,?_⟩
  · rw [← hW1,hrec];exact run_enterLoop_outer _ _ _ _ _
  · simp only [resolve,hgv];simp [go_sem]
  · simp [invoke,go_sem,run_func hit.1]
  · have hcall:=hit.2 (w.heap.size + 1) (Bool × ι) _ _ _ W1.heap.size hU (LS.abides W1.heap.size (Nat.le_trans hs1.keep.size hb1.size) fun b hb=>(hs1.bags b hb).1) hyl (false,i0) okS okS _ W1 cs ⟨rfl,hp0⟩ ⟨ρ1,L0⟩ hsJ.glob htwo (fun k b h=>L0.okU k b h) rfl hcs';rw [show (#[.func (.yield (w.heap.size + 1)) #[] #[]] ++ cs.toArray : Array Value) = (.func (.yield (w.heap.size + 1)) #[] #[] :: cs).toArray by simp];refine calls_fr (hcall.mono ?_)
    rintro e W3 ⟨⟨v,rfl⟩,st,k,⟨s,j⟩,ok2,own2,hst,⟨rfl,hpj⟩,ρ3,LN⟩
    have hback:=LN.back hfr hh e1 hs1.nx0 hs1.disj hs1.glob hs1.bags;have hl3:=LN.loop;have hl3n : ¬ CellB W3 (w.heap.size + 1):=CellB.not hl3 noC_loop;have hpoke : ∀ o,StOk cx tm1 (I j) m ρ3 ⟨a.tmps,{ target:=.collected w.heap.size,args:=#[] } :: a.defers⟩ (W3.putObj (w.heap.size + 1) o):=fun o =>
      hback.poke hl3n LN.low (hback.defers.kept' hl3 o)
    cases s with
    | false =>
      have:=run_endLoop (P:=P) hl3 (by rw [hrec];simp);refine ⟨_,_,this,?_⟩;rw [hrec];exact ⟨tm1,I j,m,ρ3,done j (hst rfl ▸ hpj),hpoke _⟩
    | true =>
      have:=run_endLoop (P:=P) hl3 (by rw [hrec];simp);refine ⟨_,_,this,?_⟩;rw [hrec];have hstop:=stop k j hpj;unfold yS at hstop;exact hstop hte none n cx ⟨hnr.1,.inl ⟨rfl,hfr,hh⟩⟩ e1 e2 ρ3 _ _ (hpoke _)
end
end Ab
end Go.Proofs.YtojipboabgebfaaGreatDoor
namespace Go.Proofs.YtojipboabgebfaaGreatDoor
open Go.RowKit
namespace Ab
namespace Q
def ixOf {α : Type} (p : α → Bool) (l : List α) : Int:=if l.any p then (l.findIdx p : Int) else -1
theorem ixOf_none {α : Type} {p : α → Bool} {l : List α} (h : l.any p = false) : ixOf p l = -1:=by
  unfold ixOf;rw [h];rfl
theorem ixOf_at {α : Type} {p : α → Bool} {l : List α} {i : Nat} (d : α) (hi : i < l.length) (h : (l.take i).any p = false) (hp : p (l.getD i d) = true) : ixOf p l = i:=by
  unfold ixOf;rw [any_at d hi hp,if_pos rfl]
  congr 1
  rw [List.getD_eq_getElem?_getD,List.getElem?_eq_getElem hi] at hp;refine (List.findIdx_eq hi).2 ⟨hp,fun j hj=>?_⟩;have:=List.any_eq_false.1 h (l[j]) (by rw [List.mem_take_iff_getElem];exact ⟨j,by omega,rfl⟩)
  simpa using this
theorem ixOf_cases {α : Type} (p : α → Bool) (l : List α) (d : α) : (ixOf p l = -1 ∧ l.any p = false) ∨ ∃ i : Nat,i < l.length ∧ ixOf p l = i ∧ (l.take i).any p = false ∧ p (l.getD i d) = true:=by
  cases h : l.any p with
  | false=>exact .inl ⟨ixOf_none h,rfl⟩
  | true =>
    right
    have hex : ∃ x ∈ l,p x = true:=by simpa using h
    obtain ⟨x,hx,hpx⟩:=hex;have hlt : l.findIdx p < l.length:=List.findIdx_lt_length_of_exists ⟨x,hx,hpx⟩;refine ⟨l.findIdx p,hlt,by unfold ixOf;rw [if_pos h],?_,?_⟩
    · simp only [List.any_eq_false];intro y hy;obtain ⟨j,hj,rfl⟩:=List.getElem_of_mem hy;rw [List.length_take] at hj;rw [List.getElem_take];have:=List.not_of_lt_findIdx (p:=p) (xs:=l) (i:=j) (by omega)
      simpa using this
    · rw [List.getD_eq_getElem?_getD,List.getElem?_eq_getElem hlt];exact List.findIdx_getElem
end Q
end Ab
end Go.Proofs.YtojipboabgebfaaGreatDoor
namespace Go.Proofs.YtojipboabgebfaaGreatDoor
open Go.RowKit
namespace Ab
section
variable {P : Program} {te : List (TypeId × TyI)} {N nx0 : Nat} {tm : Tm} {ob : Obs} {nx : Nat} {Q : AQ}
theorem acode_isnil {q : Nat} {id : Nat} {ops : Array Oper} (pre : List Oper) (o : Oper) {x : Operand} {t e ty : TypeId} {d : Nat} {α : Type} {R : Rd α} {xs : List α} (hops : ops.toList = pre ++ [o]) (hop : o.op = .binOp .eql t x (.const (.slice none 0 0)) ty) (hd : o.dst = some d) (hg : o.guard = none)
    (hu : P.underlying t = some (.slice e)) (hN : Nat.ble (d + 1) N = true)
    (h : awp P te N nx0 ops.toList pre tm ob nx fun tm1 ob1 nx1=>look tm1 x = .one (.slk q R xs) ∧ ∀ b,(b = true → xs = []) → Q .normal ((d,ib b) :: tm1) ob1 nx1) : yS P te N nx0 (.region id ops false) tm ob nx Q:=by
  unfold yS;intro hte rd n cx hnr e1 e2 ρ a w hs;subst e1 e2;refine wpIn_region_list ?_;rw [hops];refine awp_rest hte ops [o] pre h hs ?_
  rintro tm1 ob1 nx1 ρ1 a1 w1 ⟨hx,hq⟩ hs1
  have hv:=hs1.look x;rw [hx] at hv;obtain ⟨ad,cap,hv,h1,h2,hc⟩:=hv;have hrun : (execOp a1.eval o).run P w1 = .ok (.value (.bool ad.isNone)) w1:=by
    unfold execOp;rw [hop];have hc2 : a1.eval (.const (.slice none 0 0)) = .slice none 0 0:=rfl;simp only [hv,hc2];have hq2:=run_eql_slice_nil (P:=P) w1 t e ad xs.length cap hu;have hg2 : (eqGuard .eql t x (.const (.slice none 0 0)) (.slice ad xs.length cap) (.slice none 0 0)).run P w1 = .ok () w1:=rfl;simp only [Sem.run_bind,hg2,Result.andThen_ok,hq2,Sem.run_pure]
  refine wpListIn_of hg (fun c e=>by rw [hop] at e;cases e) (wp_value hrun ?_);have hb : ad.isNone = true → xs = []:=fun hn=>by
    cases ad with
    | some y=>cases hn
    | none =>
      cases xs with
      | nil=>rfl
      | cons y r =>
        obtain ⟨_,_,_,hne,_⟩:=hc 0 (by simp);cases hne
  have hput : put cx.N (some d) (ib ad.isNone) tm1 (fun tm'=>tm' = (d,ib ad.isNone) :: tm1):=by
    unfold put;simp only;rw [hN];trivial
  obtain ⟨tm',e3,h3⟩:=hs1.put hput (u:=.bool ad.isNone) rfl;subst e3;rw [hd];unfold wpListIn;exact ⟨_,_,_,_,hq _ hb,h3⟩
end
section
variable {P : Program} {te : List (TypeId × TyI)} {N : Nat} {ι : Type} {Pr : Bool → Nat → ι → Prop} {J : ι → Oks → (Nat → Prop) → World → Prop} {U : Oks} {n0 : Nat}
variable {st : Bool} {k : Nat} {tm : Tm} {ob : Obs} {nx : Nat} {Q : YQ}
theorem stok_low0 {ok : Oks} {ob ob' : Obs} {ρ ρ' : Nat → Option Value} {w w' : World} {nx nz nx' : Nat} {hids : List (Nat × Obj)} {tm' : Tm} {a' : Act} (h : StOk (anew ok ob ρ w N nx hids) tm' ob' nx' ρ' a' w') (hz : nz ≤ nx) (hb : ∀ p ∈ ob,p.1 < nz) : StOk (anew ok ob ρ w N nz hids) tm' ob' nx' ρ' a' w':=by
  have hnz : keyed ob ρ nz = none:=keyed_none hb;have hnn : keyed ob ρ nx = none:=keyed_none fun p hp=>Nat.lt_of_lt_of_le (hb p hp) hz
  have hi : ∀ i b,blk (keyed ob ρ i) = some b → i < nz:=fun i b e=>by
    cases e1 : keyed ob ρ i with
    | none=>rw [e1] at e;cases e
    | some v =>
      obtain ⟨_,o,h2⟩:=keyed_some e1;exact hb _ h2
  have ho : okOf (anew ok ob ρ w N nz hids) ρ' ob' = okOf (anew ok ob ρ w N nx hids) ρ' ob':=by
    funext k b
    apply propext
    constructor
    · rintro ⟨h1|h1|⟨h7,i,h1,h2⟩,h3⟩
      · exact ⟨.inl h1,h3⟩
      · exact ⟨.inr (.inl h1),h3⟩
      · exact ⟨.inr (.inr ⟨h7,i,Nat.lt_of_lt_of_le h1 hz,h2⟩),h3⟩
    · rintro ⟨h1|h1|⟨h7,i,h1,h2⟩,h3⟩
      · exact ⟨.inl h1,h3⟩
      · exact ⟨.inr (.inl h1),h3⟩
      · exact ⟨.inr (.inr ⟨h7,i,hi i b h2,h2⟩),h3⟩
  have hex : ∀ b,(∃ i,i < nx ∧ blk (keyed ob ρ i) = some b) → ∃ i,i < nz ∧ blk (keyed ob ρ i) = some b:=fun b ⟨i,_,e⟩=>⟨i,hi i b e,e⟩
  refine ⟨h.size,h.defers,fun i=>by rw [ho];exact h.tms i,fun p hp=>by rw [ho];exact h.obs p hp,h.nd,h.fresh,h.names,Nat.le_trans hz h.nx0,h.sep,fun p hp b e=>⟨(h.low p hp b e).1,(h.low p hp b e).2.imp id (hex b)⟩,⟨h.keep.os,h.keep.tape,h.keep.output,h.keep.size,fun b hb hn _=>h.keep.block b hb (fun hx=>hn (hex b hx)) fun hg=>noflag (cx:=anew ok ob ρ w N nx hids) hnn hg.1,fun b hb=>absurd hb.1 (noflag (cx:=anew ok ob ρ w N nz hids) hnz)⟩,fun i b hi=>h.disj i b (Nat.lt_of_lt_of_le hi hz),fun i hi=>h.pin i (Nat.lt_of_lt_of_le hi hz),h.glob,.none hnz⟩
def lowB (nx nz : Nat) (tm : Tm) (ob : Obs) : Bool:=match bdTm nz tm,bdOb nz ob,ndOb ob,Nat.ble nz nx with
  | true,true,true,true=>true
  | _,_,_,_=>false
theorem le_low {nz : Nat} (hl : lowB nx nz tm ob = true) : Le nz tm ob nx tm ob nz:=by
  unfold lowB at hl;split at hl
  · rename_i b1 b2 b3 b4;refine ⟨fun cx e ρ a w hs=>⟨cut nz ρ,?_⟩⟩;have hlt : ∀ p ∈ ob,p.1 < nz:=fun p hp=>(bdOb_mem b2 hp).1
    have hblk : ∀ p ∈ ob,blk (cut nz ρ p.1) = blk (ρ p.1):=fun p hp=>by rw [cut_lt (hlt p hp)]
    have hk : xK (okOf cx ρ ob) (okOf cx (cut nz ρ) ob) w w:=fun _ b hb _=>⟨⟨hb.1,fun p hp=>by rw [hblk p hp];exact hb.2 p hp⟩,rfl⟩
    refine ⟨hs.size,hs.defers,fun i=>A.cut_rep (bdTm_get i b1) (A.kept hk (hs.tms i)),fun p hp=>?_,ndOb_nd b3,hlt,fun i hi=>if_neg (by omega),by rw [e];exact Nat.le_refl _,?_,?_,hs.keep,hs.disj,fun i hi p e'=>by rw [cut_lt (by rw [← e];exact hi)];exact hs.pin i hi p e',hs.glob,hs.bags⟩
    · exact Ob.cut_is (hlt p hp) (bdOb_mem b2 hp).2 (Ob.kept hk (fun _ _=>rfl) (hs.obs p hp))
    · intro p hp q hq hne b;rw [hblk p hp,hblk q hq];exact hs.sep p hp q hq hne b
    · intro p hp b;rw [hblk p hp];exact hs.low p hp b
  · cases hl
theorem lowB_get {nz : Nat} (hl : lowB nx nz tm ob = true) : nz ≤ nx ∧ ∀ p ∈ ob,p.1 < nz:=by
  unfold lowB at hl;split at hl
  · rename_i b1 b2 b3 b4;exact ⟨Nat.le_of_ble_eq_true b4,fun p hp=>(bdOb_mem b2 hp).1⟩
  · cases hl
theorem ys_low {a : Act} {w : World} {nz : Nat} (hab : Abides n0 J) (hU : ∀ k b,k ≠ 7 → n0 ≤ b → U k b) (hl : lowB nx nz tm ob = true) (h : YS N Pr J U n0 st k tm ob nx a w) : YS N Pr J U n0 st k tm ob nz a w:=by
  obtain ⟨ok,ρ,i,ok',own',hs,h2,hu,hn,hp,hj⟩:=h;obtain ⟨h3,h4⟩:=lowB_get hl;obtain ⟨ρ',hs'⟩:=(le_low hl).st _ rfl ρ a w (stok_low0 hs h3 h4);exact ys_step hab hU h2 hu hn hp hj h4 hs'
theorem acodeY_lowQ {c : Code} (hab : Abides n0 J) (hU : ∀ k b,k ≠ 7 → n0 ≤ b → U k b) (h : ACodeY P te N Pr J U n0 c st k tm ob nx (fun e st1 k1 tm1 ob1 nx1=>∃ nz,(nz = nx1 ∨ lowB nx1 nz tm1 ob1 = true) ∧ Q e st1 k1 tm1 ob1 nz)) : ACodeY P te N Pr J U n0 c st k tm ob nx Q:=by
  intro hte n a w hs;refine Code.wpIn_mono ?_ (h hte n a w hs)
  rintro e a' w' ⟨st1,k1,tm1,ob1,nx1,⟨nz,hl,hq⟩,hs1⟩
  refine ⟨st1,k1,tm1,ob1,nz,hq,?_⟩;rcases hl with hl|hl
  · rw [hl];exact hs1
  · exact ys_low hab hU hl hs1
end
def retOC (te : List (TypeId × TyI)) (K t : Nat) (ty : TypeId) (u : Nat) (r : A) (m : Nat) (ob' : Obs) (m' : Nat) : AQ:=fun e tm ob nx=>match e with
  | .ret=>match cellV te ob ty (get tm t) with
    | some v=>retOK [K,u] r m ob' m' ((K,v) :: tm) ob nx
    | none=>False
  | _=>False
def retOC3 (te : List (TypeId × TyI)) (K p t : Nat) (ty : TypeId) (u : Nat) (r : A) (m : Nat) (ob' : Obs) (m' : Nat) : AQ:=fun e tm ob nx=>match e with
  | .ret=>match cellV te ob ty (get tm t) with
    | some v=>retOK [p,K,u] r m ob' m' ((K,v) :: tm) ob nx
    | none=>False
  | _=>False
def retOC1 (te : List (TypeId × TyI)) (K t : Nat) (ty : TypeId) (r : A) (m : Nat) (ob' : Obs) (m' : Nat) : AQ:=fun e tm ob nx=>match e with
  | .ret=>match cellV te ob ty (get tm t) with
    | some v=>retOK [K] r m ob' m' ((K,v) :: tm) ob nx
    | none=>False
  | _=>False
section
variable {P : Program} {te : List (TypeId × TyI)} {ob : Obs}
theorem results_tmp_cell_tmp {fn : Func} {q p u : Tmp} {ty : TypeId} (h : fn.results = #[.tmp q,.cell p ty,.tmp u]) (tmps : Array Value) (P : Program) (w : World) :
    (results fn tmps).run P w =
      ((asAddr (tmps.getD p undef)).run P w).andThen fun a w₁=>((loadVar ty a).run P w₁).andThen fun v w₂=>.ok (.tuple #[tmps.getD q undef,v,tmps.getD u undef]) w₂:=by
  simp only [results,h];simp [Sem.run_bind,Result.andThen]
theorem acallo_ofc3 {f : FuncId} {fn : Func} {c : Code} {args : List A} {p t u : Nat} {ty : TypeId} {r : A} {m : Nat} {ob' : Obs} {m' : Nat} (hf : P.funcs[f]? = some fn) (hb : fn.body = some c) (hname : (fn.name == "runtime.NumGoroutine") = false)
    (hr : fn.results = #[.tmp p,.cell t ty,.tmp u]) (hte : TEok P te) (hp : Nat.ble (p + 1) fn.ntmps = true) (hu : Nat.ble (u + 1) fn.ntmps = true) (hn : Nat.ble args.length fn.ntmps = true) (h : yS P te fn.ntmps m c (argT 0 args) ob m (retOC3 te fn.ntmps p t ty u r m ob' m')) (hm : Nat.ble 1000000 m = false:=by rfl) : yE P f args ob m r ob' m':=by
  refine ⟨⟨fn,hf,by rw [hb];rfl,hname⟩,fun cx ρ w vs hN hnx hw hs hvs=>callsIn_wide.1 (callsIn_of_wp_marks (F:=FR none) (n:=0) hf hb trivial ?_)⟩;have hlen:=xU.len hvs;have hn:=Nat.le_of_ble_eq_true hn;have hu:=Nat.le_of_ble_eq_true hu;have hp:=Nat.le_of_ble_eq_true hp;have hm : cx.nx0 < 1000000:=by
    rw [hnx];exact Nat.lt_of_not_le fun h=>by rw [Nat.ble_eq_true_of_le h] at hm;cases hm
  let a0 : Act:={ tmps:=vs.toArray ++ Array.replicate (fn.ntmps - vs.toArray.size) undef,defers:=[] }
  have hs0 : StOk { cx with N:=fn.ntmps } (argT 0 args) ob m ρ a0 w:=by
    refine hs.anyN ?_ (DefOk.none hN.2.2) fun i=>?_
    · show (vs.toArray ++ Array.replicate (fn.ntmps - vs.toArray.size) undef).size = fn.ntmps;simp;omega
    · rcases argT_get 0 i hvs with h1|h1
      · have hcell : (vs.toArray ++ Array.replicate (fn.ntmps - vs.toArray.size) undef).getD i undef = if i < 0 then undef else vs.getD (i - 0) undef:=by
          rw [if_neg (Nat.not_lt_zero _),Nat.sub_zero,Array.getD_eq_getD_getElem?,Array.getElem?_append];split
          · simp [List.getD]
          · rename_i hge;rw [Array.getElem?_replicate];simp only [List.size_toArray] at hge ⊢;rw [List.getD,List.getElem?_eq_none (by omega)];split <;> rfl
        show (get (argT 0 args) i).rep _ _ _ ((vs.toArray ++ Array.replicate (fn.ntmps - vs.toArray.size) undef).getD i undef);rw [hcell];exact h1
      · rw [h1];trivial
  unfold yS at h;refine Code.wpIn_mono ?_ (h hte none 0 { cx with N:=fn.ntmps } (noR_free hN.2.1 hN.2.2 (Nat.not_le.2 hm)) rfl hnx ρ a0 w hs0)
  rintro e a' w0' ⟨tm',ob1,nx',ρ',hq,hs0'⟩
  cases e with
  | ret =>
    refine StOk.unwind hs0' hN.2.1 hN.2.2 fun w' hs'=>?_
    simp only [retOC3] at hq;split at hq
    · rename_i v hv;obtain ⟨ad,x,g1,g2,g3⟩:=cell_load hte hs' hv;obtain ⟨h1,h2,h3⟩:=hq;have hsz : a'.tmps.size = fn.ntmps:=hs'.size;have hs4 : StOk { cx with N:=fn.ntmps + 1 } ((fn.ntmps,v) :: tm') ob1 nx' ρ' ⟨a'.tmps.push x,[]⟩ w':=by
        have:=hs'.anyN (N:=fn.ntmps + 1) (tm':=(fn.ntmps,v) :: tm') (a':=⟨a'.tmps.push x,[]⟩) (by simp [hsz]) (DefOk.none hN.2.2) (fun i=>by
          rw [get_cons];split
          · rename_i e;have e:=Nat.eq_of_beq_eq_true e;subst e;rw [show (a'.tmps.push x).getD fn.ntmps undef = x from by simp [Array.getD_eq_getD_getElem?,← hsz]];exact g3
          · rename_i e;have hne : i ≠ fn.ntmps:=fun e'=>by rw [e'] at e;simp at e
            have : (a'.tmps.push x).getD i undef = a'.tmps.getD i undef:=by
              rw [Array.getD_eq_getD_getElem?,Array.getD_eq_getD_getElem?,Array.getElem?_push,if_neg (by rw [hsz];exact hne)]
            rw [this];exact hs'.tms i)
        exact this
      obtain ⟨ρ2,hs2⟩:=(qP (nx0:=m) keepT_le h2 h3).st { cx with N:=fn.ntmps + 1 } hnx ρ' _ w' hs4;have hs3 : StOk cx [] ob' m' ρ2 ⟨#[],[]⟩ w':=by
        have:=hs2.anyN (N:=cx.N) (tm':=[]) (a':=⟨#[],[]⟩) (by rw [hN.1];rfl) (DefOk.none hN.2.2) (fun _=>trivial);exact this
      have r1:=hs2.tms fn.ntmps;rw [keepT_get (by simp),get_cons] at r1;have r0:=hs2.tms p;rw [keepT_get (by simp)] at r0;have e0 : (a'.tmps.push x).getD p undef = a'.tmps.getD p undef:=by
        rw [Array.getD_eq_getD_getElem?,Array.getD_eq_getD_getElem?,Array.getElem?_push,if_neg (by omega)]
      have r0' : (get ((fn.ntmps,v) :: tm') p).rep (okOf cx ρ2 ob') ρ2 w' (a'.tmps.getD p undef):=by rw [← e0];exact r0
      have r2:=hs2.tms u;rw [keepT_get (by simp)] at r2;have e1 : (a'.tmps.push x).getD fn.ntmps undef = x:=by simp [Array.getD_eq_getD_getElem?,← hsz]
      have e2 : (a'.tmps.push x).getD u undef = a'.tmps.getD u undef:=by
        rw [Array.getD_eq_getD_getElem?,Array.getD_eq_getD_getElem?,Array.getElem?_push,if_neg (by omega)]
      have r1' : (get ((fn.ntmps,v) :: tm') fn.ntmps).rep (okOf cx ρ2 ob') ρ2 w' x:=by rw [get_cons,← e1];exact r1
      have r2' : (get ((fn.ntmps,v) :: tm') u).rep (okOf cx ρ2 ob') ρ2 w' (a'.tmps.getD u undef):=by rw [← e2];exact r2
      subst h1;refine ⟨.tuple #[a'.tmps.getD p undef,x,a'.tmps.getD u undef],?_,_,ρ2,rfl,hs3,[_,_,_],rfl,_,_,rfl,yU r0',_,_,rfl,yU r1',_,_,rfl,yU r2',rfl⟩;rw [results_tmp_cell_tmp hr];simp only [Result.andThen,g1,g2]
    · exact hq.elim
  | normal=>exact (show False from hq).elim
  | exit i=>exact (show False from hq).elim
  | goto l=>exact (show False from hq).elim
  | panic ch=>exact (show False from hq).elim
  | outgrown=>exact (show False from hq).elim
end
def Rd.unks : {α : Type} → Rd α → Bool
  | _,.unk=>true
  | _,.st R S=>match R.unks with
    | true=>S.unks
    | false=>false
  | _,.str=>false
  | _,.int _=>false
  | _,.bool=>false
  | _,.raw=>false
  | _,.slk _ _=>false
  | _,.ptk _ _=>false
  | _,.ifc _ _=>false
def Rd.thin : {α : Type} → Rd α → Bool
  | _,.unk=>true
  | _,.str=>true
  | _,.int _=>true
  | _,.bool=>true
  | _,.raw=>true
  | _,.slk k R=>match Nat.beq k 7 with
    | true=>R.unks
    | false=>R.thin
  | _,.ptk k R=>match Nat.beq k 7 with
    | true=>false
    | false=>R.thin
  | _,.ifc _ R=>R.thin
  | _,.st R S=>match R.thin with
    | true=>S.thin
    | false=>false
def C.thin : C → Bool
  | .slk k R _=>match Nat.beq k 7 with
    | true=>R.unks
    | false=>R.thin
  | .adk k R _=>match Nat.beq k 7 with
    | true=>R.unks
    | false=>R.thin
  | .full R _=>R.thin
  | .ifc _ c=>c.thin
  | .clo _ c=>c.thin
  | .clo2 _ c d=>match c.thin with
    | true=>d.thin
    | false=>false
  | .clo3 _ c d e=>match c.thin with
    | true=>match d.thin with
      | true=>e.thin
      | false=>false
    | false=>false
  | .ref c=>c.thin
  | _=>true
def thinL : List C → Bool
  | []=>true
  | c :: r=>match c.thin with
    | true=>thinL r
    | false=>false
def thinT : List (Bool × List C) → Bool
  | []=>true
  | p :: r=>match thinL p.2 with
    | true=>thinT r
    | false=>false
def A.thin : A → Bool
  | .one c=>c.thin
  | .agg cs=>thinL cs
  | .tup cs=>thinT cs
  | .cond _ a=>a.thin
def thinTm : Tm → Bool
  | []=>true
  | p :: r=>match p.2.thin with
    | true=>thinTm r
    | false=>false
def Ob.thin : Ob → Bool
  | .box _ cs=>thinL cs
  | .vec _ R _=>R.thin
  | .map _ R _=>R.thin
def thinOb : Obs → Bool
  | []=>true
  | p :: r=>match p.2.thin with
    | true=>thinOb r
    | false=>false
structure Keeps7 (ok ok' : Oks) (w w' : World) : Prop where
  low : ∀ k b,k ≠ 7 → ok k b → b < w.heap.size → ok' k b ∧ w'.heap[b]? = w.heap[b]?
  seven : ∀ b,ok 7 b → b < w.heap.size → ok' 7 b ∧ Shape w w' b ∧ b < w'.heap.size
theorem xV.shape {w w' : World} {b off n : Nat} {cs : List Value} (hs : Shape w w' b) (hn : 0 < n) (h : xV w b off n cs) : ∃ cs',xV w' b off n cs' ∧ ∀ v ∈ cs',v ∈ cs ∨ v.oneCell' = true:=by
  have hlen:=h.1;have hone : ∃ arr T f,w.heap[b]? = some (.cells arr T f):=by
    have h1:=h.2 0 hn;rw [List.getElem?_eq_getElem (by omega)] at h1;unfold World.cell? at h1;cases ho : w.heap[b]? with
    | none=>simp [ho] at h1
    | some o=>cases o <;> simp [ho] at h1;exact ⟨_,_,_,rfl⟩
  obtain ⟨arr,T,f,e⟩:=hone;obtain ⟨arr',e',hsz,hel⟩:=hs arr T f e;have hin : ∀ j,j < n → off + j < arr'.size:=fun j hj=>by
    have h1:=h.2 j hj;simp only [World.cell?,e,Option.isSome_none,Bool.false_eq_true,if_false] at h1;rw [List.getElem?_eq_getElem (by omega)] at h1;rw [hsz];exact (Array.getElem?_eq_some_iff.1 h1).1
  refine ⟨(List.range n).map fun j=>arr'.getD (off + j) undef,⟨by simp,fun j hj=>?_⟩,fun v hv=>?_⟩
  · simp only [World.cell?,e',Option.isSome_none,Bool.false_eq_true,if_false];have:=hin j hj;simp [List.getElem?_map,List.getElem?_range hj,Array.getD_eq_getD_getElem?,this]
  · obtain ⟨j,hj,rfl⟩:=List.mem_map.1 hv;have hj:=List.mem_range.1 hj;have hlt:=hin j hj;have h1 : arr'[off + j]? = some (arr'.getD (off + j) undef):=by simp [Array.getD_eq_getD_getElem?,hlt]
    rcases hel _ _ h1 with h2|h2
    · left
      have h3:=h.2 j hj;simp only [World.cell?,e,Option.isSome_none,Bool.false_eq_true,if_false] at h3;rw [h2] at h3;exact List.mem_of_getElem? h3.symm
    · exact .inr h2
section
variable {ok ok' : Oks} {ρ : Nat → Option Value} {w w' : World}
end
structure Spoilt (B : Nat → Prop) (w w' : World) : Prop where
  os : w'.os = w.os
  tape : w'.tape = w.tape
  output : w'.output = w.output
  size : w.heap.size ≤ w'.heap.size
  block : ∀ b,b < w.heap.size → ¬ B b → w'.heap[b]? = w.heap[b]?
  shape : ∀ b,Shape w w' b
  other : ∀ (b : Nat) (o : Obj),w.heap[b]? = some o → Obj.noCells o → w'.heap[b]? = some o
abbrev rUnk2 : Rd (Unit × Unit):=.st .unk .unk
def ASpoil (P : Program) (f : FuncId) : Prop :=
  FnOk P f ∧ ∀ (ok : Oks) (w : World) (v : Value) (xs : List (Unit × Unit)),GlobAt ok w → (∀ g,g < nGlob → ¬ ok 7 g) → SlOk rUnk2.n (fun cs x=>rUnk2.is ok w cs x) (okU ok w 7) w v xs → Calls P f #[v] w fun e w'=>∃ u,e = .returned u ∧ Spoilt (ok 7) w w'
section
variable {P : Program} {te : List (TypeId × TyI)} {cx : Cx} {tm : Tm} {ob : Obs} {nx N nx0 : Nat} {ρ : Nat → Option Value} {a : Act} {w w' : World} {Q : AQ}
end
end Ab
end Go.Proofs.YtojipboabgebfaaGreatDoor
