/-
  What a list of operations comes to abstractly, it comes to. Over any program; no condition.
-/
import Derived.Test.YthlfbpmbkcoclaaDoorAbRun
namespace Go.Proofs.YthlfbpmbkcoclaaDoor
open Go.RowKit
namespace Ab
section
variable {P : Program} {te : List (TypeId × TyI)} {cx : Cx} {tm : Tm} {ob : Obs} {nx : Nat} {ρ : Nat → Option Value} {a : Act} {w : World} {ops : Array Oper} {rest : List Oper} {o : Oper} {Q : Exit → Act → World → Prop}

theorem wpList_of (hg : o.guard = none) (h : o.wp P a w (wpList P ops Q rest) Q) : wpList P ops Q (o :: rest) a w := by
  unfold wpList
  rw [if_pos (by simp [Region.wanted, hg])]
  exact .inl h

/-- Behind an operation that yields a value. -/
theorem wp_yld {v : A} {next : Act → World → Prop} (hs : StOk cx tm ob nx ρ a w) (hy : Yld P o a.eval (okOf cx ρ ob) ρ w v) {K : Tm → Prop} (hp : put cx.N o.dst v tm K)
    (hn : ∀ tm' a' w', K tm' → StOk cx tm' ob nx ρ a' w' → next a' w') : o.wp P a w next Q := by
  obtain ⟨u, w', h1, h2, h3⟩ := hy
  unfold Oper.wp
  rw [h1]
  have hs' := hs.below h2
  obtain ⟨tm', h4, h5⟩ := hs'.put hp (rep_grow hs h2 h3)
  exact hn tm' _ _ h4 h5

theorem mapL_rep {lk : Operand → A} {ok : Nat → Prop} : ∀ {xs : List Operand}, (∀ x ∈ xs, (lk x).rep ok ρ w (a.eval x)) → RepAs ok ρ w (mapL lk xs) (xs.map a.eval)
  | [], _ => rfl
  | x :: xs, h => ⟨a.eval x, _, rfl, h x (by simp), mapL_rep fun y hy => h y (by simp [hy])⟩
theorem appA_rep {ok : Nat → Prop} : ∀ {xs ys : List A} {us vs : List Value}, RepAs ok ρ w xs us → RepAs ok ρ w ys vs → RepAs ok ρ w (appA xs ys) (us ++ vs)
  | [], _, _, _, h, k => by rw [show _ = _ from h]; exact k
  | x :: xs, _, _, _, h, k => by
    obtain ⟨v, r, e, h1, h2⟩ := h
    exact ⟨v, r ++ _, by rw [e]; rfl, h1, appA_rep h2 k⟩

/-- A call: whoever is called, its contract says what comes back. -/
theorem tgt_rep {ok : Nat → Prop} {x : A} {u : Value} {g : FuncId} {caps : List A} (ht : tgt x = some (g, caps)) (hx : x.rep ok ρ w u) : ∃ cs : List Value, u = .func (.func g) #[] cs.toArray ∧ RepAs ok ρ w caps cs := by
  unfold tgt at ht
  split at ht
  · cases ht
    exact ⟨[], hx, rfl⟩
  · cases ht
    obtain ⟨z, h1, h2⟩ := hx
    exact ⟨[z], h1, z, [], rfl, h2, rfl⟩
  · cases ht

theorem run_static {f : Operand} {args : Array Operand} {ts : Array TypeId} {g : FuncId} {cs : List Value} (hop : o.op = .call { callee := .value f, args := args, argTypes := ts }) (hf : a.eval f = .func (.func g) #[] cs.toArray) (hfn : FnOk P g) :
    (execOp a.eval o).run P w = .ok (.enter g ((args.toList.map a.eval ++ cs).toArray)) w := by
  obtain ⟨fn, hfn, hb, hn⟩ := hfn
  have e1 : (args.map a.eval) = (args.toList.map a.eval).toArray := by apply Array.toList_inj.1; simp
  have hb' : fn.body.isNone = false := by cases h : fn.body <;> simp [h] at hb ⊢
  unfold execOp
  simp only [hop, resolve, hf, Deferred.ofValue, Sem.run_bind, Sem.run_pure, Result.andThen_ok, invoke, callFunc, run_program, hfn, hn, hb', Bool.false_eq_true, if_false, e1]
  congr 2
  simp

theorem noNames_names : Names noNames ρ := fun _ _ h => by cases h
theorem call_sound {f : Operand} {args : Array Operand} {ts : Array TypeId} {g : FuncId} {caps : List A} {r : A} {next : Act → World → Prop} {lk : Operand → A} (hs : StOk cx tm ob nx ρ a w) (hop : o.op = .call { callee := .value f, args := args, argTypes := ts })
    (hlk : ∀ x ∈ f :: args.toList, (lk x).rep (okOf cx ρ ob) ρ w (a.eval x)) (ht : tgt (lk f) = some (g, caps)) (hcl : closedAs (appA (mapL lk args.toList) caps) = true) (hc : ACall P g (appA (mapL lk args.toList) caps) r)
    (hp : ∀ u w', StOk cx tm ob nx ρ a w' → r.rep (okOf cx ρ ob) ρ w' u → next (a.put o.dst u) w') : o.wp P a w next Q := by
  obtain ⟨cs, hf, hcs⟩ := tgt_rep ht (hlk f (by simp))
  obtain ⟨hfn, hcall⟩ := hc
  unfold Oper.wp
  rw [run_static hop hf hfn]
  have hargs := appA_rep (mapL_rep (w := w) (lk := lk) (xs := args.toList) (fun x hx => hlk x (by simp [hx]))) hcs
  refine (hcall (okOf cx ρ ob) w _ hs.globAt (closedAs_rep hcl hargs)).mono ?_
  rintro e w' ⟨u, rfl, hb, hr⟩
  have hs' := hs.below hb
  exact hp u w' hs' (rep_grow hs hb (A.names noNames_names hr))

theorem frz_sound : ∀ {ids : List Nat} {tm : Tm} {ob : Obs} {K : Tm → Obs → Prop}, frz te cx.nx0 ids tm ob K → StOk cx tm ob nx ρ a w → ∃ tm' ob', K tm' ob' ∧ StOk cx tm' ob' nx ρ a w
  | [], tm, ob, K, h, hs => ⟨tm, ob, h, hs⟩
  | i :: r, tm, ob, K, h, hs => by
    unfold frz at h
    split at h
    · rename_i hg
      split at h
      · rename_i hle
        exact frz_sound h (hs.freeze hg (Nat.le_of_ble_eq_true hle))
      · exact h.elim
    · rename_i hg
      split at h
      · rename_i d hle hd
        exact frz_sound h (hs.freezeBox hg (Nat.le_of_ble_eq_true hle) hd)
      · exact h.elim
    · exact frz_sound h hs

theorem put_den {d : Option Nat} {v : A} {K : Tm → Prop} (hp : put cx.N d v tm K) (hs : StOk cx tm ob nx ρ a w) {u : Value} (hr : v.rep (okOf cx ρ ob) ρ w u) : ∃ tm', K tm' ∧ StOk cx tm' ob nx ρ (a.put d u) w := hs.put hp hr

theorem repL_new (hs : StOk cx tm ob nx ρ a w) {v : Value} {o : Ob} {w' : World} (hbw : Below w.heap.size w w') (hb : ∀ b, blk (some v) = some b → w.heap.size ≤ b) {cs : List C} {vs : List Value} (h : repL (okOf cx ρ ob) ρ w cs vs) :
    repL (okOf cx (upd ρ nx v) ((nx, o) :: ob)) (upd ρ nx v) w' cs vs := (h.names (upd_names hs v)).kept (okOf_new hs hb hbw)

theorem box_sound {t : TypeId} {i : TyI} (_hi : TyOk P t i) {v : Value} {cs : List C} (hs : StOk cx tm ob nx ρ a w) (hv : repL (okOf cx ρ ob) ρ w cs v.cells.toList) :
    ∃ ρ' w', (do pure (.pointer (some (← newVar t v))) : Sem Value).run P w = .ok (.pointer (some ⟨w.heap.size, 0, none⟩)) w' ∧ StOk cx tm ((nx, .box t cs) :: ob) (nx + 1) ρ' a w' ∧ (C.own nx 0).rep (okOf cx ρ' ((nx, .box t cs) :: ob)) ρ' w' (.pointer (some ⟨w.heap.size, 0, none⟩)) := by
  refine ⟨upd ρ nx (.pointer (some ⟨w.heap.size, 0, none⟩)), w.alloc (.cells v.cells t), rfl, hs.new (below_alloc w _) (fun b e => by cases e; exact ⟨Nat.le_refl _, by simp⟩) ?_, w.heap.size, upd_same, rfl⟩
  refine ⟨w.heap.size, v.cells.toList, upd_same, by rw [heap_new], repL_new hs (below_alloc w _) (fun b e => by cases e; exact Nat.le_refl _) hv⟩

theorem litL_eq : ∀ vs : List Value, litL vs = vs.map C.lit
  | [] => rfl
  | _ :: r => by rw [litL, litL_eq r]; rfl
theorem setRow_grew {g : Nat} {cs : Array Value} : Grew w (w.setRow g cs) (some g) :=
  ⟨rfl, rfl, rfl, by simp, fun k _ hk => setRow_other w g k _ (fun e => hk (by rw [e]))⟩
theorem sureL_ones {ok : Nat → Prop} : ∀ {cs : List C} {vs : List Value}, sureL cs = true → repL ok ρ w cs vs → ∀ v ∈ vs, v.oneCell' = true
  | [], _, _, h, v, hv => by rw [show _ = _ from h] at hv; cases hv
  | c :: cs, _, hc, h, v, hv => by
    unfold sureL at hc
    split at hc
    · rename_i h1
      obtain ⟨u, r, rfl, h2, h3⟩ := h
      rcases List.mem_cons.1 hv with hv | hv
      · subst hv; exact C.sure_one h1 h2
      · exact sureL_ones hc h3 v hv
    · cases hc

/-- A value that is stored into cells of the call's own, where each is one cell. -/
theorem cells_of {x : Operand} {ns : List C} (hs : StOk cx tm ob nx ρ a w) (h : cellsA (look tm x) = some ns) (hsure : sureL ns = true) : repL (okOf cx ρ ob) ρ w ns (a.eval x).cells.toList := by
  refine cellsA_rep h (hs.look x) fun c hc => ?_
  rw [hc] at h
  cases h
  have hr := hs.look x
  rw [hc] at hr
  unfold sureL at hsure
  split at hsure
  · rename_i h1; exact C.sure_one h1 hr
  · cases hsure

theorem store_own {t : TypeId} {i : TyI} (hi : TyOk P t i) {v : Value} {id off b : Nat} {T : TypeId} {cs ns : List C} (hs : StOk cx tm ob nx ρ a w) (hρ : ρ id = some (.pointer (some ⟨b, 0, none⟩))) (hg : getO ob id = some (.box T cs))
    (hv : repL (okOf cx ρ ob) ρ w ns v.cells.toList) (hn : sureL ns = true) (hsz : ns.length = i.size) (hle : off + ns.length ≤ cs.length) :
    ∃ w', (Instr.storeAt t (.pointer (some ⟨b, off, none⟩)) v).run P w = .ok () w' ∧ StOk cx tm (setO id (.box T (setC off ns cs)) ob) nx ρ a w' := by
  obtain ⟨b', vs, h1, h2, h3⟩ := hs.obs _ (mem_getO hg)
  rw [hρ] at h1
  simp only [Option.some.injEq, Value.pointer.injEq, Addr.mk.injEq, and_true] at h1
  subst h1
  have hl := repL.len hv
  have hl3 := repL.len h3
  have hst := run_storeCells_at P b off T v.cells.toList 0 vs.toArray w h2 (by simp only [Nat.add_zero, List.size_toArray]; omega) (sureL_ones hn hv)
  simp only [Nat.add_zero] at hst
  refine ⟨w.setRow b (vs.take off ++ v.cells.toList ++ vs.drop (off + v.cells.toList.length)).toArray, ?_, ?_⟩
  · simp only [Instr.storeAt, storeVar, Instr.sureAddr, Sem.run_bind, Sem.run_pure, Result.andThen_ok, hi.sizeOf]
    rw [if_neg (by simp only [Array.length_toList] at hl; omega)]
    exact hst
  · refine hs.write hg (by rw [hρ]; exact setRow_grew) (by simp [World.setRow]) ?_
    refine ⟨b, vs.take off ++ v.cells.toList ++ vs.drop (off + v.cells.toList.length), hρ, ?_, ?_⟩
    · rw [setRow_heap w b _ _ T _ h2]
    · have hset := repL_set off hv h3
      rw [setV_at off _ _ (by omega)] at hset
      have hk : Keeps (okOf cx ρ ob) (okOf cx ρ ob) w (w.setRow b (vs.take off ++ v.cells.toList ++ vs.drop (off + v.cells.toList.length)).toArray) :=
        fun k hk hlt => ⟨hk, setRow_grew.block k hlt (fun e => hk.2 _ (mem_getO hg) (by rw [hρ]; exact e.symm))⟩
      exact hset.kept hk

/-! ### Own slices: a store, a new one, one that grows -/
theorem flatten_len {n : Nat} : ∀ (css : List (List Value)), (∀ c ∈ css, c.length = n) → css.flatten.length = css.length * n
  | [], _ => by simp
  | c :: r, h => by
    rw [List.flatten_cons, List.length_append, h c (by simp), flatten_len r (fun c hc => h c (by simp [hc])), List.length_cons, Nat.add_mul]
    omega
theorem flatten_set {n : Nat} (us : List Value) (hu : us.length = n) : ∀ (css : List (List Value)) (k : Nat), (∀ c ∈ css, c.length = n) → k < css.length → (css.set k us).flatten = css.flatten.take (k * n) ++ us ++ css.flatten.drop (k * n + n)
  | [], _, _, hk => absurd hk (by simp)
  | c :: r, 0, h, _ => by
    have hc : c.length = n := h c (by simp)
    simp [← hc]
  | c :: r, k + 1, h, hk => by
    have hc : c.length = n := h c (by simp)
    have ih := flatten_set us hu r k (fun c hc => h c (by simp [hc])) (by simpa using hk)
    have e1 : (k + 1) * n = c.length + k * n := by rw [Nat.add_mul, hc]; omega
    rw [List.set_cons_succ, List.flatten_cons, List.flatten_cons, ih, e1, Nat.add_assoc, List.take_length_add_append, List.drop_length_add_append]
    simp

theorem take_mid {α : Type} (l us : List α) (a b n : Nat) (hu : us.length = b) (h : a + b ≤ n) (hn : n ≤ l.length) : (l.take a ++ us ++ l.drop (a + b)).take n = (l.take n).take a ++ us ++ (l.take n).drop (a + b) := by
  have hl : (l.take a ++ us).length = a + b := by rw [List.length_append, List.length_take, hu]; omega
  have e : n = (l.take a ++ us).length + (n - (a + b)) := by omega
  conv => lhs; rw [e]
  rw [List.take_length_add_append, List.take_take, Nat.min_eq_left (by omega), List.drop_take]
theorem css_lens {α : Type} {R : Rd α} {ok : Nat → Prop} {xs : List α} {css : List (List Value)} (h1 : css.length = xs.length) (h2 : ∀ i (h : i < xs.length), R.is ok w (css.getD i []) xs[i]) : ∀ c ∈ css, c.length = R.n := by
  intro c hc
  obtain ⟨j, hj, rfl⟩ := List.mem_iff_getElem.1 hc
  have := R.len (h2 j (by omega))
  simpa [List.getD, hj] using this

theorem store_vel {t : TypeId} {i : TyI} (hi : TyOk P t i) {v : Value} {id k b m cap : Nat} {α : Type} {E : TypeId} {R : Rd α} {xs : List α} {y : α} {ns : List C} (hs : StOk cx tm ob nx ρ a w) (hρ : ρ id = some (.slice (some ⟨b, 0, none⟩) m cap)) (hg : getO ob id = some (.vec E R xs))
    (hv : repL (okOf cx ρ ob) ρ w ns v.cells.toList) (hn : sureL ns = true) (hsz : ns.length = i.size) (hy : ofL R ns = some (y, [])) (hk : k < xs.length) :
    ∃ w', (Instr.storeAt t (.pointer (some ⟨b, k * R.n, none⟩)) v).run P w = .ok () w' ∧ StOk cx tm (setO id (.vec E R (xs.set k y)) ob) nx ρ a w' := by
  obtain ⟨v', hv', css, h1, h2, h3⟩ : ∃ v, ρ id = some v ∧ VecOk (okOf cx ρ ob) w v E R xs := hs.obs _ (mem_getO hg)
  rw [hρ] at hv'
  obtain rfl := Option.some.inj hv'
  obtain ⟨us, r, e1, hus, hr⟩ := ofL_rep R hy hv
  have hr0 : r = [] := hr
  rw [hr0, List.append_nil] at e1
  have hul := R.len hus
  have hfl := css_lens h1 h2
  have hfs := flatten_len css hfl
  rcases h3.2 with ⟨h0, _⟩ | ⟨g, cap', cur, hsl, hbg, hgh, hnc, hcm, hcs, htake⟩
  · cases h0
  · injection hsl with q1 q2 q3
    injection q1 with q1
    injection q1 with q1 _ _
    subst q1 q2 q3
    have hkn : k * R.n + R.n ≤ xs.length * R.n := by
      have : (k + 1) * R.n ≤ xs.length * R.n := Nat.mul_le_mul_right _ (by omega)
      rw [Nat.add_mul, Nat.one_mul] at this; exact this
    have hcap : xs.length * R.n ≤ cap * R.n := Nat.mul_le_mul_right _ hnc
    have hst := run_storeCells_at P b (k * R.n) E v.cells.toList 0 cur w hgh (by rw [e1, hul]; omega) (sureL_ones hn hv)
    simp only [Nat.add_zero] at hst
    refine ⟨w.setRow b (cur.toList.take (k * R.n) ++ v.cells.toList ++ cur.toList.drop (k * R.n + v.cells.toList.length)).toArray, ?_, hs.write hg (by rw [hρ]; exact setRow_grew) (by simp [World.setRow]) ⟨_, hρ, css.set k us, by simp [h1], ?_, ?_⟩⟩
    · simp only [Instr.storeAt, storeVar, Instr.sureAddr, Sem.run_bind, Sem.run_pure, Result.andThen_ok, hi.sizeOf]
      rw [if_neg (by have := repL.len hv; simp only [Array.length_toList] at this; omega)]
      exact hst
    · intro j hj
      have hj' : j < xs.length := by simpa using hj
      have hkp : Keeps (okOf cx ρ ob) (okOf cx ρ ob) w (w.setRow b (cur.toList.take (k * R.n) ++ v.cells.toList ++ cur.toList.drop (k * R.n + v.cells.toList.length)).toArray) :=
        fun q hq hlt => ⟨hq, setRow_grew.block q hlt (fun e => hq.2 _ (mem_getO hg) (by rw [hρ]; exact e.symm))⟩
      by_cases e : j = k
      · subst e
        have : (css.set j us).getD j [] = us := by simp [List.getD, h1, hj']
        rw [this]
        simp only [List.getElem_set_self]
        exact R.kept hkp hus
      · have : (css.set k us).getD j [] = css.getD j [] := by simp [List.getD, Ne.symm e]
        rw [this, List.getElem_set_ne (Ne.symm e)]
        exact R.kept hkp (h2 j hj')
    · refine ⟨?_, .inr ⟨b, cap, _, by simp, hbg, setRow_heap w b _ _ E _ hgh, by simpa using hnc, hcm, ?_, ?_⟩⟩
      · rw [flatten_set us hul css k hfl (by omega)]
        simp only [List.length_append, List.length_take, List.length_drop, hfs, h1, List.length_set, hul]
        omega
      · simp only [List.size_toArray, List.length_append, List.length_take, List.length_drop, Array.length_toList, e1, hul, hcs]
        omega
      · rw [flatten_set us hul css k hfl (by omega), ← htake]
        simp only [List.length_set, e1, hul]
        have h5 : cur.toList.length = cap * R.n := by simpa using hcs
        exact take_mid _ _ _ _ _ hul hkn (by show xs.length * R.n ≤ cur.toList.length; omega)

theorem vecOk_new {α : Type} {R : Rd α} {xs : List α} {css : List (List Value)} {e : TypeId} {ok ok' : Nat → Prop} {w' : World} (h1 : css.length = xs.length) (h2 : ∀ i (h : i < xs.length), R.is ok w (css.getD i []) xs[i]) (hk : Keeps ok ok' w w') (hm : xs.length ≤ maxLen)
    (hb : w'.heap[w.heap.size]? = some (.cells css.flatten.toArray e)) : VecOk ok' w' (.slice (some ⟨w.heap.size, 0, none⟩) xs.length xs.length) e R xs := by
  have hfs := flatten_len css (css_lens h1 h2)
  refine ⟨css, h1, fun i hi => R.kept hk (h2 i hi), by rw [hfs, h1], .inr ⟨w.heap.size, xs.length, _, rfl, Nat.zero_le _, hb, Nat.le_refl _, hm, by simp [hfs, h1], ?_⟩⟩
  rw [List.take_of_length_le (by simp [hfs, h1])]

/-- A new slice of the call's own, in a world in which at most new memory has been made. -/
theorem new_vec {α : Type} {E : TypeId} {R : Rd α} {xs : List α} {v : Value} {w' : World} (hs : StOk cx tm ob nx ρ a w) (hbw : Below w.heap.size w w') (hb : ∀ b, blk (some v) = some b → w.heap.size ≤ b ∧ b < w'.heap.size) (hsl : ∃ a n c, v = .slice a n c)
    (hv : ∀ ok', Keeps (okOf cx ρ ob) ok' w w' → VecOk ok' w' v E R xs) : ∃ ρ', StOk cx tm ((nx, .vec E R xs) :: ob) (nx + 1) ρ' a w' ∧ (C.vec nx).rep (okOf cx ρ' ((nx, .vec E R xs) :: ob)) ρ' w' v := by
  refine ⟨upd ρ nx v, hs.new hbw hb ⟨v, upd_same, hv _ (okOf_new hs (fun b e => (hb b e).1) hbw)⟩, upd_same, hsl⟩

theorem run_app {t ty e : TypeId} {ei : TyI} (ht : P.underlying t = some (.slice e)) (he : TyOk P e ei) (hpos : 0 < ei.size) {v : Value} {n : Nat} {xs : List Value} (hown : w.ownsRow 0 e ei.size v n xs)
    {ad : Addr} {m c : Nat} {news : List Value} (hl : news.length = m * ei.size) (hnews : ∀ j u, news[j]? = some u → w.cell? (ad.add j) = some u) (h1 : ∀ u ∈ news, u.oneCell' = true) (_hm : 0 < m) (h63 : n + m ≤ maxLen) (hby : (n + m) * ei.bytes ≤ 140737488355328) :
    ∃ v' w', (Builtin.append_ #[t, t] ty #[v, .slice (some ad) m c]).run P w = .ok v' w' ∧ w'.ownsRow 0 e ei.size v' (n + m) (xs ++ news) ∧ Grew w w' (blk (some v)) ∧ (∀ b, blk (some v') = some b → blk (some v) = some b ∨ (w.heap.size ≤ b ∧ b < w'.heap.size)) ∧ ∃ a n c, v' = .slice a n c := by
  obtain ⟨f, hf, hfs, hfb, hfz⟩ := he.info
  have hzs : ei.zeroV.cells.size = ei.size := by rw [he.zeroCells]; simpa using he.zlen
  have low : ∀ {v' : Value} {w' : World}, w'.ownsRow w.heap.size e ei.size v' (n + m) (xs ++ news) → w.grownBy w' none →
      w'.ownsRow 0 e ei.size v' (n + m) (xs ++ news) ∧ Grew w w' (blk (some v)) ∧ (∀ b, blk (some v') = some b → blk (some v) = some b ∨ (w.heap.size ≤ b ∧ b < w'.heap.size)) ∧ ∃ a n c, v' = .slice a n c := by
    intro v' w' ho hg
    refine ⟨⟨ho.1, ?_⟩, ⟨hg.os, hg.tape, hg.output, hg.size, fun k hk _ => hg.block k hk (by simp)⟩, ?_, ?_⟩
    · rcases ho.2 with h0 | ⟨g, cap, cur, r1, r2, r3⟩
      · exact .inl h0
      · exact .inr ⟨g, cap, cur, r1, Nat.zero_le _, r3⟩
    · intro b hb
      rcases ho.2 with ⟨h0, _⟩ | ⟨g, cap, cur, r1, r2, r3, _⟩
      · rw [h0] at hb; cases hb
      · rw [r1] at hb
        cases hb
        exact .inr ⟨r2, (Array.getElem?_eq_some_iff.1 r3).1⟩
    · rcases ho.2 with ⟨h0, _⟩ | ⟨g, cap, cur, r1, _⟩
      · exact ⟨_, _, _, h0⟩
      · exact ⟨_, _, _, r1⟩
  rcases hown.2 with ⟨hv, h0⟩ | ⟨g, cap, cur, hv, hbg, hg, hnc, hcm, hcs, htake⟩
  · have hx : xs = [] := List.eq_nil_of_length_eq_zero (by rw [hown.1, h0]; simp)
    subst hv h0 hx
    obtain ⟨v', w', r1, r2, r3, _⟩ := run_append_own (P := P) w w.heap.size t ty e f ei.zeroV ei.size ei.bytes ht hf hfz hfs hfb hzs hpos (.slice none 0 0) 0 [] (World.ownsRow_nil _ _ _ _) ad m c news hl hnews h1 h63 hby (Nat.le_refl _)
    exact ⟨v', w', r1, low r2 r3⟩
  · subst hv
    by_cases hroom : n + m ≤ cap
    · obtain ⟨w', r1, r2, r3⟩ := run_append_fits (P := P) w 0 t ty e f ei.size ht hf hfs g n cap xs hown ad m c news hl hnews h1 hroom
      exact ⟨_, w', r1, r2, ⟨r3.os, r3.tape, r3.output, r3.size, r3.block⟩, fun b hb => .inl hb, _, _, _, rfl⟩
    · obtain ⟨v', w', r1, r2, r3⟩ := run_append_arg_grows (P := P) w t ty e f ei.zeroV ei.size ei.bytes ht hf hfz hfs hfb hzs hpos ⟨g, 0, none⟩ n cap xs hown.1 (fun j u hj => hown.cells rfl j u hj) ad m c news hl hnews (by omega) h63 hby
      exact ⟨v', w', r1, low r2 r3⟩
theorem run_app0 {t ty e : TypeId} {ei : TyI} (ht : P.underlying t = some (.slice e)) (he : TyOk P e ei) (base ad : Option Addr) (n cap c : Nat) (hc : n ≤ cap) :
    (Builtin.append_ #[t, t] ty #[.slice base n cap, .slice ad 0 c]).run P w = .ok (.slice base n cap) w := by
  obtain ⟨f, hf, hfs, hfb, hfz⟩ := he.info
  cases ad <;> cases base <;> simp [Builtin.append_, run_underlying ht, Go.sizeOf, typeInfo, hf, Builtin.lenOf, hc, Builtin.firstCells, loadCells, loadCellsFrom, storeCells]
end
end Ab
end Go.Proofs.YthlfbpmbkcoclaaDoor
