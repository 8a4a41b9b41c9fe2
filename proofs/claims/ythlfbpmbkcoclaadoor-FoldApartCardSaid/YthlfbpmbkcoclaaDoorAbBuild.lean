/-
  Structs and slices that are built of their parts, abstractly. Over any program; no condition.
-/
import Derived.Test.YthlfbpmbkcoclaaDoorAbMore
import Derived.Laws.Tables
namespace Go.Proofs.YthlfbpmbkcoclaaDoor
open Go.RowKit
namespace Ab

def setV : Nat → List Value → List Value → List Value
  | 0, [], cs => cs
  | 0, n :: ns, _ :: cs => n :: setV 0 ns cs
  | 0, _ :: _, [] => []
  | k + 1, ns, c :: cs => c :: setV k ns cs
  | _ + 1, _, [] => []
theorem setV_nil : ∀ (k : Nat) (l : List Value), setV k [] l = l
  | 0, l => by cases l <;> rfl
  | _ + 1, [] => rfl
  | k + 1, c :: cs => by rw [setV, setV_nil k cs]
theorem setV_none : ∀ (k : Nat) (ns : List Value), setV k ns [] = []
  | 0, [] => rfl
  | 0, _ :: _ => rfl
  | _ + 1, _ => rfl
theorem setV_step : ∀ (k : Nat) (n : Value) (ns l : List Value), setV k (n :: ns) l = setV (k + 1) ns (l.set k n)
  | 0, _, _, [] => by simp [setV]
  | 0, n, ns, c :: cs => rfl
  | k + 1, n, ns, [] => by simp [setV]
  | k + 1, n, ns, c :: cs => by
    show c :: setV k (n :: ns) cs = c :: setV (k + 1) ns (cs.set k n)
    rw [setV_step k n ns cs]
theorem setV_length : ∀ (k : Nat) (ns l : List Value), (setV k ns l).length = l.length
  | 0, [], l => by rw [setV_nil]
  | 0, _ :: ns, c :: cs => by simp [setV, setV_length 0 ns cs]
  | 0, _ :: _, [] => rfl
  | k + 1, ns, c :: cs => by simp [setV, setV_length k ns cs]
  | _ + 1, _, [] => rfl
/-- Behind k cells. -/
theorem setV_append : ∀ (a ns b : List Value), setV a.length ns (a ++ b) = a ++ setV 0 ns b
  | [], _, _ => rfl
  | c :: a, ns, b => by simp [setV, setV_append a ns b]
theorem setV_whole : ∀ (ns b : List Value), ns.length ≤ b.length → setV 0 ns b = ns ++ b.drop ns.length
  | [], b, _ => by rw [setV_nil]; rfl
  | n :: ns, c :: cs, h => by simp [setV, setV_whole ns cs (by simpa using h)]
  | n :: ns, [], h => absurd h (by simp)

theorem setV_at (off : Nat) (ns vs : List Value) (h : off + ns.length ≤ vs.length) : setV off ns vs = vs.take off ++ ns ++ vs.drop (off + ns.length) := by
  have h1 := setV_append (vs.take off) ns (vs.drop off)
  rw [List.take_append_drop, List.length_take, Nat.min_eq_left (by omega), setV_whole _ _ (by rw [List.length_drop]; omega), List.drop_drop] at h1
  rw [h1, List.append_assoc]
theorem foldl_set (off : Nat) : ∀ (vs : List Value) (k : Nat) (arr : Array Value),
    ((vs.zipIdx k).foldl (fun cs (p : Value × Nat) => cs.setIfInBounds (off + p.2) p.1) arr).toList = setV (off + k) vs arr.toList
  | [], k, arr => by simp [setV_nil]
  | v :: vs, k, arr => by
    rw [List.zipIdx_cons, List.foldl_cons, foldl_set off vs (k + 1), setV_step]
    simp [Nat.add_assoc]
theorem fill_one (off : Nat) (v : Value) (arr : Array Value) :
    (v.cells.zipIdx.foldl (fun cs (c, j) => cs.setIfInBounds (off + j) c) arr) = (setV off v.cells.toList arr.toList).toArray := by
  have h := foldl_set off v.cells.toList 0 arr
  rw [Nat.add_zero] at h
  apply Array.toList_inj.1
  rw [← h]
  simp only [← Array.foldl_toList, Array.toList_zipIdx]

section
variable {P : Program} {te : List (TypeId × TyI)} {ok : Nat → Prop} {ρ : Nat → Option Value} {w : World}

theorem repL_set : ∀ (k : Nat) {ns cs : List C} {us vs : List Value}, repL ok ρ w ns us → repL ok ρ w cs vs → repL ok ρ w (setC k ns cs) (setV k us vs)
  | 0, [], cs, _, _, h, hr => by
    rw [show _ = _ from h, setV_nil]
    have : setC 0 [] cs = cs := by cases cs <;> rfl
    rw [this]; exact hr
  | 0, _ :: ns, _ :: cs, _, _, h, hr => by
    obtain ⟨u, r, e, h1, h2⟩ := h
    obtain ⟨v, r', e', _, h4⟩ := hr
    rw [e, e']
    exact ⟨u, _, rfl, h1, repL_set 0 h2 h4⟩
  | 0, _ :: _, [], _, _, h, hr => by
    rw [show _ = _ from hr, setV_none]; exact rfl
  | k + 1, ns, c :: cs, _, _, h, hr => by
    obtain ⟨v, r', e', h3, h4⟩ := hr
    rw [e']
    exact ⟨v, _, rfl, h3, repL_set k h h4⟩
  | _ + 1, _, [], _, _, h, hr => by
    rw [show _ = _ from hr, setV_none]; exact rfl

theorem cellsA_rep {a : A} {cs : List C} {v : Value} (h : cellsA a = some cs) (hr : a.rep ok ρ w v) (h1 : ∀ c, a = .one c → v.oneCell' = true) : repL ok ρ w cs v.cells.toList := by
  cases a <;> simp only [cellsA] at h
  · cases h
    have := h1 _ rfl
    refine ⟨v, [], ?_, hr, rfl⟩
    cases v <;> first | rfl | (simp [Value.oneCell'] at this)
  · cases h
    obtain ⟨vs, rfl, hvs⟩ := hr
    simpa [Value.cells] using hvs
  · cases h
  · cases h

/-- Cells of which it is known that each is one cell. -/
def C.sure : C → Bool
  | .any => false
  | .lit v => match v with
    | .agg _ => false
    | .tuple _ => false
    | _ => true
  | _ => true
theorem C.sure_one {c : C} {v : Value} (h : c.sure = true) (hr : c.rep ok ρ w v) : v.oneCell' = true := by
  cases c
  · cases h
  · rename_i u
    rw [show v = u from hr]
    cases u <;> first | rfl | (simp [C.sure] at h)
  · obtain ⟨a, cap, rfl, _⟩ := hr; rfl
  · obtain ⟨⟨a, cap, rfl, _⟩, _⟩ := hr; rfl
  · obtain ⟨b, off, cs, rfl, _⟩ := hr; rfl
  · obtain ⟨b, _, rfl⟩ := hr; rfl
  · obtain ⟨_, a, n, c, rfl⟩ := hr; rfl
  · obtain ⟨b, m, cap, _, rfl⟩ := hr; rfl
  · obtain ⟨u, rfl, _⟩ := hr; rfl
  · obtain ⟨u, rfl, _⟩ := hr; rfl
  · obtain ⟨b, off, u, rfl, _⟩ := hr; rfl
  · rename_i u i
    cases u
    · rw [hr.2 rfl]; rfl
    · obtain ⟨b, _, rfl⟩ := hr.1 rfl; rfl
def A.sure : A → Bool
  | .one c => c.sure
  | _ => true

/-- Values for slots, one by one. -/
def RepP (ok : Nat → Prop) (ρ : Nat → Option Value) (w : World) : List (Nat × A) → List (Nat × Value) → Prop
  | [], vs => vs = []
  | p :: ps, vs => ∃ v r, vs = (p.1, v) :: r ∧ p.2.rep ok ρ w v ∧ RepP ok ρ w ps r

theorem nthP_eq : ∀ {fs : List (Nat × TypeId)} {i : Nat} {p : Nat × TypeId}, nthP fs i = some p → fs[i]? = some p
  | [], _, _, h => by cases h
  | _ :: _, 0, _, h => by cases h; rfl
  | _ :: r, n + 1, _, h => by simpa using nthP_eq (fs := r) h

/-- The values fill cells of known number. -/
def SureP (vs : List (Nat × Value)) (ps : List (Nat × A)) : Prop := ∀ (i : Nat) (c : C), (ps[i]?).map Prod.snd = some (A.one c) → ∀ p : Nat × Value, vs[i]? = some p → p.2.oneCell' = true

def sureP : List (Nat × A) → Bool
  | [] => true
  | p :: r => match p.2.sure with
    | true => sureP r
    | false => false
theorem sureP_sound : ∀ {ps : List (Nat × A)} {vs : List (Nat × Value)}, sureP ps = true → RepP ok ρ w ps vs → SureP vs ps
  | [], vs, _, _ => fun i c h => by simp at h
  | p :: ps, vs, h, hr => by
    obtain ⟨v, r, rfl, h1, h2⟩ := hr
    unfold sureP at h
    split at h
    · rename_i h0
      intro i c hi q hq
      match i with
      | 0 =>
        simp only [List.getElem?_cons_zero, Option.map_some, Option.some.injEq] at hi hq
        subst hq
        rw [hi] at h0 h1
        exact C.sure_one h0 h1
      | i + 1 => exact sureP_sound h h2 i c (by simpa using hi) q (by simpa using hq)
    · cases h
theorem bld_sound (hte : TEok P te) {fs : List (Nat × TypeId)} {place : Nat → Option (Nat × Nat)} (hp : ∀ (i off : Nat) (ty : TypeId) (ti : TyI), fs[i]? = some (off, ty) → find te ty = some ti → place i = some (off, ti.size)) :
    ∀ {ps : List (Nat × A)} {vs : List (Nat × Value)} {cs cs' : List C} {arr : Array Value}, bld te fs ps cs = some cs' → RepP ok ρ w ps vs → SureP vs ps → repL ok ρ w cs arr.toList →
      ∃ arr', Instr.fill place arr vs = some arr' ∧ repL ok ρ w cs' arr'.toList
  | [], vs, cs, cs', arr, h, hr, _, hc => by
    rw [show vs = [] from hr]
    cases h
    exact ⟨arr, rfl, hc⟩
  | (i, a) :: ps, vs, cs, cs', arr, h, hr, hs, hc => by
    obtain ⟨v, r, rfl, h1, h2⟩ := hr
    unfold bld at h
    split at h
    · rename_i off ty e1
      split at h
      · rename_i ns e2
        split at h
        · rename_i ti e3
          split at h
          · rename_i e4 e5
            have e4 := Nat.eq_of_beq_eq_true e4
            have e5 := Nat.le_of_ble_eq_true e5
            rw [lenC_eq] at e4 e5
            rw [lenC_eq] at e5
            have hns := cellsA_rep e2 h1 (fun c hc => hs 0 c (by simp [hc]) (i, v) rfl)
            have hl1 := repL.len hns
            have hl2 := repL.len hc
            have hset := repL_set off hns hc
            have hs' : SureP r ps := fun j c hj p hp => hs (j + 1) c (by simpa using hj) p (by simpa using hp)
            obtain ⟨arr', h3, h4⟩ := bld_sound hte hp (arr := (setV off v.cells.toList arr.toList).toArray) h h2 hs' (by simpa using hset)
            refine ⟨arr', ?_, h4⟩
            simp only [Array.length_toList] at hl1 hl2
            simp only [Instr.fill]
            rw [hp i off ty ti (nthP_eq e1) e3]
            simp only
            rw [if_neg (by simp; omega), fill_one]
            exact h3
          · cases h
        · cases h
      · cases h
    · cases h

theorem mapM_places : ∀ {fs : List Field}, (∀ f ∈ fs, ((P.info? f.type).map (·.size)).getD 0 ≠ 0) → fs.mapM (fun f => (P.info? f.type).map fun i => (f.offset, i.size)) = some (fs.map fun f => (f.offset, ((P.info? f.type).map (·.size)).getD 0))
  | [], _ => rfl
  | f :: fs, h => by
    have h1 := h f (by simp)
    have ih := mapM_places (fs := fs) (fun g hg => h g (by simp [hg]))
    cases hi : P.info? f.type with
    | none => rw [hi] at h1; exact absurd rfl h1
    | some inf => simp [List.mapM_cons, hi, ih]

theorem vBld_sound (hte : TEok P te) {t : TypeId} {ps : List (Nat × A)} (h : (vBld te t ps).obl) {vs : List (Nat × Value)} (hr : RepP ok ρ w ps vs) (hs : SureP vs ps) :
    (vBld te t ps).Is P (Instr.build t vs.toArray) ok ρ w := by
  unfold vBld at h ⊢
  split at h
  · rename_i i hi
    have hok := find_ok hte hi
    have hk := hok.kind
    split at h
    · rename_i fs e
      rw [e] at hk
      obtain ⟨h1, h2, h3, h4, h5⟩ := hk
      split at h
      · rename_i cs hb
        obtain ⟨f, hf, _, _, hz⟩ := hok.info
        have hsz : ∀ g ∈ (P.fieldsOf t).toList, ((P.info? g.type).map (·.size)).getD 0 ≠ 0 := by
          intro g hg
          have hm : (g.offset, g.type) ∈ fs := by rw [← h2]; exact List.mem_map.2 ⟨g, hg, rfl⟩
          have := List.all_eq_true.1 h5 _ hm
          simpa using this
        have hpl := mapM_places hsz
        obtain ⟨arr', h6, h7⟩ := bld_sound (ok := ok) (ρ := ρ) (w := w) hte (fs := fs) (place := fun i => (((P.fieldsOf t).toList.map fun f => (f.offset, ((P.info? f.type).map (·.size)).getD 0)).toArray)[i]?) (by
          intro j off ty ti hj hti
          rw [← h2, List.getElem?_map] at hj
          obtain ⟨g, hg, hge⟩ := Option.map_eq_some_iff.1 hj
          cases hge
          obtain ⟨f', hf', hs', _⟩ := (find_ok hte hti).info
          simp only [List.getElem?_toArray, List.getElem?_map, hg, Option.map_some, hf', hs', Option.getD_some]) (arr := i.zero.toArray) hb hr hs (by simpa using repL_lits i.zero)
        have hbuilt : P.built t vs = some arr' := by
          unfold Program.built
          rw [hf, h1]
          simp only [hz, hpl, hok.zeroCells]
          exact h6
        exact .quiet (run_build w t vs.toArray arr' (by simpa using hbuilt)) ⟨arr'.toList, by simp, h7⟩ trivial
      · exact h.elim
    · exact h.elim
  · exact h.elim

/-! ### A slice built of its elements -/
def elems {α : Type} (R : Rd α) : Nat → List (Nat × A) → Option (List α)
  | _, [] => some []
  | k, (i, a) :: r => match Nat.beq i k with
    | true => match cellsA a with
      | some cs => match ofL R cs with
        | some (x, []) => match elems R (k + 1) r with
          | some xs => some (x :: xs)
          | none => none
        | _ => none
      | none => none
    | false => none

theorem elems_sound {α : Type} {R : Rd α} : ∀ {k : Nat} {ps : List (Nat × A)} {vs : List (Nat × Value)} {xs : List α} (done rest : List Value), elems R k ps = some xs → RepP ok ρ w ps vs → SureP vs ps → done.length = k * R.n → rest.length = ps.length * R.n →
    ∃ css : List (List Value), css.length = xs.length ∧ ps.length = xs.length ∧ (∀ i (h : i < xs.length), R.is ok w (css.getD i []) xs[i]) ∧ Instr.fill (fun i => some (i * R.n, R.n)) (done ++ rest).toArray vs = some (done ++ css.flatten).toArray
  | k, [], vs, xs, done, rest, h, hr, _, _, hl => by
    rw [show vs = [] from hr]
    cases h
    have : rest = [] := List.length_eq_zero_iff.1 (by simpa using hl)
    subst this
    exact ⟨[], rfl, rfl, fun i h => absurd h (by simp), by simp [Instr.fill]⟩
  | k, (i, a) :: ps, vs, xs, done, rest, h, hr, hs, hd, hl => by
    obtain ⟨v, r, rfl, h1, h2⟩ := hr
    unfold elems at h
    split at h
    · rename_i e0
      have e0 := Nat.eq_of_beq_eq_true e0
      subst e0
      split at h
      · rename_i cs e1
        split at h
        · rename_i x e2
          split at h
          · rename_i ys e3
            cases h
            have hns := cellsA_rep e1 h1 (fun c hc => hs 0 c (by simp [hc]) (i, v) rfl)
            obtain ⟨us, r', e4, h3, h4⟩ := ofL_rep R e2 hns
            have hr0 : r' = [] := h4
            rw [hr0, List.append_nil] at e4
            have hus := R.len h3
            have hl' : rest.length = (ps.length + 1) * R.n := by simpa using hl
            rw [Nat.add_mul, Nat.one_mul] at hl'
            have hs' : SureP r ps := fun j c hj p hp => hs (j + 1) c (by simpa using hj) p (by simpa using hp)
            obtain ⟨css, h5, h6, h7, h8⟩ := elems_sound (done ++ us) (rest.drop R.n) e3 h2 hs' (by rw [List.length_append, hd, hus, Nat.add_mul, Nat.one_mul]) (by rw [List.length_drop]; omega)
            refine ⟨us :: css, by simp [h5], by simp [h6], ?_, ?_⟩
            · intro j hj
              match j, hj with
              | 0, _ => exact h3
              | j + 1, hj => exact h7 j (by simpa using hj)
            · have hsz : v.cells.size = R.n := by
                have := congrArg List.length e4
                simpa [hus] using this
              simp only [Instr.fill]
              rw [if_neg (by simp [hsz, hd]; omega), fill_one, e4]
              have : setV (i * R.n) us (done ++ rest) = (done ++ us) ++ rest.drop R.n := by
                rw [← hd, setV_append, setV_whole us rest (by omega), hus, List.append_assoc]
              rw [show ((done ++ rest).toArray).toList = done ++ rest from rfl, this]
              rw [h8]
              simp
          · cases h
        · cases h
      · cases h
    · cases h

theorem run_buildSlice {t e : TypeId} {ei : TyI} (ht : P.underlying t = some (.slice e)) (he : TyOk P e ei) (_hpos : 0 < ei.size) {α : Type} {R : Rd α} (hn : R.n = ei.size) {ps : List (Nat × A)} {vs : List (Nat × Value)} {xs : List α}
    (h : elems R 0 ps = some xs) (hr : RepP ok ρ w ps vs) (hs : sureP ps = true) (hlim : ps.length * ei.size ≤ 16777216) :
    ∃ css : List (List Value), css.length = xs.length ∧ (∀ i (h : i < xs.length), R.is ok w (css.getD i []) xs[i]) ∧ (Instr.buildSlice t ps.length vs.toArray).run P w = .ok (.slice (some ⟨w.heap.size, 0, none⟩) xs.length xs.length) (w.alloc (.cells css.flatten.toArray e)) := by
  have hS := sureP_sound hs hr
  have hlim' : ¬ ps.length * ei.size > 2 ^ 24 := by
    have : (2 : Nat) ^ 24 = 16777216 := by decide
    omega
  have fin : ∀ (zs : Array Value), zs.size = ps.length * ei.size → ∃ css : List (List Value), css.length = xs.length ∧ ps.length = xs.length ∧ (∀ i (h : i < xs.length), R.is ok w (css.getD i []) xs[i]) ∧ Instr.fill (fun i => some (i * ei.size, ei.size)) zs vs = some css.flatten.toArray := by
    intro zs hz
    obtain ⟨css, h1, h2, h3, h4⟩ := elems_sound (R := R) [] zs.toList h hr hS (by simp) (by simp [hz, hn])
    refine ⟨css, h1, h2, h3, ?_⟩
    simpa [hn] using h4
  by_cases h0 : ps.length * ei.size = 0
  · obtain ⟨css, h1, h2, h3, h4⟩ := fin ((Array.range (ps.length * ei.size)).map (fun j => (#[] : Array Value)[j % (#[] : Array Value).size]!)) (by simp)
    refine ⟨css, h1, h3, ?_⟩
    rw [← h2]
    simp only [Instr.buildSlice, Sem.run_bind, run_underlying ht, Result.andThen_ok, he.sizeOf, if_neg hlim', if_pos h0, Sem.run_pure, h4]
    rfl
  · obtain ⟨css, h1, h2, h3, h4⟩ := fin ((Array.range (ps.length * ei.size)).map (fun j => (ei.zeroV.cells)[j % (ei.zeroV.cells).size]!)) (by simp)
    refine ⟨css, h1, h3, ?_⟩
    rw [← h2]
    simp only [Instr.buildSlice, Sem.run_bind, run_underlying ht, Result.andThen_ok, he.sizeOf, if_neg hlim', if_neg h0, Sem.run_pure, he.zeroValue, h4]
    rfl

/-- The elements' reading, as the table has it. -/
def vElems (te : List (TypeId × TyI)) (t : TypeId) (len : Nat) (ps : List (Nat × A)) : Option (Sigma fun α : Type => Rd α × List α × TypeId) :=
  match find te t with
  | some ti => match ti.k with
    | .slice e => match find te e with
      | some ei => match ei.rd with
        | some ⟨α, R⟩ => match Nat.beq ps.length len, Nat.ble (len * ei.size) 16777216, sureP ps with
          | true, true, true => match elems R 0 ps with
            | some xs => some ⟨α, R, xs, e⟩
            | none => none
          | _, _, _ => none
        | none => none
      | none => none
    | _ => none
  | none => none
theorem vElems_sound (hte : TEok P te) {t e : TypeId} {len : Nat} {ps : List (Nat × A)} {vs : List (Nat × Value)} {α : Type} {R : Rd α} {xs : List α} (h : vElems te t len ps = some ⟨α, R, xs, e⟩) (hr : RepP ok ρ w ps vs) :
    (∃ ei, TyOk P e ei ∧ R.n = ei.size) ∧ P.underlying t = some (.slice e) ∧ xs.length * R.n ≤ 16777216 ∧
    ∃ css : List (List Value), css.length = xs.length ∧ (∀ i (h : i < xs.length), R.is ok w (css.getD i []) xs[i]) ∧ (Instr.buildSlice t len vs.toArray).run P w = .ok (.slice (some ⟨w.heap.size, 0, none⟩) xs.length xs.length) (w.alloc (.cells css.flatten.toArray e)) := by
  unfold vElems at h
  split at h
  · rename_i ti hti
    have hk := (find_ok hte hti).kind
    split at h
    · rename_i e' hek
      rw [hek] at hk
      split at h
      · rename_i ei hei
        have hei := find_ok hte hei
        split at h
        · rename_i α' R' hrd
          split at h
          · rename_i h1 h2 h3
            split at h
            · rename_i xs' hx
              cases h
              have h1 := Nat.eq_of_beq_eq_true h1
              have h2 := Nat.le_of_ble_eq_true h2
              have hn := hei.rdn _ _ hrd
              have hpos : 0 < ei.size := by rw [← hn]; exact R.n_pos
              obtain ⟨css, h4, h5, h6⟩ := run_buildSlice (ok := ok) (ρ := ρ) (w := w) hk hei hpos hn hx hr h3 (by rw [h1]; exact h2)
              rw [h1] at h6
              have hlx : ps.length = xs.length := by
                have hS := sureP_sound h3 hr
                obtain ⟨_, _, h7, _⟩ := elems_sound (R := R) (ok := ok) (w := w) [] (List.replicate (ps.length * R.n) undef) hx hr hS (by simp) (by simp)
                exact h7
              exact ⟨⟨ei, hei, hn⟩, hk, by rw [← hlx, h1, hn]; exact h2, css, h4, h5, h6⟩
            · cases h
          · cases h
        · cases h
      · cases h
    · cases h
  · cases h

theorem heap_new (w : World) (o : Obj) : (w.alloc o).heap[w.heap.size]? = some o := by
  show (w.heap.push o)[w.heap.size]? = _
  simp
theorem below_alloc (w : World) (o : Obj) : Below w.heap.size w (w.alloc o) := (Below.refl _ _).alloc (Nat.le_refl _) _
/-- A new row reads as what it was built of. -/
theorem slOk_new {α : Type} {R : Rd α} {xs : List α} {css : List (List Value)} {e : TypeId} (h1 : css.length = xs.length) (h2 : ∀ i (h : i < xs.length), R.is ok w (css.getD i []) xs[i]) (hlim : xs.length ≤ maxLen) :
    SlOk R.n (fun cs x => R.is (grow ok w) (w.alloc (.cells css.flatten.toArray e)) cs x) (grow ok w) (w.alloc (.cells css.flatten.toArray e)) (.slice (some ⟨w.heap.size, 0, none⟩) xs.length xs.length) xs := by
  refine ⟨_, _, rfl, Nat.le_refl _, hlim, fun i hi => ⟨w.heap.size, 0, css.getD i [], rfl, .inr (Nat.le_refl _), by simp, ⟨R.len (h2 i hi), fun j hj => ?_⟩, R.kept (keeps_below (below_alloc w _)) (h2 i hi)⟩⟩
  have hfl : ∀ c ∈ css, c.length = R.n := by
    intro c hc
    obtain ⟨j, hj, rfl⟩ := List.mem_iff_getElem.1 hc
    have := R.len (h2 j (by omega))
    simpa [List.getD, hj] using this
  have := flatten_at css i j hfl (by omega) hj
  rw [← this]
  simp only [World.cell?, heap_new, Option.isSome_none, Bool.false_eq_true, if_false, List.getElem?_toArray, Nat.zero_add]

def vFull (te : List (TypeId × TyI)) (t : TypeId) (len : Nat) (ps : List (Nat × A)) : Vr :=
  match vElems te t len ps with
  | some ⟨_, R, xs, _⟩ => .ok (.one (.full R xs))
  | none => .bad
theorem small_max {n m : Nat} (hm : 0 < m) (h : n * m ≤ 16777216) : n ≤ maxLen := by
  have : n * 1 ≤ n * m := Nat.mul_le_mul_left _ hm
  unfold maxLen
  omega
theorem vFull_sound (hte : TEok P te) {t : TypeId} {len : Nat} {ps : List (Nat × A)} {vs : List (Nat × Value)} (h : (vFull te t len ps).obl) (hr : RepP ok ρ w ps vs) : (vFull te t len ps).Is P (Instr.buildSlice t len vs.toArray) ok ρ w := by
  unfold vFull at h ⊢
  split at h
  · rename_i α R xs e he
    obtain ⟨_, _, hlim, css, h1, h2, h3⟩ := vElems_sound hte he hr
    exact ⟨⟨_, _, h3, below_alloc _ _, slOk_new h1 h2 (small_max R.n_pos hlim), _, rfl⟩, trivial⟩
  · exact h.elim
end
end Ab
end Go.Proofs.YthlfbpmbkcoclaaDoor
