/-
  The walk over tabled and Distance. At most 900 rows each.
-/
import Derived.Test.YtahdeifoakjccaaDiffLeast
import Derived.Deep.OwnRows
import Derived.Deep.AppendLies
import Derived.Deep.RegionLaw
import Derived.Deep.RegionHeld3
import Derived.Deep.DeepCutAuto
namespace Go.Proofs.Ytahdeifoakjccaa
open Go.RowKit
namespace Dif
open Rdl

/-! ### What the cheapest ways cost -/
def cstRow (q : Nat → Nat → Bool) (prev : Nat → Nat) (i : Nat) : Nat → Nat
  | 0 => i + 1
  | j + 1 => if q i j then prev j else 1 + min (min (prev j) (prev (j + 1))) (cstRow q prev i j)
def cst (q : Nat → Nat → Bool) : Nat → Nat → Nat
  | 0 => fun j => j
  | i + 1 => cstRow q (cst q i) i
theorem least_cst (q : Nat → Nat → Bool) (Z : Nat → Nat → Nat) (i j : Nat) (h : ∀ r c, (r < i ∨ (r = i ∧ c < j)) → Z r c = cst q r c) : leastS q Z i j = cst q i j := by
  cases i with
  | zero => rfl
  | succ i =>
    cases j with
    | zero => rfl
    | succ j =>
      rw [leastS, cst, cstRow, h i j (by omega), h i (j + 1) (by omega), h (i + 1) j (by omega)]
      rfl
theorem cst_le (q : Nat → Nat → Bool) (i j : Nat) : cst q i j ≤ i + j := by
  induction i generalizing j with
  | zero => show j ≤ 0 + j; omega
  | succ i ih =>
    show cstRow q (cst q i) i j ≤ _
    induction j with
    | zero => show i + 1 ≤ _; omega
    | succ j ihj =>
      rw [cstRow]
      have := ih j
      split <;> omega

/-- The table as it is being made. -/
structure Tbl (w0 wr : World) (B T : Nat) (va vb cv : Value) (gs : List Nat) (m : Nat) (Z : Nat → Nat → Nat) : Prop where
  tab : TabAt wr T va vb cv
  hB : B ≤ T
  own : wr.ownsRow B 40 1 cv gs.length (gs.map fun g => .slice (some ⟨g, 0, none⟩) m m)
  rows : ∀ r (h : r < gs.length), B ≤ gs[r] ∧ wr.rowIs gs[r] 3 m (fun c => .int .i64 (Z r c : Int))
  nd : gs.Nodup
  below : Below B w0 wr

theorem Tbl.reads {w0 wr : World} {B T : Nat} {va vb cv : Value} {gs : List Nat} {m : Nat} {Z : Nat → Nat → Nat} (h : Tbl w0 wr B T va vb cv gs m Z) : Tab wr cv gs.length m Z := by
  rcases h.own.2 with ⟨rfl, h0⟩ | ⟨g, cap, cur, rfl, hbg, hg, hnc, hcm, hcs, htake⟩
  · exact ⟨none, 0, by rw [h0], by omega, by unfold maxLen; omega, fun r hr => by omega⟩
  · refine ⟨some ⟨g, 0, none⟩, cap, rfl, hnc, hcm, fun r hr => ⟨g, 0, gs[r], m, rfl, ?_, fun c hc => (h.rows r hr).2.cell hc⟩⟩
    rw [Nat.zero_add, h.own.cellAt r (by omega)]
    simp [hr]

theorem infoInts : (Try.prog.info? 40).map (fun i => (i.zero, i.size, i.bytes)) = some (some (.slice none 0 0), 1, 24) := by kernel_rfl
theorem infoInt : (Try.prog.info? 3).map (fun i => (i.zero, i.size, i.bytes)) = some (some (.int .i64 0), 1, 8) := by kernel_rfl
theorem makeInts (n : Nat) (h : n ≤ 900) (w : World) : (Instr.makeSlice 40 (.int .i64 ((n : Int) + 1)) (.int .i64 ((n : Int) + 1))).run Try.prog w = .ok (.slice (some ⟨w.heap.size, 0, none⟩) (n + 1) (n + 1)) (w.alloc (.cells (madeCells #[.int .i64 0] (n + 1)) 3)) := by
  have h1 := run_make_row' (P := Try.prog) 40 3 (.int .i64 0) 8 Try.underlying40 infoInt rfl .i64 .i64 (n + 1) (by omega) (by omega) w
  have ec : ((n + 1 : Nat) : Int) = (n : Int) + 1 := by omega
  rw [ec] at h1
  exact h1
theorem tab_lt {w : World} {T : Nat} {va vb cv : Value} (h : TabAt w T va vb cv) : T < w.heap.size := (Array.getElem?_eq_some_iff.1 h).1
theorem tab_free {w : World} {T : Nat} {va vb cv : Value} (h : TabAt w T va vb cv) : w.frozen? ⟨T, 2, none⟩ = false := by
  unfold TabAt at h
  simp [World.frozen?, h]
theorem tab_grow {wr w1 : World} {T : Nat} {va vb cv : Value} {o1 o2 : Obj} (h : TabAt wr T va vb cv) (hne : cv.ownBlock ≠ some T) (hg : (((wr.alloc o1).alloc o2).drew).grownBy w1 cv.ownBlock) : TabAt w1 T va vb cv := by
  have hlt := tab_lt h
  unfold TabAt at *
  rw [hg.block T (by simp; omega) (fun e => hne e.symm)]
  show ((wr.alloc o1).alloc o2).heap[T]? = _
  rw [Below.heap_alloc _ _ _ (by simp; omega), Below.heap_alloc _ _ _ hlt]
  exact h
theorem Tbl.ne {w0 wr : World} {B T : Nat} {va vb cv : Value} {gs : List Nat} {m : Nat} {Z : Nat → Nat → Nat} (h : Tbl w0 wr B T va vb cv gs m Z) : cv.ownBlock ≠ some T := by
  rcases h.own.2 with ⟨rfl, h0⟩ | ⟨g, cap, cur, rfl, hbg, hg, _⟩
  · simp [Value.ownBlock]
  · intro e
    simp only [Value.ownBlock, Option.some.injEq] at e
    subst e
    have ht := h.tab
    unfold TabAt at ht
    rw [ht] at hg
    simp only [Option.some.injEq, Obj.cells.injEq] at hg
    exact absurd hg.2.1 (by decide)
/-- The rows ahead of k as Z has them, row k up to j, nothing behind. -/
def part2 (Z : Nat → Nat → Nat) (k j : Nat) : Nat → Nat → Nat := fun r c => if r < k then Z r c else if c < j then Z k c else 0
theorem tbl_push {w0 wr w1 : World} {B T : Nat} {va vb cv : Value} {gs : List Nat} {n k gg cap : Nat} {q : Nat → Nat → Nat}
    (h : Tbl w0 wr B T va vb cv gs (n + 1) q) (hk : gs.length = k) (hT1 : TabAt w1 T va vb cv)
    (hown1 : w1.ownsRow B 40 1 (.slice (some ⟨gg, 0, none⟩) (gs.length + 1) cap) (gs.length + 1) ((gs.map fun g => Value.slice (some ⟨g, 0, none⟩) (n + 1) (n + 1)) ++ [.slice (some ⟨wr.heap.size, 0, none⟩) (n + 1) (n + 1)]))
    (hgrow : (((wr.alloc (.cells (madeCells #[.int .i64 0] (n + 1)) 3)).alloc (.cells #[.slice (some ⟨wr.heap.size, 0, none⟩) (n + 1) (n + 1)] 40)).drew).grownBy w1 cv.ownBlock)
    (hat : cv.ownBlock = some gg ∨ gg = wr.heap.size + 2) :
    Tbl w0 (w1.setCell ⟨T, 2, none⟩ (.slice (some ⟨gg, 0, none⟩) (gs.length + 1) cap)) B T va vb (.slice (some ⟨gg, 0, none⟩) (gs.length + 1) cap) (gs ++ [wr.heap.size]) (n + 1) (part2 q k 0) := by
  have hlT := tab_lt h.tab
  have hB := h.hB
  have hrl : ∀ r (hr : r < gs.length), gs[r] < wr.heap.size := fun r hr => (h.rows r hr).2.lt
  have hneT : gg ≠ T := by
    intro e
    subst e
    rcases hown1.2 with ⟨h0, _⟩ | ⟨g, c, cur, hv, _, hg, _⟩
    · cases h0
    · simp only [Value.slice.injEq, Option.some.injEq, Addr.mk.injEq, and_true, true_and] at hv
      obtain ⟨rfl, rfl⟩ := hv
      unfold TabAt at hT1
      rw [hT1] at hg
      simp only [Option.some.injEq, Obj.cells.injEq] at hg
      exact absurd hg.2.1 (by decide)
  have hpast : ∀ b, b < wr.heap.size → some b ≠ cv.ownBlock → w1.heap[b]? = wr.heap[b]? := by
    intro b hb hne
    rw [hgrow.block b (by simp; omega) hne]
    show ((wr.alloc _).alloc _).heap[b]? = _
    rw [Below.heap_alloc _ _ _ (by simp; omega), Below.heap_alloc _ _ _ hb]
  have hnew : w1.rowIs wr.heap.size 3 (n + 1) (fun _ => .int .i64 0) := by
    have h0 := World.rowIs_made wr (.int .i64 0) (n + 1) 3
    refine h0.of_block ?_
    have hne : some wr.heap.size ≠ cv.ownBlock := by
      intro e
      have := (h.own.lt _ e.symm).2
      omega
    rw [hgrow.block _ (by simp; omega) hne]
    show ((wr.alloc _).alloc _).heap[_]? = _
    rw [Below.heap_alloc _ _ _ (by simp)]
  have hTn : T ≠ wr.heap.size := by omega
  have hown2 := hown1
  refine ⟨?_, hB, ?_, ?_, ?_, ?_⟩
  · unfold TabAt at *
    simp [World.setCell, Array.getElem?_modify, hT1]
  · refine World.ownsRow.kept (w := w1) (row := some T) ?_ ⟨rfl, rfl, rfl, by simp [World.setCell], fun b _ hb => Below.heap_setCell _ _ _ _ (fun e => hb (by simp [e]))⟩ (Or.inr (by simpa [Value.ownBlock] using hneT))
    simpa using hown2
  · intro r hr
    by_cases hr2 : r < gs.length
    · have := h.rows r hr2
      rw [List.getElem_append_left hr2]
      have hne : some gs[r] ≠ cv.ownBlock := by
        intro e
        rcases h.own.2 with ⟨rfl, _⟩ | ⟨g, c, cur, rfl, _, hg, _⟩
        · cases e
        · simp only [Value.ownBlock, Option.some.injEq] at e
          obtain ⟨c2, hb2, _⟩ := this.2
          rw [e, hg] at hb2
          simp only [Option.some.injEq, Obj.cells.injEq] at hb2
          exact absurd hb2.2.1 (by decide)
      have hneT2 : gs[r] ≠ T := by
        intro e
        obtain ⟨c2, hb2, _⟩ := this.2
        have ht := h.tab
        unfold TabAt at ht
        rw [e, ht] at hb2
        simp only [Option.some.injEq, Obj.cells.injEq] at hb2
        exact absurd hb2.2.1 (by decide)
      refine ⟨this.1, ((this.2.of_block (hpast _ (hrl r hr2) hne)).setOther (by simpa using hneT2) _).congr ?_⟩
      intro c _
      simp [part2, show r < k by omega]
    · have hr3 : r = gs.length := by simp at hr; omega
      subst hr3
      have e : (gs ++ [wr.heap.size])[gs.length] = wr.heap.size := by simp
      rw [e]
      refine ⟨by omega, (hnew.setOther (by simpa using (Ne.symm hTn)) _).congr ?_⟩
      intro c _
      simp [part2, hk]
  · rw [List.nodup_append]
    refine ⟨h.nd, by simp, ?_⟩
    intro a ha b hb
    simp only [List.mem_singleton] at hb
    subst hb
    obtain ⟨r, hr, rfl⟩ := List.mem_iff_getElem.1 ha
    exact Nat.ne_of_lt (hrl r hr)
  · have h1 : Below B w0 (((wr.alloc (.cells (madeCells #[.int .i64 0] (n + 1)) 3)).alloc (.cells #[.slice (some ⟨wr.heap.size, 0, none⟩) (n + 1) (n + 1)] 40)).drew) := ((h.below.alloc (by omega) _).alloc (by simp; omega) _).drew
    exact (h1.grown hgrow (by simp; omega) (fun b hb => (h.own.lt b hb).1)).setCell hB _
theorem part2_le (q : Nat → Nat → Bool) (k j n m : Nat) (hn : n ≤ 1000) (hm : m ≤ 1000) : ∀ r c, r < n → c < m → part2 (cst q) k j r c ≤ 2000 := by
  intro r c hr hc
  unfold part2
  have h1 := cst_le q r c
  by_cases hk : r < k
  · rw [if_pos hk]; omega
  · rw [if_neg hk]
    split
    · have h2 := cst_le q k c
      omega
    · omega
theorem part2_eq (q : Nat → Nat → Bool) (k j : Nat) : ∀ r c, (r < k ∨ (r = k ∧ c < j)) → part2 (cst q) k j r c = cst q r c := by
  intro r c h
  unfold part2
  rcases h with h | ⟨rfl, h⟩
  · rw [if_pos h]
  · rw [if_neg (by omega), if_pos h]
theorem tbl_cell {w0 wr : World} {B T : Nat} {va vb cv : Value} {gs : List Nat} {m : Nat} {Z : Nat → Nat → Nat} (h : Tbl w0 wr B T va vb cv gs m Z) (k : Nat) (hk : gs.length = k + 1) :
    ∃ gc cap, cv = .slice (some ⟨gc, 0, none⟩) (k + 1) cap ∧ wr.cell? ⟨gc, k, none⟩ = some (.slice (some ⟨gs[k]'(by omega), 0, none⟩) m m) := by
  rcases h.own.2 with ⟨rfl, h0⟩ | ⟨g, cap, cur, rfl, hbg, hg, hnc, hcm, hcs, htake⟩
  · omega
  · refine ⟨g, cap, by rw [hk], ?_⟩
    rw [h.own.cellAt k (by omega)]
    simp [show k < gs.length by omega]
theorem Tbl.drewN {w0 wr : World} {B T : Nat} {va vb cv : Value} {gs : List Nat} {m : Nat} {Z : Nat → Nat → Nat} (h : Tbl w0 wr B T va vb cv gs m Z) (n : Nat) : Tbl w0 (wr.drewN n) B T va vb cv gs m Z :=
  ⟨h.tab, h.hB, h.own, h.rows, h.nd, below_drewN h.below n⟩
theorem Tbl.full {w0 wr : World} {B T : Nat} {va vb cv : Value} {gs : List Nat} {m k : Nat} {Z : Nat → Nat → Nat} (h : Tbl w0 wr B T va vb cv gs m (part2 Z k m)) (hk : gs.length = k + 1) : Tbl w0 wr B T va vb cv gs m Z :=
  ⟨h.tab, h.hB, h.own, fun r hr => ⟨(h.rows r hr).1, (h.rows r hr).2.congr fun c hc => by
    unfold part2
    by_cases h1 : r < k
    · rw [if_pos h1]
    · rw [if_neg h1, if_pos hc, show r = k by omega]⟩, h.nd, h.below⟩
theorem tbl_store {w0 wr : World} {B T k j : Nat} {va vb cv : Value} {gs : List Nat} {m : Nat} {Z : Nat → Nat → Nat} (h : Tbl w0 wr B T va vb cv gs m (part2 Z k j)) (hk : gs.length = k + 1) :
    Tbl w0 (wr.setCell ⟨gs[k]'(by omega), j, none⟩ (.int .i64 (Z k j : Int))) B T va vb cv gs m (part2 Z k (j + 1)) := by
  have hrow := h.rows k (by omega)
  obtain ⟨c0, hb0, _⟩ := hrow.2
  have hneT : gs[k]'(by omega) ≠ T := by
    intro e
    have ht := h.tab
    unfold TabAt at ht
    rw [e, ht] at hb0
    simp only [Option.some.injEq, Obj.cells.injEq] at hb0
    exact absurd hb0.2.1 (by decide)
  have hneO : cv.ownBlock = none ∨ cv.ownBlock ≠ some (gs[k]'(by omega)) := by
    rcases h.own.2 with ⟨rfl, h0⟩ | ⟨g, cap, cur, rfl, hbg, hg, _⟩
    · exact Or.inl rfl
    · right
      intro e
      simp only [Value.ownBlock, Option.some.injEq] at e
      rw [← e, hg] at hb0
      simp only [Option.some.injEq, Obj.cells.injEq] at hb0
      exact absurd hb0.2.1 (by decide)
  refine ⟨?_, h.hB, h.own.kept (row := some (gs[k]'(by omega))) ⟨rfl, rfl, rfl, by simp [World.setCell], fun b _ hb => Below.heap_setCell _ _ _ _ (fun e => hb (by simp [e]))⟩ hneO, ?_, h.nd, h.below.setCell hrow.1 _⟩
  · have ht := h.tab
    unfold TabAt at *
    rw [Below.heap_setCell _ _ _ _ (fun e => hneT e.symm)]
    exact ht
  · intro r hr
    have hr1 := h.rows r hr
    by_cases hrk : r = k
    · subst hrk
      refine ⟨hr1.1, (hr1.2.set j _).congr ?_⟩
      intro c hc
      by_cases hcj : c = j
      · subst hcj; simp [part2]
      · have e : part2 Z r j r c = part2 Z r (j + 1) r c := by
          unfold part2
          simp only [Nat.lt_irrefl, if_false]
          by_cases h1 : c < j
          · rw [if_pos h1, if_pos (by omega)]
          · rw [if_neg h1, if_neg (by omega)]
        simp only [if_neg hcj]
        rw [e]
    · have hne : gs[r] ≠ gs[k]'(by omega) := by
        exact (List.pairwise_iff_getElem.1 h.nd) r k hr (by omega) (by omega)
      refine ⟨hr1.1, (hr1.2.setOther (by simpa using hne) _).congr ?_⟩
      intro c hc
      unfold part2
      rw [if_pos (show r < k by omega), if_pos (show r < k by omega)]
theorem tbl_apart {w0 wr : World} {B T gc n cap : Nat} {va vb : Value} {gs : List Nat} {m : Nat} {Z : Nat → Nat → Nat} (h : Tbl w0 wr B T va vb (.slice (some ⟨gc, 0, none⟩) n cap) gs m Z) (k : Nat) (hk : k < gs.length) : gs[k] ≠ T ∧ gs[k] ≠ gc := by
  obtain ⟨c0, hb0, _⟩ := (h.rows k hk).2
  constructor
  · intro e
    have ht := h.tab
    unfold TabAt at ht
    rw [e, ht] at hb0
    simp only [Option.some.injEq, Obj.cells.injEq] at hb0
    exact absurd hb0.2.1 (by decide)
  · intro e
    rcases h.own.2 with ⟨h1, h0⟩ | ⟨g, cap, cur, h1, hbg, hg, _⟩
    · omega
    · simp only [Value.slice.injEq, Option.some.injEq, Addr.mk.injEq, and_true, true_and] at h1
      obtain ⟨rfl, _⟩ := h1
      rw [e, hg] at hb0
      simp only [Option.some.injEq, Obj.cells.injEq] at hb0
      exact absurd hb0.2.1 (by decide)
theorem keep_store {w : World} {T gc gk k j : Nat} {v1 v2 u : Value} (h1 : gk ≠ T) (h2 : gk ≠ gc) (c1 : w.cell? ⟨T, 2, none⟩ = some v1) (c2 : w.cell? ⟨gc, k, none⟩ = some v2) :
    (w.setCell ⟨gk, j, none⟩ u).cell? ⟨T, 2, none⟩ = some v1 ∧ (w.setCell ⟨gk, j, none⟩ u).cell? ⟨gc, k, none⟩ = some v2 := by
  refine ⟨?_, ?_⟩
  · rw [World.cell?_setCell_far _ _ _ _ h1]; exact c1
  · rw [World.cell?_setCell_far _ _ _ _ h2]; exact c2
theorem news1 (w : World) (o : Obj) (x : Value) (t : TypeId) : ∀ j u, [x][j]? = some u → (((w.alloc o).alloc (.cells #[x] t)).drew).cell? ((⟨w.heap.size + 1, 0, none⟩ : Addr).add j) = some u := by
  intro j u hj
  rw [Go.WideShapes.add_plain, Nat.zero_add]
  show ((w.alloc o).alloc (.cells #[x] t)).cell? _ = _
  rw [World.cell?_alloc_at _ _ _ _ (by simp)]
  simpa using hj
theorem tabled_any (va vb : Value) (xs ys : List Row) (w : World) (ha : Sl fields all w va xs) (hb : Sl fields all w vb ys) (hx : xs.length ≤ 900) (hy : ys.length ≤ 900) :
    Calls Try.prog 34 #[va, vb] w fun e w' => ∃ T cv, e = .returned (.pointer (some ⟨T, 0, none⟩)) ∧ TabAt w' T va vb cv ∧ Tab w' cv (xs.length + 1) (ys.length + 1) (cst (eqAt xs ys)) ∧ Below w.heap.size w w' := by
  obtain ⟨a1, cap1, hva, hl1, hc1⟩ := rowAt ha
  obtain ⟨a2, cap2, hvb, hl2, hc2⟩ := rowAt hb
  subst hva
  subst hvb
  have HA := Lib.hid ha
  have HB := Lib.hid hb
  clear ha hb hc1 hc2
  go_enter Try.func34, Try.ntmps34
  go_wp2
  have hst : Tbl w (w.alloc (.cells #[.slice a1 xs.length cap1, .slice a2 ys.length cap2, .slice none 0 0] 63)) w.heap.size w.heap.size (.slice a1 xs.length cap1) (.slice a2 ys.length cap2) (.slice none 0 0) [] (ys.length + 1) (cst (eqAt xs ys)) :=
    ⟨by unfold TabAt; exact heap_alloc_new w _, Nat.le_refl _, World.ownsRow_nil _ _ _ _, fun r h => absurd h (by simp), List.nodup_nil, (Below.refl _ _).alloc (Nat.le_refl _) _⟩
  go_loopw [15] (fun i wr => ∃ (k : Nat) (cv : Value) (gs : List Nat), k ≤ xs.length + 1 ∧ i = .int .i64 k ∧ gs.length = k ∧ Tbl w wr w.heap.size w.heap.size (.slice a1 xs.length cap1) (.slice a2 ys.length cap2) cv gs (ys.length + 1) (cst (eqAt xs ys))) (fun i _ => xs.length + 1 - (intOf i).toNat)
  case atStart => exact ⟨0, _, [], by omega, rfl, rfl, hst⟩
  case round =>
    obtain ⟨k, cv, gs, hk, rfl, hgl, hst⟩ := hrel
    obtain ⟨i0, hi0, hz0, hz1, hz2⟩ := info_parts infoInts
    by_cases hlt : k < xs.length + 1
    · have hmk := makeInts ys.length (by omega)
      obtain ⟨c0, c1, c2⟩ := hst.tab.cell
      have hlT := tab_lt hst.tab
      have hfr := tab_free hst.tab
      have hown := hst.own
      have HS := Lib.hid hst
      clear hst
      generalize hB : w.heap.size = T at *
      have hbT := HS.out.below.size
      have hw1 : IntKind.i64.wrap ((ys.length : Int) + 1) = (ys.length : Int) + 1 := IntWalk.i64_in _ (by omega)
      have hd : decide ((k : Int) < (xs.length : Int) + 1) = true := by simp; omega
      go_upto_region 5 with (fail)
      go_cut [] from 18 to 31 (fun wx => ∃ cv', Tbl w wx T T (.slice a1 xs.length cap1) (.slice a2 ys.length cap2) cv' (gs ++ [wr.heap.size]) (ys.length + 1) (part2 (cst (eqAt xs ys)) k 0))
      case first =>
        go_region_law (refine step_append_lies _ (by rfl) _ _ _ (by rfl) T 40 i0 _ 1 24 Try.underlying61 hi0 hz0 hz1 hz2 rfl (by omega) cv gs.length (gs.map fun g => .slice (some ⟨g, 0, none⟩) (ys.length + 1) (ys.length + 1)) (by rfl) (((hown.alloc _).alloc _).drew) ⟨wr.heap.size + 1, 0, none⟩ 1 1 [.slice (some ⟨wr.heap.size, 0, none⟩) (ys.length + 1) (ys.length + 1)] (by rfl) (by rfl) (news1 _ _ _ _) (by simp [Value.oneCell']) (by omega) (by unfold maxLen; omega) (by omega) (by simp; omega) (wr.heap.size + 2) (by simp) ?_; intro gg cap w1 hown1 hgrow hat hlt1; have hT1 := tab_grow HS.out.tab HS.out.ne hgrow; have d2 := hT1.cell.2.2; have f2 := tab_free hT1)
        all_goals
          go_wp2_with fail
          go_meet
          subst hgl
          exact ⟨_, tbl_push HS.out rfl hT1 hown1 hgrow hat⟩
      case rest =>
      clear c0 c1 c2 hmk hd hw1 hfr hown HS
      obtain ⟨cv', hst⟩ := hcut
      have HG := Lib.hid (show (gs ++ [wr.heap.size]).length = k + 1 by simp [hgl])
      clear hgl
      generalize gs ++ [wr.heap.size] = gs' at *
      go_wp2
      go_loopw [34] (fun i wi => ∃ j : Nat, j ≤ ys.length + 1 ∧ i = .int .i64 j ∧ Tbl w wi T T (.slice a1 xs.length cap1) (.slice a2 ys.length cap2) cv' gs' (ys.length + 1) (part2 (cst (eqAt xs ys)) k j)) (fun i _ => ys.length + 1 - (intOf i).toNat)
      case atStart => exact ⟨0, by omega, rfl, hst⟩
      case round =>
        clear hst
        obtain ⟨j, hj, rfl, hst⟩ := hrel
        by_cases hjl : j < ys.length + 1
        · have hgl := HG.out
          have hlk : k < gs'.length := by omega
          obtain ⟨gc, cap3, rfl, hk3⟩ : ∃ gc cap3, cv' = .slice (some ⟨gc, 0, none⟩) (k + 1) cap3 ∧ wr.cell? ⟨gc, k, none⟩ = some (.slice (some ⟨gs'[k]'hlk, 0, none⟩) (ys.length + 1) (ys.length + 1)) := by
            exact tbl_cell hst k hgl
          have c2 := hst.tab.cell.2.2
          have hrow := (hst.rows k hlk).2
          have d1 := hrow.cell (i := j) hjl
          have d2 := hrow.frozen j
          have HL := Lib.hid (fun nd => least_any T k j gs'.length (ys.length + 1) (.slice a1 xs.length cap1) (.slice a2 ys.length cap2) (.slice (some ⟨gc, 0, none⟩) (k + 1) cap3) xs ys (part2 (cst (eqAt xs ys)) k j) (wr.drewN nd) hst.tab
            (((HA.out.below (by decide) (hB ▸ hst.below : Below w.heap.size w wr))).drewN (by decide) nd) (((HB.out.below (by decide) (hB ▸ hst.below : Below w.heap.size w wr))).drewN (by decide) nd) (hgl ▸ hst.reads) (by omega) (by omega) (by omega) (by omega) (by omega) (by omega) (part2_le (eqAt xs ys) k j gs'.length (ys.length + 1) (by omega) (by omega)))
          have HZ : Hid (leastS (eqAt xs ys) (part2 (cst (eqAt xs ys)) k j) k j = cst (eqAt xs ys) k j) := Lib.hid (least_cst _ _ _ _ (part2_eq (eqAt xs ys) k j))
          obtain ⟨hn1, hn2⟩ := tbl_apart hst k hlk
          have HS := Lib.hid hst
          clear hst hrow
          generalize hgk : gs'[k]'hlk = gk at *
          have HGK := Lib.hid hgk
          clear hgk hgl
          have hd : decide ((j : Int) < (ys.length : Int) + 1) = true := by simp; omega
          go_wp2
          have hI1 : (k : Int) < (k : Int) + 1 := by omega
          have hI2 : (j : Int) < (ys.length : Int) + 1 := by omega
          have hI3 : (0 : Int) ≤ (k : Int) := by omega
          have hI4 : (0 : Int) ≤ (j : Int) := by omega
          go_region_held3 (fun w' => w'.cell? ⟨T, 2, none⟩ = some (.slice (some ⟨gc, 0, none⟩) (k + 1) cap3) ∧ w'.cell? ⟨gc, k, none⟩ = some (.slice (some ⟨gk, 0, none⟩) (ys.length + 1) (ys.length + 1))) (first | go_keep | (refine keep_store hn1 hn2 ?_ ?_ <;> assumption)) (first | (go_at_call 43; refine (HL.out 1).mono ?_; rintro e w' ⟨rfl, nn, rfl⟩))
          all_goals
            rw [HZ.out]
            go_wp2
            go_roundw
            case rel => exact ⟨j + 1, by omega, by go_num, by have h9 := tbl_store HS.out HG.out; rw [HGK.out] at h9; exact h9.drewN _⟩
            case measure => simp [intOf]; omega
        · obtain rfl : j = ys.length + 1 := by omega
          have hgl := HG.out
          go_wp2
          go_roundw
          case rel => exact ⟨k + 1, cv', gs', by omega, by go_num, hgl, hst.full hgl⟩
          case measure => simp [intOf]; omega
    · obtain rfl : k = xs.length + 1 := by omega
      go_wp2
      go_ret
      exact ⟨w.heap.size, cv, rfl, hst.tab, hgl ▸ hst.reads, hst.below⟩

theorem Distance_any (va vb : Value) (xs ys : List Row) (w : World) (ha : Sl fields all w va xs) (hb : Sl fields all w vb ys) (hx : xs.length ≤ 900) (hy : ys.length ≤ 900) :
    Calls Try.prog 20 #[va, vb] w fun e w' => e = .returned (.int .i64 (cst (eqAt xs ys) xs.length ys.length : Int)) ∧ Below w.heap.size w w' := by
  have H := Lib.hid (tabled_any va vb xs ys w ha hb hx hy)
  obtain ⟨a1, cap1, rfl, hl1, hc1⟩ := rowAt ha
  obtain ⟨a2, cap2, rfl, hl2, hc2⟩ := rowAt hb
  clear ha hb hc1 hc2
  go_enter Try.func20, Try.ntmps20
  go_wp2_with fail
  refine H.out.mono ?_
  rintro e w1 ⟨T, cv, rfl, hT, hM, hb1⟩
  obtain ⟨c0, c1, c2⟩ := hT.cell
  obtain ⟨a3, cap3, rfl, hl3, hcap3, hc3⟩ := hM
  obtain ⟨b3, off3, g3, gc3, rfl, c3, s3⟩ := hc3 xs.length (by omega)
  have e1 := s3 ys.length (by omega)
  have k1 : (xs.length : Int) < (xs.length : Int) + 1 := by omega
  have k2 : (ys.length : Int) < (ys.length : Int) + 1 := by omega
  clear hT hc3 s3
  go_wp2
  go_ret
  exact ⟨rfl, hb1⟩
end Dif
end Go.Proofs.Ytahdeifoakjccaa
