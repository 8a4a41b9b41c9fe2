/-
  The reference's table of costs as it is being made.
-/
import Derived.Test.YtahdeifoakjccaaDiffPlain
namespace Go.Proofs.Ytahdeifoakjccaa
open Go.RowKit
namespace Dif
open Rdl

def dv : Value := .int .i64 0
def rowL (Z : Nat → Nat → Nat) (r j : Nat) : List Int := (List.range j).map fun c => (Z r c : Int)
theorem rowL_len (Z : Nat → Nat → Nat) (r j : Nat) : (rowL Z r j).length = j := by simp [rowL]
theorem rowL_succ (Z : Nat → Nat → Nat) (r j : Nat) : rowL Z r (j + 1) = rowL Z r j ++ [(Z r j : Int)] := by simp [rowL, List.range_succ]

theorem own_int_cell {w : World} {B : Nat} {v : Value} {xs : List Int} (h : Own int all w B 3 v xs) (hl : 0 < xs.length) :
    ∃ g cap, v = .slice (some ⟨g, 0, none⟩) xs.length cap ∧ ∀ c (h : c < xs.length), w.cell? ⟨g, c, none⟩ = some (.int .i64 xs[c]) := by
  obtain ⟨css, hcl, hr, hown⟩ := h
  rcases hown.2 with ⟨_, h0⟩ | ⟨g, cap, cur, hv, _⟩
  · omega
  · refine ⟨g, cap, hv, fun c hc => ?_⟩
    rw [hv] at hown
    rw [hown.cellAt c (by show c < xs.length * 1; omega)]
    have h1 := flatten_at (n := 1) css c 0 (Own.lens hcl hr) (by omega) (by omega)
    rw [Nat.mul_one, Nat.add_zero] at h1
    obtain ⟨e, _⟩ := hr c hc
    rw [h1, e]
    rfl
theorem own_apart {w : World} {B B2 : Nat} {E2 : TypeId} {sz n : Nat} {v v2 : Value} {xs : List Int} {ys : List Value} (h : Own int all w B 3 v xs) (h2 : w.ownsRow B2 E2 sz v2 n ys) (hE : (3 : TypeId) ≠ E2) :
    v.ownBlock = none ∨ v.ownBlock ≠ v2.ownBlock := by
  obtain ⟨css, hcl, hr, hown⟩ := h
  rcases hown.2 with ⟨rfl, h0⟩ | ⟨g, cap, cur, rfl, _, hg, _⟩
  · left; rfl
  · right
    rcases h2.2 with ⟨rfl, h0⟩ | ⟨g2, cap2, cur2, rfl, _, hg2, _⟩
    · simp [Value.ownBlock]
    · simp only [Value.ownBlock, ne_eq, Option.some.injEq]
      intro e
      rw [e, hg2] at hg
      simp only [Option.some.injEq, Obj.cells.injEq] at hg
      exact hE hg.2.1.symm
theorem own_lt {w : World} {B : Nat} {v : Value} {xs : List Int} (h : Own int all w B 3 v xs) : ∀ g, v.ownBlock = some g → B ≤ g ∧ g < w.heap.size := by
  obtain ⟨css, hcl, hr, hown⟩ := h
  exact hown.lt
theorem own_kept1 {w w' : World} {B : Nat} {v : Value} {xs : List Int} {row : Option Nat} (h : Own int all w B 3 v xs) (hg : w.grownBy w' row) (h1 : v.ownBlock = none ∨ v.ownBlock ≠ row) : Own int all w' B 3 v xs := by
  obtain ⟨css, hl, hr, hown⟩ := h
  exact ⟨css, hl, fun i hi => hr i hi, hown.kept hg h1⟩
theorem grown_setCell (w : World) (a : Addr) (v : Value) : w.grownBy (w.setCell a v) (some a.block) :=
  ⟨rfl, rfl, rfl, by simp [World.setCell], fun b _ hb => Below.heap_setCell _ _ _ _ (fun e => hb (by rw [e]))⟩

/-- Done rows only. -/
structure RO (w0 wr : World) (B : Nat) (cv : Value) (rs : List Value) (k m : Nat) (Z : Nat → Nat → Nat) : Prop where
  own : wr.ownsRow B 40 1 cv rs.length rs
  len : rs.length = k
  done : ∀ r, r < k → Own int all wr B 3 (rs.getD r dv) (rowL Z r m)
  below : Below B w0 wr
/-- Done rows, and one of j numbers. -/
structure RT (w0 wr : World) (B : Nat) (cv : Value) (rs : List Value) (k m j : Nat) (Z : Nat → Nat → Nat) : Prop where
  own : wr.ownsRow B 40 1 cv rs.length rs
  len : rs.length = k + 1
  done : ∀ r, r < k → Own int all wr B 3 (rs.getD r dv) (rowL Z r m)
  cur : Own int all wr B 3 (rs.getD k dv) (rowL Z k j)
  nd : ∀ r, r < k → (rs.getD r dv).ownBlock = none ∨ (rs.getD r dv).ownBlock ≠ (rs.getD k dv).ownBlock
  below : Below B w0 wr

theorem RO.drewN {w0 wr : World} {B : Nat} {cv : Value} {rs : List Value} {k m : Nat} {Z : Nat → Nat → Nat} (h : RO w0 wr B cv rs k m Z) (n : Nat) : RO w0 (wr.drewN n) B cv rs k m Z :=
  ⟨h.own, h.len, fun r hr => (h.done r hr).drewN n, below_drewN h.below n⟩
theorem RT.drewN {w0 wr : World} {B : Nat} {cv : Value} {rs : List Value} {k m j : Nat} {Z : Nat → Nat → Nat} (h : RT w0 wr B cv rs k m j Z) (n : Nat) : RT w0 (wr.drewN n) B cv rs k m j Z :=
  ⟨h.own, h.len, fun r hr => (h.done r hr).drewN n, h.cur.drewN n, h.nd, below_drewN h.below n⟩
theorem RT.full {w0 wr : World} {B : Nat} {cv : Value} {rs : List Value} {k m : Nat} {Z : Nat → Nat → Nat} (h : RT w0 wr B cv rs k m m Z) : RO w0 wr B cv rs (k + 1) m Z :=
  ⟨h.own, h.len, fun r hr => by
    rcases Nat.lt_or_ge r k with h1 | h1
    · exact h.done r h1
    · obtain rfl : r = k := by omega
      exact h.cur, h.below⟩
theorem RO.push {w0 wr w1 : World} {B : Nat} {cv cv' : Value} {rs : List Value} {k m : Nat} {Z : Nat → Nat → Nat} (h : RO w0 wr B cv rs k m Z)
    (hown : w1.ownsRow B 40 1 cv' (rs.length + 1) (rs ++ [.slice none 0 0])) (hB : B ≤ wr.heap.size) {o : Obj} (hg : (wr.alloc o).grownBy w1 cv.ownBlock) : RT w0 w1 B cv' (rs ++ [.slice none 0 0]) k m 0 Z := by
  have e : ∀ r, r < k → (rs ++ [Value.slice none 0 0]).getD r dv = rs.getD r dv := fun r hr => by
    have := h.len
    simp [List.getD, List.getElem?_append_left (show r < rs.length by omega)]
  have ek : (rs ++ [Value.slice none 0 0]).getD k dv = .slice none 0 0 := by
    have := h.len
    simp [List.getD, ← this]
  refine ⟨by simpa using hown, by simp [h.len], fun r hr => ?_, ?_, fun r hr => ?_, ?_⟩
  · rw [e r hr]
    exact own_kept1 ((h.done r hr).alloc o) hg (own_apart ((h.done r hr).alloc o) (h.own.alloc o) (by decide))
  · rw [ek]
    exact Own.nil
  · rw [ek]
    cases he : ((rs ++ [Value.slice none 0 0]).getD r dv).ownBlock with
    | none => left; rfl
    | some b => right; simp [Value.ownBlock]
  · exact (h.below.alloc hB o).grown hg (by simp; omega) (fun b hb => (h.own.lt b hb).1)
theorem RT.cell {w0 wr : World} {B : Nat} {cv : Value} {rs : List Value} {k m j : Nat} {Z : Nat → Nat → Nat} (h : RT w0 wr B cv rs k m j Z) :
    ∃ gc cap, cv = .slice (some ⟨gc, 0, none⟩) (k + 1) cap ∧ B ≤ gc ∧ (∀ r, r < k + 1 → wr.cell? ⟨gc, r, none⟩ = some (rs.getD r dv)) ∧ ∀ r, wr.frozen? ⟨gc, r, none⟩ = false := by
  have hl := h.len
  have hown := h.own
  rcases h.own.2 with ⟨_, h0⟩ | ⟨g, cap, cur, hv, hbg, hg, hnc, hcm, hcs, htake⟩
  · omega
  · rw [hl] at hv hown
    rw [hv] at hown
    refine ⟨g, cap, hv, hbg, fun r hr => ?_, fun r => hown.frozenAt r⟩
    rw [hown.cellAt r (by omega)]
    simp [List.getD, show r < rs.length by omega]
theorem row_set {w : World} {B gc cap n k : Nat} {E : TypeId} {rs : List Value} (h : w.ownsRow B E 1 (.slice (some ⟨gc, 0, none⟩) n cap) n rs) (hk : k < n) (v : Value) :
    (w.setCell ⟨gc, k, none⟩ v).ownsRow B E 1 (.slice (some ⟨gc, 0, none⟩) n cap) n (rs.set k v) := by
  refine ⟨by simpa using h.1, ?_⟩
  rcases h.2 with ⟨h0, _⟩ | ⟨g, cap', cur, hv, hbg, hg, hnc, hcm, hcs, htake⟩
  · cases h0
  · right
    simp only [Value.slice.injEq, Option.some.injEq, Addr.mk.injEq, and_true, true_and] at hv
    obtain ⟨rfl, rfl⟩ := hv
    refine ⟨gc, cap, cur.set! k v, rfl, hbg, ?_, hnc, hcm, by simpa using hcs, ?_⟩
    · simp [World.setCell, Array.getElem?_modify, hg]
    · rw [← htake]
      simp [List.take_set]
theorem RT.push {w0 wr w1 : World} {B : Nat} {cv v' : Value} {rs : List Value} {k m j gc cap : Nat} {Z : Nat → Nat → Nat} {x : Int} (h : RT w0 wr B cv rs k m j Z) (hcv : cv = .slice (some ⟨gc, 0, none⟩) (k + 1) cap)
    (hown : Own int all w1 B 3 v' (rowL Z k j ++ [x])) (hx : x = (Z k j : Int)) (hB : B ≤ wr.heap.size) (hg : wr.grownBy w1 (rs.getD k dv).ownBlock)
    (hv : v'.ownBlock = (rs.getD k dv).ownBlock ∨ ∃ g, v'.ownBlock = some g ∧ wr.heap.size ≤ g) : RT w0 (w1.setCell ⟨gc, k, none⟩ v') B cv (rs.set k v') k m (j + 1) Z := by
  subst hx
  have hl := h.len
  have hgc : B ≤ gc := by
    have := (h.own.lt gc (by rw [hcv]; rfl)).1
    exact this
  have e : ∀ r, r < k → (rs.set k v').getD r dv = rs.getD r dv := fun r hr => by
    simp [List.getD, List.getElem?_set, show k ≠ r by omega]
  have ek : (rs.set k v').getD k dv = v' := by simp [List.getD, show k < rs.length by omega]
  have hap := own_apart h.cur h.own (by decide)
  have hown1 : w1.ownsRow B 40 1 cv rs.length rs := h.own.kept hg (by
    rcases hap with h1 | h1
    · rw [h1]; right; rw [hcv]; simp [Value.ownBlock]
    · right; exact fun e => h1 e.symm)
  have hset : w1.grownBy (w1.setCell ⟨gc, k, none⟩ v') (some gc) := grown_setCell _ _ _
  have hcb : cv.ownBlock = some gc := by rw [hcv]; rfl
  have hdone : ∀ r, r < k → Own int all w1 B 3 (rs.getD r dv) (rowL Z r m) := fun r hr => own_kept1 (h.done r hr) hg (h.nd r hr)
  refine ⟨?_, by simpa using hl, fun r hr => ?_, ?_, fun r hr => ?_, ?_⟩
  · rw [hcv, hl] at hown1
    have := row_set hown1 (show k < k + 1 by omega) v'
    simpa [hcv, hl] using this
  · rw [e r hr]
    have h1 := own_apart (hdone r hr) hown1 (by decide)
    rw [hcb] at h1
    exact own_kept1 (hdone r hr) hset h1
  · rw [ek, rowL_succ]
    have h1 := own_apart hown hown1 (by decide)
    rw [hcb] at h1
    exact own_kept1 hown hset h1
  · rw [e r hr, ek]
    rcases hv with hv | ⟨g, hv, hge⟩
    · rw [hv]; exact h.nd r hr
    · cases ho : (rs.getD r dv).ownBlock with
      | none => left; rfl
      | some b =>
        right
        have := own_lt (h.done r hr) b ho
        rw [hv]
        simp only [ne_eq, Option.some.injEq]
        omega
  · exact (h.below.grown hg hB (fun b hb => (own_lt h.cur b hb).1)).setCell hgc _
theorem RO.tab {w0 wr : World} {B : Nat} {cv : Value} {rs : List Value} {k m : Nat} {Z : Nat → Nat → Nat} (h : RO w0 wr B cv rs k m Z) (hm : 0 < m) : Tab wr cv k m Z := by
  have hl := h.len
  have hown := h.own
  rcases h.own.2 with ⟨rfl, h0⟩ | ⟨g, cap, cur, hv, hbg, hg, hnc, hcm, hcs, htake⟩
  · exact ⟨none, 0, by rw [show k = 0 by omega], by omega, by unfold maxLen; omega, fun r hr => by omega⟩
  · rw [hv] at hown
    refine ⟨_, cap, by rw [hv, hl], by omega, hcm, fun r hr => ?_⟩
    obtain ⟨g1, cap1, hv1, hc1⟩ := own_int_cell (h.done r hr) (by rw [rowL_len]; exact hm)
    rw [rowL_len] at hv1
    refine ⟨g, 0, g1, cap1, rfl, ?_, fun c hc => ?_⟩
    · rw [Nat.zero_add, hown.cellAt r (by omega), ← hv1]
      simp [List.getD, show r < rs.length by omega]
    · rw [hc1 c (by rw [rowL_len]; exact hc)]
      simp [rowL]
end Dif
end Go.Proofs.Ytahdeifoakjccaa
