/-
  Plain laws on the cheapest ways' cost. No condition.
-/
import Derived.Test.YtahdeifoakjccaaDiffWay
namespace Go.Proofs.Ytahdeifoakjccaa
open Go.RowKit
namespace Dif

/-- The cost, from the lists' last elements on. -/
def edRow (x : Row) (prev : List Row → Nat) (n : Nat) : List Row → Nat
  | [] => n + 1
  | y :: ys => if x = y then prev ys else 1 + min (min (prev ys) (prev (y :: ys))) (edRow x prev n ys)
def ed : List Row → List Row → Nat
  | [] => List.length
  | x :: xs => edRow x (ed xs) xs.length
theorem ed_nil (ys : List Row) : ed [] ys = ys.length := rfl
theorem ed_nil2 (xs : List Row) : ed xs [] = xs.length := by cases xs <;> rfl
theorem ed_cons (x y : Row) (xs ys : List Row) : ed (x :: xs) (y :: ys) = if x = y then ed xs ys else 1 + min (min (ed xs ys) (ed xs (y :: ys))) (ed (x :: xs) ys) := rfl

/-- Next to each other they differ by one at most. -/
theorem ed_near : ∀ (xs ys : List Row), (∀ x, ed (x :: xs) ys ≤ ed xs ys + 1 ∧ ed xs ys ≤ ed (x :: xs) ys + 1) ∧ (∀ y, ed xs (y :: ys) ≤ ed xs ys + 1 ∧ ed xs ys ≤ ed xs (y :: ys) + 1) := by
  intro xs
  induction xs with
  | nil =>
    intro ys
    refine ⟨fun x => ?_, fun y => by rw [ed_nil, ed_nil, List.length_cons]; omega⟩
    induction ys with
    | nil => rw [ed_nil2, ed_nil2]; simp
    | cons y ys ih =>
      rw [ed_cons, ed_nil, ed_nil, List.length_cons]
      rw [ed_nil] at ih
      split <;> omega
  | cons a xs ihx =>
    intro ys
    induction ys with
    | nil =>
      refine ⟨fun x => by rw [ed_nil2, ed_nil2, List.length_cons]; omega, fun y => ?_⟩
      rw [ed_cons, ed_nil2, ed_nil2, List.length_cons]
      have := (ihx []).2 y
      rw [ed_nil2] at this
      split <;> omega
    | cons b ys ihy =>
      have hB : ∀ y, ed (a :: xs) (y :: b :: ys) ≤ ed (a :: xs) (b :: ys) + 1 ∧ ed (a :: xs) (b :: ys) ≤ ed (a :: xs) (y :: b :: ys) + 1 := by
        intro y
        have h1 := (ihx (b :: ys)).1 a
        have h2 := (ihx (b :: ys)).2 y
        rw [ed_cons a y]
        split <;> omega
      refine ⟨fun x => ?_, hB⟩
      have h1 := ihy.2 b
      have h2 := ihy.1 x
      rw [ed_cons x b]
      split <;> omega
theorem ed_both (x y : Row) (xs ys : List Row) : ed (x :: xs) (y :: ys) ≤ ed xs ys + 1 := by
  rw [ed_cons]
  split <;> omega

inductive Ed : List Row → List Row → Nat → Prop
  | nil : Ed [] [] 0
  | keep (x : Row) {xs ys : List Row} {n : Nat} : Ed xs ys n → Ed (x :: xs) (x :: ys) n
  | change (x y : Row) {xs ys : List Row} {n : Nat} : Ed xs ys n → Ed (x :: xs) (y :: ys) (n + 1)
  | drop (x : Row) {xs ys : List Row} {n : Nat} : Ed xs ys n → Ed (x :: xs) ys (n + 1)
  | add (y : Row) {xs ys : List Row} {n : Nat} : Ed xs ys n → Ed xs (y :: ys) (n + 1)
theorem Ed.le {xs ys : List Row} {n : Nat} (h : Ed xs ys n) : ed xs ys ≤ n := by
  induction h with
  | nil => exact Nat.le_refl _
  | keep x _ ih => rw [ed_cons, if_pos rfl]; exact ih
  | @change x y xs ys _ _ ih => have := ed_both x y xs ys; exact Nat.le_trans this (by omega)
  | @drop x xs ys _ _ ih => have := ((ed_near xs ys).1 x).1; exact Nat.le_trans this (by omega)
  | @add y xs ys _ _ ih => have := ((ed_near xs ys).2 y).1; exact Nat.le_trans this (by omega)
theorem ed_adds : ∀ ys : List Row, Ed [] ys ys.length
  | [] => .nil
  | y :: ys => .add y (ed_adds ys)
theorem ed_drops : ∀ xs : List Row, Ed xs [] xs.length
  | [] => .nil
  | x :: xs => .drop x (ed_drops xs)
theorem ed_way : ∀ xs ys : List Row, Ed xs ys (ed xs ys) := by
  intro xs
  induction xs with
  | nil => exact ed_adds
  | cons x xs ihx =>
    intro ys
    induction ys with
    | nil => rw [ed_nil2]; exact ed_drops _
    | cons y ys ihy =>
      rw [ed_cons]
      by_cases h : x = y
      · subst h; rw [if_pos rfl]; exact .keep x (ihx ys)
      · rw [if_neg h]
        have h1 := ihx ys
        have h2 := ihx (y :: ys)
        rcases Nat.le_total (ed xs ys) (ed xs (y :: ys)) with ha | ha
        · rw [Nat.min_eq_left ha]
          rcases Nat.le_total (ed xs ys) (ed (x :: xs) ys) with hb | hb
          · rw [Nat.min_eq_left hb, Nat.add_comm]; exact .change x y h1
          · rw [Nat.min_eq_right hb, Nat.add_comm]; exact .add y ihy
        · rw [Nat.min_eq_right ha]
          rcases Nat.le_total (ed xs (y :: ys)) (ed (x :: xs) ys) with hb | hb
          · rw [Nat.min_eq_left hb, Nat.add_comm]; exact .drop x h2
          · rw [Nat.min_eq_right hb, Nat.add_comm]; exact .add y ihy
theorem Ed.symm {xs ys : List Row} {n : Nat} (h : Ed xs ys n) : Ed ys xs n := by
  induction h with
  | nil => exact .nil
  | keep x _ ih => exact .keep x ih
  | change x y _ ih => exact .change y x ih
  | drop x _ ih => exact .add x ih
  | add y _ ih => exact .drop y ih
theorem ed_symm (xs ys : List Row) : ed xs ys = ed ys xs := Nat.le_antisymm (ed_way ys xs).symm.le (ed_way xs ys).symm.le
theorem Ed.same {xs ys : List Row} {n : Nat} (h : Ed xs ys n) : n = 0 → xs = ys := by
  induction h with
  | nil => intro _; rfl
  | keep x _ ih => intro h; rw [ih h]
  | change x y _ ih => intro h; omega
  | drop x _ ih => intro h; omega
  | add y _ ih => intro h; omega
theorem ed_self : ∀ xs : List Row, Ed xs xs 0
  | [] => .nil
  | x :: xs => .keep x (ed_self xs)
theorem ed_zero (xs ys : List Row) : ed xs ys = 0 ↔ xs = ys :=
  ⟨fun h => (ed_way xs ys).same h, fun h => by subst h; exact Nat.le_zero.1 (ed_self xs).le⟩
theorem Ed.compose {xs ys : List Row} {m : Nat} (h : Ed xs ys m) : ∀ {zs : List Row} {n : Nat}, Ed ys zs n → ∃ k, k ≤ m + n ∧ Ed xs zs k := by
  induction h with
  | nil => intro zs n h2; exact ⟨n, by omega, h2⟩
  | drop x h ih => intro zs n h2; obtain ⟨k, hk, he⟩ := ih h2; exact ⟨k + 1, by omega, .drop x he⟩
  | @keep x xs ys m h ih =>
    intro zs n h2
    generalize hys : x :: ys = l at h2
    induction h2 with
    | nil => cases hys
    | keep y h2 _ => cases hys; obtain ⟨k, hk, he⟩ := ih h2; exact ⟨k, by omega, .keep x he⟩
    | change y z h2 _ => cases hys; obtain ⟨k, hk, he⟩ := ih h2; exact ⟨k + 1, by omega, .change x z he⟩
    | drop y h2 _ => cases hys; obtain ⟨k, hk, he⟩ := ih h2; exact ⟨k + 1, by omega, .drop x he⟩
    | add z h2 ih2 => obtain ⟨k, hk, he⟩ := ih2 hys; exact ⟨k + 1, by omega, .add z he⟩
  | @change x y xs ys m h ih =>
    intro zs n h2
    generalize hys : y :: ys = l at h2
    induction h2 with
    | nil => cases hys
    | keep y h2 _ => cases hys; obtain ⟨k, hk, he⟩ := ih h2; exact ⟨k + 1, by omega, .change x _ he⟩
    | change y z h2 _ => cases hys; obtain ⟨k, hk, he⟩ := ih h2; exact ⟨k + 1, by omega, .change x z he⟩
    | drop y h2 _ => cases hys; obtain ⟨k, hk, he⟩ := ih h2; exact ⟨k + 1, by omega, .drop x he⟩
    | add z h2 ih2 => obtain ⟨k, hk, he⟩ := ih2 hys; exact ⟨k + 1, by omega, .add z he⟩
  | @add y xs ys m h ih =>
    intro zs n h2
    generalize hys : y :: ys = l at h2
    induction h2 with
    | nil => cases hys
    | keep y h2 _ => cases hys; obtain ⟨k, hk, he⟩ := ih h2; exact ⟨k + 1, by omega, .add _ he⟩
    | change y z h2 _ => cases hys; obtain ⟨k, hk, he⟩ := ih h2; exact ⟨k + 1, by omega, .add z he⟩
    | drop y h2 _ => cases hys; obtain ⟨k, hk, he⟩ := ih h2; exact ⟨k, by omega, he⟩
    | add z h2 ih2 => obtain ⟨k, hk, he⟩ := ih2 hys; exact ⟨k + 1, by omega, .add z he⟩
theorem ed_third (xs ys zs : List Row) : ed xs ys ≤ ed xs zs + ed zs ys := by
  obtain ⟨k, hk, he⟩ := (ed_way xs zs).compose (ed_way zs ys)
  exact Nat.le_trans he.le hk
theorem Ed.bound {xs ys : List Row} {n : Nat} (h : Ed xs ys n) : xs.length ≤ ys.length + n ∧ ys.length ≤ xs.length + n := by
  induction h with
  | nil => simp
  | keep x _ ih => simp only [List.length_cons]; omega
  | change x y _ ih => simp only [List.length_cons]; omega
  | drop x _ ih => simp only [List.length_cons]; omega
  | add y _ ih => simp only [List.length_cons]; omega
theorem ed_max : ∀ (xs ys : List Row), ed xs ys ≤ max xs.length ys.length := by
  intro xs
  induction xs with
  | nil => intro ys; rw [ed_nil]; omega
  | cons x xs ih =>
    intro ys
    cases ys with
    | nil => rw [ed_nil2]; omega
    | cons y ys =>
      have := ed_both x y xs ys
      have := ih ys
      simp only [List.length_cons]
      omega
theorem cst_ed (xs ys : List Row) : ∀ i j, i ≤ xs.length → j ≤ ys.length → cst (eqAt xs ys) i j = ed (xs.take i).reverse (ys.take j).reverse := by
  intro i
  induction i with
  | zero =>
    intro j _ hj
    rw [List.take_zero, List.reverse_nil, ed_nil, List.length_reverse, List.length_take]
    show j = _
    omega
  | succ i ih =>
    intro j hi hj
    have e1 : (xs.take (i + 1)).reverse = xs[i] :: (xs.take i).reverse := by rw [List.take_succ_eq_append_getElem (by omega), List.reverse_append]; rfl
    induction j with
    | zero =>
      rw [List.take_zero, List.reverse_nil, ed_nil2, List.length_reverse, List.length_take]
      show i + 1 = _
      omega
    | succ j ihj =>
      have e2 : (ys.take (j + 1)).reverse = ys[j] :: (ys.take j).reverse := by rw [List.take_succ_eq_append_getElem (by omega), List.reverse_append]; rfl
      have h3 := ih (j + 1) (by omega) hj
      have h4 := ihj (by omega)
      rw [e1] at h4
      rw [e2] at h3
      rw [e1, e2, ed_cons, ← h3, ← h4, ← ih j (by omega) (by omega)]
      show (if eqAt xs ys i j = true then cst (eqAt xs ys) i j else _) = _
      have he : eqAt xs ys i j = decide (xs[i] = ys[j]) := by simp [eqAt, List.getD, show i < xs.length by omega, show j < ys.length by omega]
      rw [he]
      by_cases h : xs[i] = ys[j]
      · rw [if_pos (decide_eq_true h), if_pos h]
      · rw [if_neg (by simp [h]), if_neg h]; rfl
/-- What Distance answers. -/
def dist (xs ys : List Row) : Nat := cst (eqAt xs ys) xs.length ys.length
theorem dist_ed (xs ys : List Row) : dist xs ys = ed xs.reverse ys.reverse := by
  unfold dist
  rw [cst_ed xs ys _ _ (Nat.le_refl _) (Nat.le_refl _), List.take_length, List.take_length]
theorem dist_zero (xs ys : List Row) : dist xs ys = 0 ↔ xs = ys := by rw [dist_ed, ed_zero]; exact List.reverse_inj
theorem dist_symm (xs ys : List Row) : dist xs ys = dist ys xs := by rw [dist_ed, dist_ed, ed_symm]
theorem dist_third (xs ys zs : List Row) : dist xs ys ≤ dist xs zs + dist zs ys := by rw [dist_ed, dist_ed, dist_ed]; exact ed_third _ _ _
theorem dist_max (xs ys : List Row) : dist xs ys ≤ max xs.length ys.length := by rw [dist_ed]; have := ed_max xs.reverse ys.reverse; simpa using this
theorem dist_min (xs ys : List Row) : max xs.length ys.length - min xs.length ys.length ≤ dist xs ys := by
  rw [dist_ed]; have := (ed_way xs.reverse ys.reverse).bound; simp only [List.length_reverse] at this; omega
theorem wayU_len (q : Nat → Nat → Bool) (Z : Nat → Nat → Nat) (hZ : ∀ i, Z (i + 1) 0 = Z i 0 + 1) : ∀ f i j, i + j ≤ f → max i j ≤ (wayU q Z f i j).length := by
  intro f
  induction f with
  | zero => intro i j h; omega
  | succ f ih =>
    intro i j h
    rw [wayU]
    split
    · omega
    · rename_i hz
      rw [List.length_cons]
      rcases lastS_range q Z hZ i j (by omega) with ⟨hl, hj⟩ | ⟨hl, hi⟩ | ⟨hl, hi, hj⟩
      · rw [if_pos hl, if_neg (by omega)]
        have := ih i (j - 1) (by omega)
        omega
      · rw [if_neg (by omega), if_pos hl]
        have := ih (i - 1) j (by omega)
        omega
      · rw [if_neg (by omega), if_neg (by omega)]
        have := ih (i - 1) (j - 1) (by omega)
        omega
/-- What Way answers. -/
def wayOf (xs ys : List Row) : List Int := ((wayU (eqAt xs ys) (cst (eqAt xs ys)) (xs.length + ys.length) xs.length ys.length).map Int.ofNat).reverse
theorem wayOf_len (xs ys : List Row) : max xs.length ys.length ≤ (wayOf xs ys).length := by
  have := wayU_len (eqAt xs ys) (cst (eqAt xs ys)) (fun i => by rw [cst_zero, cst_zero]) (xs.length + ys.length) xs.length ys.length (Nat.le_refl _)
  simpa [wayOf] using this
end Dif
end Go.Proofs.Ytahdeifoakjccaa
