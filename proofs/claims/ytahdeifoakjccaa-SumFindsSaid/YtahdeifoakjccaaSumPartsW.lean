/-
  The walk of the law SumParts. Over every input; no condition but the model's own bounds.
-/
import Derived.Test.YtahdeifoakjccaaSumAsksW
import Derived.ProofKit
import Derived.SliceStrings
namespace Go.Proofs.Ytahdeifoakjccaa
open Go.RowKit
namespace Crc

/-- What SumParts takes of its argument. -/
def Parts (w : World) (v : Value) (ss : List ByteArray) : Prop := Strs w v ss ∧ ss.length ≤ 9223372036854775807 ∧ ∀ s ∈ ss, s.size ≤ maxLen

theorem open_strs {H : Type} {enc : TypeId × Value → H} {W : World} {base : Nat} {v : Value} {d : DataW H} {p : List MemPlace} (hv : Value.okWide Try.prog W .any base 28 v)
    (h : DataW.Trod enc Try.prog W 0 (fun _ => true) true 28 v d p) : ∃ ss, Parts W v ss := by
  obtain ⟨a0, len, cap, rfl⟩ := Go.WideShapes.okWide_slice Try.underlying28 hv
  obtain ⟨fuel, hf⟩ := h
  rcases Go.ChangeShapes.open_strings Try.underlying28 Try.underlying9 (by kernel_rfl) hf with ⟨hcs, hx⟩ | ⟨a, len', cap', ss, hcs, _, hl, hm, hz, hx, hcell, hws⟩
  · simp only [Value.cells, List.cons.injEq, Value.slice.injEq, and_true] at hcs
    obtain ⟨rfl, rfl, rfl⟩ := hcs
    exact ⟨[], ⟨none, 0, rfl, fun i h => absurd h (by simp)⟩, by simp, by simp⟩
  · simp only [Value.cells, List.cons.injEq, Value.slice.injEq, and_true] at hcs
    obtain ⟨rfl, rfl, rfl⟩ := hcs
    simp only [if_true] at hz
    have hlen : (ss.take len).length = len := by rw [List.length_take]; omega
    refine ⟨ss.take len, ?_, by rw [hlen]; unfold maxLen at hm; omega, fun s hs => hws s (List.mem_of_mem_take hs)⟩
    refine ⟨some a, cap, by rw [hlen], fun i hi => ?_⟩
    have hi' : i < ss.length := by rw [hlen] at hi; omega
    have hc := hcell i hi'
    obtain ⟨b, off, spot⟩ := a
    have hspot : spot = none := by
      have h0 := World.cell?_spot (hcell 0 (by omega))
      simpa [Addr.add] using h0
    subst hspot
    rw [Go.WideShapes.add_plain] at hc
    refine ⟨b, off, rfl, ?_⟩
    rw [hc]
    simp [List.getD, hi']

/-- All texts in one. -/
def glue (ss : List ByteArray) : ByteArray := ss.foldl (fun a s => a ++ s) ByteArray.empty
theorem glue_snoc (ss : List ByteArray) (k : Nat) (h : k < ss.length) : glue (ss.take (k + 1)) = glue (ss.take k) ++ ss[k] := by
  unfold glue
  rw [List.take_succ_eq_append_getElem h, List.foldl_append]; rfl
theorem strs_one (w : World) (a : ByteArray) (t : TypeId) : Strs (w.alloc (.cells #[.string a] t)) (.slice (some ⟨w.heap.size, 0, none⟩) 1 1) [a] := by
  refine ⟨_, 1, rfl, ?_⟩
  intro i h
  refine ⟨w.heap.size, 0, rfl, ?_⟩
  rw [World.cell?_alloc_at _ _ _ _ rfl]
  match i, h with
  | 0, _ => rfl
theorem one_sized {a : ByteArray} (ha : a.size ≤ maxLen) : ∀ s ∈ [a], s.size ≤ maxLen := by
  intro s hs
  simp only [List.mem_cons, List.not_mem_nil, or_false] at hs
  subst hs; exact ha
theorem sumT_glue_aux (ss : List ByteArray) : ∀ (x : BitVec 32) (a : ByteArray), addB 0#32 a.data.toList = x → ss.foldl (fun x s => addT x s.data.toList) x = addB 0#32 (ss.foldl (fun a s => a ++ s) a).data.toList := by
  induction ss with
  | nil => intro x a h; exact h.symm
  | cons s r ih =>
    intro x a h
    rw [List.foldl_cons, List.foldl_cons]
    refine ih _ _ ?_
    have e : (a ++ s).data.toList = a.data.toList ++ s.data.toList := by simp
    rw [e, addB_append, h, addT_is]
theorem sumT_glue (ss : List ByteArray) : sumT ss = sumT [glue ss] := by
  have e : sumT [glue ss] = addB 0#32 (glue ss).data.toList := by simp only [sumT, List.foldl_cons, List.foldl_nil]; rw [addT_is]
  rw [e]
  exact sumT_glue_aux ss 0#32 ByteArray.empty (by decide +kernel)

theorem SumParts_walk {v : Value} {w : World} (ss : List ByteArray) (hp : Parts w v ss) :
    Calls Try.prog 4 #[v] w fun e w' => e = .returned (.bool true) ∧ Below w.heap.size w w' := by
  obtain ⟨hv, hl, hs⟩ := hp
  have HA := Lib.hid alive_any
  have HV := Lib.hid hv
  have HS := Lib.hid hs
  have HG := Lib.hid (sumT_glue ss)
  obtain ⟨a, cap, rfl, hc⟩ := hv
  have HC := Lib.hid hc
  clear hs hc
  go_enter Try.func4, Try.ntmps4
  go_wp2_with fail
  refine (HA.out _).mono ?_
  rintro e w1 ⟨rfl, hb1⟩
  go_wp2_with fail
  go_loopw [3, 4, 11] (fun t n i wr => ∃ (k : Nat), k ≤ ss.length ∧ k ≤ 51 ∧ i = .int .i64 k ∧ t = .string (glue (ss.take k)) ∧ n = .int .u32 ((sumT (ss.take k)).toNat : Int) ∧ (glue (ss.take k)).size ≤ 1000 * k ∧ Below w.heap.size w wr) (fun _ _ i _ => ss.length - (intOf i).toNat)
  case atStart => exact ⟨0, by omega, by omega, rfl, rfl, rfl, by simp [glue], hb1⟩
  case round =>
    obtain ⟨k, hk, hk51, rfl, rfl, rfl, hsz, hb⟩ := hrel
    by_cases hlt : k < ss.length
    · obtain ⟨b, off, rfl, hcell0⟩ := HC.out k hlt
      have hcell := cell_later hb hcell0
      clear hcell0
      have HZ := Lib.hid (sumT_snoc ss k hlt)
      have HY := Lib.hid (glue_snoc ss k hlt)
      have HSk := Lib.hid (HS.out _ (List.getElem_mem hlt))
      generalize sumT (ss.take k) = Z at *
      generalize glue (ss.take k) = Y at *
      generalize ss[k] = y at *
      by_cases h50 : 50 < k
      · go_wp2
        go_ret
        exact ⟨rfl, hb⟩
      by_cases h1000 : 1000 < y.size
      · go_wp2
        go_ret
        exact ⟨rfl, hb⟩
      go_wp2_with (go_at_call 13; refine (sum_add Z y _ HSk.out).mono ?_; rintro e w' ⟨rfl, hb'⟩)
      go_roundw
      case rel => exact ⟨k + 1, by omega, by omega, by go_num, by rw [HY.out], by rw [HZ.out], by rw [HY.out, ByteArray.size_append]; omega, hb.trans (hb'.mono hb.size)⟩
      case measure => simp [intOf]; omega
    · obtain rfl : k = ss.length := by omega
      have hsz2 : (glue ss).size ≤ maxLen := by rw [List.take_length] at hsz; unfold maxLen; omega
      have HS2 := Lib.hid (one_sized hsz2)
      clear hsz2 hsz
      have hT : (Value.string (glue (ss.take ss.length))) = .string (glue ss) := by rw [List.take_length]
      have hU : (Value.int .u32 ((sumT (ss.take ss.length)).toNat : Int)) = .int .u32 ((sumT ss).toNat : Int) := by rw [List.take_length]
      rw [hT, hU]
      clear hT hU
      go_wp2_with fail
      refine (sum_sum _ ss _ (HV.out.below hb) hl HS.out).mono ?_
      rintro e w2 ⟨rfl, hb2⟩
      go_wp2_with fail
      refine (sum_sum _ [glue ss] _ (strs_one _ _ _) (by simp) HS2.out).mono ?_
      rintro e w3 ⟨rfl, hb3⟩
      rw [← HG.out]
      go_wp2_with fail
      refine (sum_sum _ [glue ss] _ (strs_one _ _ _) (by simp) HS2.out).mono ?_
      rintro e w4 ⟨rfl, hb4⟩
      rw [← HG.out]
      go_wp2_with fail
      refine (Figures_any _ _).mono ?_
      rintro e w5 ⟨rfl, hb5⟩
      have k2 : Below w.heap.size w w2 := hb.trans (hb2.mono hb.size)
      have k3 := via_alloc k2 k2.size hb3
      have k4 := via_alloc k3 k3.size hb4
      have k5 : Below w.heap.size w w5 := k4.trans (hb5.mono k4.size)
      go_wp2_with fail
      refine (Is_any _ _ ss _ (HV.out.below k5) hl HS.out).mono ?_
      rintro e w6 ⟨rfl, hb6⟩
      go_wp2
      go_ret
      exact ⟨rfl, k5.trans (hb6.mono k5.size)⟩
end Crc
end Go.Proofs.Ytahdeifoakjccaa
