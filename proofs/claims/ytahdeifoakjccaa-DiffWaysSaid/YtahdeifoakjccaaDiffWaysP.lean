/-
  The law DiffWays, proved: the Go function answers true at every input, and lets its arguments be. No condition.
-/
import Derived.Test.YtahdeifoakjccaaDiffWaysW
import Derived.Test.YtahdeifoakjccaaBase
import Derived.ShutString
import Derived.SliceStrings
namespace Go.Proofs.Ytahdeifoakjccaa.diffWays
open Go.ChangeShapes Go.WideShapes Go.ChangeAt Go.RowKit
open Go.ChangeMaps (open_string shut_string)
theorem own : ownKnob Try.prog.godebug = none := by kernel_rfl
theorem laidOut : laidOutB Try.prog = true := by kernel_rfl
theorem rec0 : Try.prog.readableRec 36 = true := by kernel_rfl
theorem row0 : (36 : TypeId) < Try.prog.types.size := of_decide_eq_true (by kernel_rfl)
set_option maxRecDepth 100000 in
theorem lifted (os : Os) (started : os.Started) (H : Type) (enc : TypeId × Value → H) :
    ReturnsInHanded {} Try.checked os 7 .any (Rows.diffWaysSpec.pre6 enc Try.prog Try.f7 Rows.diffWaysRow.domain false) (Rows.diffWaysSpec.post enc Try.prog Try.f7 false true false false) := by
  refine returnsInHanded_of_change (C := Try.checked) own started (by kernel_rfl) Try.func7
    (ChangeSpec.witness6 (enc := enc) (C := Try.checked) false ⟨#[], #[.slice none 0 0, .slice none 0 0], []⟩ 8 (by kernel_rfl) (by kernel_rfl) (by kernel_rfl) (by kernel_rfl)) ?_
  intro W base args ds gs before hval0 hW hcnd _
  have hval : ∀ (j : Nat) t v, Try.f7.params[j]? = some t → args[j]? = some v → Value.okWide Try.prog W .any base t v := hval0
  have hW' := hW
  obtain ⟨p, q, hA0, hV, rfl, hfz, hnd⟩ := hW
  have hA : DataW.TrodAll enc Try.prog W 0 (fun _ => true) true Try.f7.params.toList args.toList ds p := hA0
  rw [Try.params7] at hA hval
  obtain ⟨v0, vs0, d0, ds0, p0, q0, hargs, rfl, rfl, h0, r0⟩ := trodAll_cons hA
  obtain ⟨v1, vs1, d1, ds1, p1, q1, rfl, rfl, rfl, h1, r1⟩ := trodAll_cons r0
  obtain ⟨rfl, rfl, rfl⟩ := trodAll_nil r1
  obtain rfl : args = #[v0, v1] := by cases args; simp_all
  obtain ⟨rfl, rfl⟩ := trodVars_none hV
  obtain ⟨a0, w0⟩ := Dif.open_rows (hval 0 36 v0 rfl rfl) h0
  obtain ⟨a1, w1⟩ := Dif.open_rows (hval 1 36 v1 rfl rfl) h1
  clear hA0 hval0
  refine (Dif.DiffWays_walk a0 w0 a1 w1 (w := W)).mono fun e W' ⟨he, hb⟩ => ?_
  subst he
  refine ⟨_, rfl, Base.law_post hW' rfl laidOut ?_ ?_ rfl Try.underlying4 hb⟩
  · rw [Try.params7]
    intro t ht
    simp only [List.mem_cons, List.not_mem_nil, or_false] at ht
    rcases ht with rfl | rfl
    · exact ⟨rec0, row0⟩
    · exact ⟨rec0, row0⟩
  · intro ds h
    match ds, h with
    | [d0, d1], _ => rfl

theorem over : Rows.diffWaysRow.holds Try.pinned (OpenSpec.ofChange Rows.diffWaysSpec) :=
  OpenClaim.holds_of_wide 7 Try.f7 rfl rfl rfl rfl rfl rfl rfl ⟨rfl, rfl, rfl, rfl, rfl⟩ rfl rfl rfl rfl rfl (by kernel_rfl) Try.func7 (by kernel_rfl)
    (of_decide_eq_true (by kernel_rfl)) (by unfold Func.isWrapper; first | (rw [if_pos (by decide +kernel)]; kernel_rfl) | (rw [if_neg (by decide +kernel)]; exact ⟨rfl, rfl⟩))
    (fun os started H enc _ => lifted os started H enc)

/-- The given statement. -/
theorem proved : Rows.DiffWaysSaid :=
  over
#print axioms proved
end Go.Proofs.Ytahdeifoakjccaa.diffWays
