/-
  The law SumFinds, proved: the Go function answers true at every input, and lets its arguments be. No condition.
-/
import Derived.Test.YtahdeifoakjccaaSumFindsW
import Derived.Test.YtahdeifoakjccaaBase
import Derived.ShutString
import Derived.SliceStrings
namespace Go.Proofs.Ytahdeifoakjccaa.sumFinds
open Go.ChangeShapes Go.WideShapes Go.ChangeAt Go.RowKit
open Go.ChangeMaps (open_string shut_string)
theorem own : ownKnob Try.prog.godebug = none := by kernel_rfl
theorem laidOut : laidOutB Try.prog = true := by kernel_rfl
theorem rec0 : Try.prog.readableRec 9 = true := by kernel_rfl
theorem row0 : (9 : TypeId) < Try.prog.types.size := of_decide_eq_true (by kernel_rfl)
theorem rec1 : Try.prog.readableRec 3 = true := by kernel_rfl
theorem row1 : (3 : TypeId) < Try.prog.types.size := of_decide_eq_true (by kernel_rfl)
theorem rec2 : Try.prog.readableRec 22 = true := by kernel_rfl
theorem row2 : (22 : TypeId) < Try.prog.types.size := of_decide_eq_true (by kernel_rfl)
set_option maxRecDepth 100000 in
theorem lifted (os : Os) (started : os.Started) (H : Type) (enc : TypeId × Value → H) :
    ReturnsInHanded {} Try.checked os 5 .any (Rows.sumFindsSpec.pre6 enc Try.prog Try.f5 Rows.sumFindsRow.domain false) (Rows.sumFindsSpec.post enc Try.prog Try.f5 false true false false) := by
  refine returnsInHanded_of_change (C := Try.checked) own started (by kernel_rfl) Try.func5
    (ChangeSpec.witness6 (enc := enc) (C := Try.checked) false ⟨#[], #[.string ByteArray.empty, .int .i64 0, .int .u32 0], []⟩ 8 (by kernel_rfl) (by kernel_rfl) (by kernel_rfl) (by kernel_rfl)) ?_
  intro W base args ds gs before hval0 hW hcnd _
  have hval : ∀ (j : Nat) t v, Try.f5.params[j]? = some t → args[j]? = some v → Value.okWide Try.prog W .any base t v := hval0
  have hW' := hW
  obtain ⟨p, q, hA0, hV, rfl, hfz, hnd⟩ := hW
  have hA : DataW.TrodAll enc Try.prog W 0 (fun _ => true) true Try.f5.params.toList args.toList ds p := hA0
  rw [Try.params5] at hA hval
  obtain ⟨v0, vs0, d0, ds0, p0, q0, hargs, rfl, rfl, h0, r0⟩ := trodAll_cons hA
  obtain ⟨v1, vs1, d1, ds1, p1, q1, rfl, rfl, rfl, h1, r1⟩ := trodAll_cons r0
  obtain ⟨v2, vs2, d2, ds2, p2, q2, rfl, rfl, rfl, h2, r2⟩ := trodAll_cons r1
  obtain ⟨rfl, rfl, rfl⟩ := trodAll_nil r2
  obtain rfl : args = #[v0, v1, v2] := by cases args; simp_all
  obtain ⟨rfl, rfl⟩ := trodVars_none hV
  obtain ⟨a0, rfl, rfl, rfl, w0⟩ := open_string Try.underlying9 (hval 0 9 v0 rfl rfl) h0
  obtain ⟨a1, rfl, rfl, rfl, w1⟩ := open_int Try.underlying3 (hval 1 3 v1 rfl rfl) h1
  obtain ⟨a2, rfl, rfl, rfl, w2⟩ := open_int Try.underlying22 (hval 2 22 v2 rfl rfl) h2
  clear hA0 hval0
  refine (Crc.SumFinds_walk a0 w0 a1 w1 a2 w2 (w := W)).mono fun e W' ⟨he, hb⟩ => ?_
  subst he
  refine ⟨_, rfl, Base.law_post hW' rfl laidOut ?_ ?_ rfl Try.underlying4 hb⟩
  · rw [Try.params5]
    intro t ht
    simp only [List.mem_cons, List.not_mem_nil, or_false] at ht
    rcases ht with rfl | rfl | rfl
    · exact ⟨rec0, row0⟩
    · exact ⟨rec1, row1⟩
    · exact ⟨rec2, row2⟩
  · intro ds h
    match ds, h with
    | [d0, d1, d2], _ => rfl

theorem over : Rows.sumFindsRow.holds Try.pinned (OpenSpec.ofChange Rows.sumFindsSpec) :=
  OpenClaim.holds_of_wide 5 Try.f5 rfl rfl rfl rfl rfl rfl rfl ⟨rfl, rfl, rfl, rfl, rfl⟩ rfl rfl rfl rfl rfl (by kernel_rfl) Try.func5 (by kernel_rfl)
    (of_decide_eq_true (by kernel_rfl)) (by unfold Func.isWrapper; first | (rw [if_pos (by decide +kernel)]; kernel_rfl) | (rw [if_neg (by decide +kernel)]; exact ⟨rfl, rfl⟩))
    (fun os started H enc _ => lifted os started H enc)

/-- The given statement. -/
theorem proved : Rows.SumFindsSaid :=
  over
#print axioms proved
end Go.Proofs.Ytahdeifoakjccaa.sumFinds
