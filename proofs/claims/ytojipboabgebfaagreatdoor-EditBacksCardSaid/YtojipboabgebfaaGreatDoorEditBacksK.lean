/-
  The law EditBacks, proved: the Go function answers true at every input, and lets its arguments be. No condition.
-/
import Derived.Test.YtojipboabgebfaaGreatDoorCards
import Derived.Test.YtojipboabgebfaaGreatDoorTie
import Derived.ShutString
import Derived.SliceStrings
import Derived.ProofKit
import Derived.OpenShut
import Derived.LaidMore
import Derived.Lay
import Derived.SevenTiedAt
import Derived.Stop.Joined
import Derived.Test.YtojipboabgebfaaGreatDoorK1
import Derived.Test.YtojipboabgebfaaGreatDoorK2
import Derived.Test.YtojipboabgebfaaGreatDoorK3
import Derived.Test.YtojipboabgebfaaGreatDoorK4
import Derived.Test.YtojipboabgebfaaGreatDoorK5
import Derived.Test.YtojipboabgebfaaGreatDoorK6
import Derived.Test.YtojipboabgebfaaGreatDoorK7
namespace Go.Proofs.YtojipboabgebfaaGreatDoor.editBacks
open Go.ChangeShapes Go.WideShapes Go.ChangeAt Go.RowKit
open Go.ChangeMaps (open_string shut_string)
theorem own : ownKnob Tryz.prog.godebug = none := by kernel_rfl
theorem laidOut : laidOutB Tryz.prog = true := by kernel_rfl
theorem rec0 : Tryz.prog.readableRec 9 = true := by kernel_rfl
theorem row0 : (9 : TypeId) < Tryz.prog.types.size := of_decide_eq_true (by kernel_rfl)
theorem rec1 : Tryz.prog.readableRec 22 = true := by kernel_rfl
theorem row1 : (22 : TypeId) < Tryz.prog.types.size := of_decide_eq_true (by kernel_rfl)
set_option maxRecDepth 100000 in
theorem lifted (os : Os) (started : os.Started) (H : Type) (enc : TypeId × Value → H) :
    ReturnsInHanded {} Tryz.checked os 6 .any (fun w args => (Rows.editBacksSpec.pre enc Tryz.prog Tryz.f6 Rows.editBacksRow.domain false w args ∧ laidMetH Tryz.prog Rows.editBacksRow.laid w) ∧ sizedMet enc Tryz.prog Tryz.f6 (OpenSpec.ofChange Rows.editBacksSpec) false w args) (Rows.editBacksSpec.post enc Tryz.prog Tryz.f6 false true false false) := by
  refine Ab.handed_laidX (C := Tryz.checked) (X := fun w _ => laidMetH Tryz.prog Rows.editBacksRow.laid w) (fun _ _ _ hh h => h.of_heap hh) own started (by kernel_rfl) Tryz.func6
    (ChangeSpec.witness_shaped (enc := enc) (C := Tryz.checked) (os := os) (X := fun w _ => laidMetH Tryz.prog Rows.editBacksRow.laid w) false (Ab.laidWit os Rows.editBacksRow.laid) #[.string ByteArray.empty, .slice none 0 0] 8 (Ab.laidWit_os _ _)
      (World.shaped_of_ZipB (by kernel_rfl) (by kernel_rfl)) (by kernel_rfl) (by kernel_rfl) (by kernel_rfl)
      (laidMetH_of_parts (Ab.laidMet_lay _ (by kernel_rfl) (by kernel_rfl)) (by kernel_rfl))) ?_
  intro W base args ds gs before hval0 hW hsh hL
  have hval : ∀ (j : Nat) t v, Tryz.f6.params[j]? = some t → args[j]? = some v → Value.okWide Tryz.prog W .any base t v := hval0
  have hW' := hW
  obtain ⟨p, q, hA0, hV, rfl, hfz, hnd⟩ := hW
  have hA : DataW.TrodAll enc Tryz.prog W 0 (fun _ => true) true Tryz.f6.params.toList args.toList ds p := hA0
  rw [Tryz.params6] at hA hval
  obtain ⟨v0, vs0, d0, ds0, p0, q0, hargs, rfl, rfl, h0, r0⟩ := trodAll_cons hA
  obtain ⟨v1, vs1, d1, ds1, p1, q1, rfl, rfl, rfl, h1, r1⟩ := trodAll_cons r0
  obtain ⟨rfl, rfl, rfl⟩ := trodAll_nil r1
  obtain rfl : args = #[v0, v1] := by cases args; simp_all
  obtain ⟨rfl, rfl⟩ := trodVars_none hV
  obtain ⟨a0, rfl, rfl, rfl, w0⟩ := open_string Tryz.underlying9 (hval 0 9 v0 rfl rfl) h0
  obtain ⟨a1, w1⟩ := Ab.open_edits (hval 1 22 v1 rfl rfl) h1
  clear hA0 hval0
  refine ((Ab.Q.EditBacks_c a0 a1).2 Ab.AllOk W [_, _] (Ab.globAtH hsh (List.Mem.tail _ (List.Mem.head _)) hL) ⟨_, _, rfl, rfl, ⟨_, _, rfl, w1, rfl⟩⟩).mono fun e W' ⟨u, he, hb, hu⟩ => ?_
  obtain rfl : u = .bool true := hu
  subst he
  refine ⟨_, rfl, Base.law_post hW' rfl laidOut ?_ ?_ rfl Tryz.underlying4 hb⟩
  · rw [Tryz.params6]
    intro t ht
    simp only [List.mem_cons, List.not_mem_nil, or_false] at ht
    rcases ht with rfl | rfl
    · exact ⟨rec0, row0⟩
    · exact ⟨rec1, row1⟩
  · intro ds h
    match ds, h with
    | [d0, d1], _ => rfl
theorem over : Rows.EditBacksSaid :=
  OpenClaim.holds_of_wide 6 Tryz.f6 rfl rfl rfl rfl rfl rfl rfl ⟨rfl, rfl, rfl, rfl, rfl⟩ rfl rfl rfl rfl rfl (by kernel_rfl) Tryz.func6 (by kernel_rfl)
    (of_decide_eq_true (by kernel_rfl)) (by unfold Func.isWrapper; first | (rw [if_pos (by decide +kernel)]; kernel_rfl) | (rw [if_neg (by decide +kernel)]; exact ⟨rfl, rfl⟩))
    (fun os started H enc _ => lifted os started H enc)
theorem proved : Rows.EditBacksCardSaid :=
  Claim7.holds_tied_plain_at .later [] [.data, .handle, .pinned] true _ _ over (fun _ h => by cases h) (by kernel_rfl) (fun _ h => by cases h) editBacks_row_tie rfl ⟨rfl, rfl⟩ (by kernel_rfl) rfl
    (fun f fn hf hfn => by
      obtain rfl : f = 6 := Option.some.inj ((show Tryz.prog.funcNamed "stanzakeep/stanzakeeplaw09.EditBacks" = some 6 by kernel_rfl).symm.trans hf) |>.symm
      obtain rfl : fn = Tryz.f6 := (Option.some.inj (Tryz.func6.symm.trans hfn)).symm
      exact ⟨by kernel_rfl, fun j t ht => by
        rw [Tryz.params6] at ht
        have hm : t ∈ [9, 22] := by simpa using Array.mem_of_getElem? ht
        have hall : ([9, 22].all fun u => !Tryz.prog.wantsStandIn u) = true := by kernel_rfl
        exact (show Tryz.prog.wantsStandIn t = false by simpa using List.all_eq_true.1 hall t hm)⟩)
    (by kernel_rfl)
#print axioms proved
end Go.Proofs.YtojipboabgebfaaGreatDoor.editBacks
