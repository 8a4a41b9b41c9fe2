/-
  The law PrintStanzas, proved: the Go function answers true at every input, and lets its arguments be. No condition.
-/
import Derived.Test.YtlbainbjlibfiaaDoorCards
import Derived.Test.YtlbainbjlibfiaaDoorTie
import Derived.ShutString
import Derived.SliceStrings
import Derived.ProofKit
import Derived.OpenShut
import Derived.LaidMore
import Derived.Lay
import Derived.SevenTiedAt
import Derived.Stop.Joined
import Derived.Test.YtlbainbjlibfiaaDoorK1
import Derived.Test.YtlbainbjlibfiaaDoorK2
import Derived.Test.YtlbainbjlibfiaaDoorK3
import Derived.Test.YtlbainbjlibfiaaDoorK4
import Derived.Test.YtlbainbjlibfiaaDoorK5
import Derived.Test.YtlbainbjlibfiaaDoorK6
namespace Go.Proofs.YtlbainbjlibfiaaDoor.printStanzas
open Go.ChangeShapes Go.WideShapes Go.ChangeAt Go.RowKit
open Go.ChangeMaps (open_string shut_string)
theorem own : ownKnob Tryd.prog.godebug = none := by kernel_rfl
theorem laidOut : laidOutB Tryd.prog = true := by kernel_rfl
theorem rec0 : Tryd.prog.readableRec 24 = true := by kernel_rfl
theorem row0 : (24 : TypeId) < Tryd.prog.types.size := of_decide_eq_true (by kernel_rfl)
set_option maxRecDepth 100000 in
theorem lifted (os : Os) (started : os.Started) (H : Type) (enc : TypeId × Value → H) :
    ReturnsInHanded {} Tryd.checked os 5 .any (fun w args => (Rows.printStanzasSpec.pre enc Tryd.prog Tryd.f5 Rows.printStanzasRow.domain false w args ∧ laidMetH Tryd.prog Rows.printStanzasRow.laid w) ∧ sizedMet enc Tryd.prog Tryd.f5 (OpenSpec.ofChange Rows.printStanzasSpec) false w args) (Rows.printStanzasSpec.post enc Tryd.prog Tryd.f5 false true false false) := by
  refine Ab.handed_laid (C := Tryd.checked) (X := fun w _ => laidMetH Tryd.prog Rows.printStanzasRow.laid w) (fun _ _ _ hh h => h.of_heap hh) own started (by kernel_rfl) Tryd.func5
    (ChangeSpec.witness_shaped (enc := enc) (C := Tryd.checked) (os := os) (X := fun w _ => laidMetH Tryd.prog Rows.printStanzasRow.laid w) false (World.laidAll Tryd.prog os Rows.printStanzasRow.laid) #[.slice none 0 0] 8 (World.laidAll_os _ _ _)
      (World.shaped_of_ZipB (by kernel_rfl) (by kernel_rfl)) (by kernel_rfl) (by kernel_rfl) (by kernel_rfl)
      (by rw [MakeChecks.laidMetH_plain _ _ _ (by kernel_rfl)]; exact laidMet_laidAll _ (by kernel_rfl) (by kernel_rfl))) ?_
  intro W base args ds gs before hval0 hW hsh
  have hval : ∀ (j : Nat) t v, Tryd.f5.params[j]? = some t → args[j]? = some v → Value.okWide Tryd.prog W .any base t v := hval0
  have hW' := hW
  obtain ⟨p, q, hA0, hV, rfl, hfz, hnd⟩ := hW
  have hA : DataW.TrodAll enc Tryd.prog W 0 (fun _ => true) true Tryd.f5.params.toList args.toList ds p := hA0
  rw [Tryd.params5] at hA hval
  obtain ⟨v0, vs0, d0, ds0, p0, q0, hargs, rfl, rfl, h0, r0⟩ := trodAll_cons hA
  obtain ⟨rfl, rfl, rfl⟩ := trodAll_nil r0
  obtain rfl : args = #[v0] := by cases args; simp_all
  obtain ⟨rfl, rfl⟩ := trodVars_none hV
  obtain ⟨a0, w0⟩ := Ab.open_fields (hval 0 24 v0 rfl rfl) h0
  clear hA0 hval0
  refine ((Ab.Q.PrintStanzas_c a0).2 Ab.AllOk W [_] (Ab.globAt hsh) ⟨_, _, rfl, w0, rfl⟩).mono fun e W' ⟨u, he, hb, hu⟩ => ?_
  obtain rfl : u = .bool true := hu
  subst he
  refine ⟨_, rfl, Base.law_post hW' rfl laidOut ?_ ?_ rfl Tryd.underlying4 hb⟩
  · rw [Tryd.params5]
    intro t ht
    simp only [List.mem_cons, List.not_mem_nil, or_false] at ht
    subst ht
    exact ⟨rec0, row0⟩
  · intro ds h
    match ds, h with
    | [d0], _ => rfl
theorem over : Rows.PrintStanzasSaid :=
  OpenClaim.holds_of_wide 5 Tryd.f5 rfl rfl rfl rfl rfl rfl rfl ⟨rfl, rfl, rfl, rfl, rfl⟩ rfl rfl rfl rfl rfl (by kernel_rfl) Tryd.func5 (by kernel_rfl)
    (of_decide_eq_true (by kernel_rfl)) (by unfold Func.isWrapper; first | (rw [if_pos (by decide +kernel)]; kernel_rfl) | (rw [if_neg (by decide +kernel)]; exact ⟨rfl, rfl⟩))
    (fun os started H enc _ => lifted os started H enc)
theorem proved : Rows.PrintStanzasCardSaid :=
  Claim7.holds_tied_plain_at .later [] [.data, .pinned] true _ _ over (fun _ h => by cases h) (by kernel_rfl) (fun _ h => by cases h) printStanzas_row_tie rfl ⟨rfl, rfl⟩ (by kernel_rfl) rfl
    (fun f fn hf hfn => by
      obtain rfl : f = 5 := Option.some.inj ((show Tryd.prog.funcNamed "stanzakeep/stanzakeeplaw06.PrintStanzas" = some 5 by kernel_rfl).symm.trans hf) |>.symm
      obtain rfl : fn = Tryd.f5 := (Option.some.inj (Tryd.func5.symm.trans hfn)).symm
      exact ⟨by kernel_rfl, fun j t ht => by
        rw [Tryd.params5] at ht
        have hm : t ∈ [24] := by simpa using Array.mem_of_getElem? ht
        have hall : ([24].all fun u => !Tryd.prog.wantsStandIn u) = true := by kernel_rfl
        exact (show Tryd.prog.wantsStandIn t = false by simpa using List.all_eq_true.1 hall t hm)⟩)
    (by kernel_rfl)
#print axioms proved
end Go.Proofs.YtlbainbjlibfiaaDoor.printStanzas
