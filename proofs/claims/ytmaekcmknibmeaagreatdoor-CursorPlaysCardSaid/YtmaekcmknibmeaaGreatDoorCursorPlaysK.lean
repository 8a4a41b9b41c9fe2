/-
  The law CursorPlays, proved: the Go function answers true at every input, and lets its arguments be. No condition.
-/
import Derived.Test.YtmaekcmknibmeaaGreatDoorCards
import Derived.Test.YtmaekcmknibmeaaGreatDoorTie
import Derived.ShutString
import Derived.SliceStrings
import Derived.ProofKit
import Derived.OpenShut
import Derived.LaidMore
import Derived.Lay
import Derived.SevenTiedAt
import Derived.Stop.Joined
import Derived.Test.YtmaekcmknibmeaaGreatDoorK1
import Derived.Test.YtmaekcmknibmeaaGreatDoorK2
import Derived.Test.YtmaekcmknibmeaaGreatDoorK3
import Derived.Test.YtmaekcmknibmeaaGreatDoorK4
import Derived.Test.YtmaekcmknibmeaaGreatDoorK5
import Derived.Test.YtmaekcmknibmeaaGreatDoorK6
namespace Go.Proofs.YtmaekcmknibmeaaGreatDoor.cursorPlays
open Go.ChangeShapes Go.WideShapes Go.ChangeAt Go.RowKit
open Go.ChangeMaps (open_string shut_string)
theorem own : ownKnob Tryz.prog.godebug = none := by kernel_rfl
theorem laidOut : laidOutB Tryz.prog = true := by kernel_rfl
theorem rec0 : Tryz.prog.readableRec 9 = true := by kernel_rfl
theorem row0 : (9 : TypeId) < Tryz.prog.types.size := of_decide_eq_true (by kernel_rfl)
theorem rec1 : Tryz.prog.readableRec 22 = true := by kernel_rfl
theorem row1 : (22 : TypeId) < Tryz.prog.types.size := of_decide_eq_true (by kernel_rfl)
theorem rec2 : Tryz.prog.readableRec 23 = true := by kernel_rfl
theorem row2 : (23 : TypeId) < Tryz.prog.types.size := of_decide_eq_true (by kernel_rfl)
set_option maxRecDepth 100000 in
theorem lifted (os : Os) (started : os.Started) (H : Type) (enc : TypeId × Value → H) :
    ReturnsInHanded {} Tryz.checked os 3 .any (fun w args => (Rows.cursorPlaysSpec.pre enc Tryz.prog Tryz.f3 Rows.cursorPlaysRow.domain false w args ∧ laidMetH Tryz.prog Rows.cursorPlaysRow.laid w) ∧ sizedMet enc Tryz.prog Tryz.f3 (OpenSpec.ofChange Rows.cursorPlaysSpec) false w args) (Rows.cursorPlaysSpec.post enc Tryz.prog Tryz.f3 false true false false) := by
  refine Ab.handed_laid (C := Tryz.checked) (X := fun w _ => laidMetH Tryz.prog Rows.cursorPlaysRow.laid w) (fun _ _ _ hh h => h.of_heap hh) own started (by kernel_rfl) Tryz.func3
    (ChangeSpec.witness_shaped (enc := enc) (C := Tryz.checked) (os := os) (X := fun w _ => laidMetH Tryz.prog Rows.cursorPlaysRow.laid w) false (World.laidAll Tryz.prog os Rows.cursorPlaysRow.laid) #[.string ByteArray.empty, .slice none 0 0, .slice none 0 0] 8 (World.laidAll_os _ _ _)
      (World.shaped_of_ZipB (by kernel_rfl) (by kernel_rfl)) (by kernel_rfl) (by kernel_rfl) (by kernel_rfl)
      (by rw [MakeChecks.laidMetH_plain _ _ _ (by kernel_rfl)]; exact laidMet_laidAll _ (by kernel_rfl) (by kernel_rfl))) ?_
  intro W base args ds gs before hval0 hW hsh
  have hval : ∀ (j : Nat) t v, Tryz.f3.params[j]? = some t → args[j]? = some v → Value.okWide Tryz.prog W .any base t v := hval0
  have hW' := hW
  obtain ⟨p, q, hA0, hV, rfl, hfz, hnd⟩ := hW
  have hA : DataW.TrodAll enc Tryz.prog W 0 (fun _ => true) true Tryz.f3.params.toList args.toList ds p := hA0
  rw [Tryz.params3] at hA hval
  obtain ⟨v0, vs0, d0, ds0, p0, q0, hargs, rfl, rfl, h0, r0⟩ := trodAll_cons hA
  obtain ⟨v1, vs1, d1, ds1, p1, q1, rfl, rfl, rfl, h1, r1⟩ := trodAll_cons r0
  obtain ⟨v2, vs2, d2, ds2, p2, q2, rfl, rfl, rfl, h2, r2⟩ := trodAll_cons r1
  obtain ⟨rfl, rfl, rfl⟩ := trodAll_nil r2
  obtain rfl : args = #[v0, v1, v2] := by cases args; simp_all
  obtain ⟨rfl, rfl⟩ := trodVars_none hV
  obtain ⟨a0, rfl, rfl, rfl, w0⟩ := open_string Tryz.underlying9 (hval 0 9 v0 rfl rfl) h0
  obtain ⟨a1, w1⟩ := Ab.open_terms (hval 1 22 v1 rfl rfl) h1
  obtain ⟨a2, w2⟩ := Ab.open_acts (hval 2 23 v2 rfl rfl) h2
  clear hA0 hval0
  refine ((Ab.Q.CursorPlays_c a0 a1 a2).2 Ab.AllOk W [_, _, _] (Ab.globAt hsh) ⟨_, _, rfl, rfl, ⟨_, _, rfl, w1, ⟨_, _, rfl, w2, rfl⟩⟩⟩).mono fun e W' ⟨u, he, hb, hu⟩ => ?_
  obtain rfl : u = .bool true := hu
  subst he
  refine ⟨_, rfl, Base.law_post hW' rfl laidOut ?_ ?_ rfl Tryz.underlying4 hb⟩
  · rw [Tryz.params3]
    intro t ht
    simp only [List.mem_cons, List.not_mem_nil, or_false] at ht
    rcases ht with rfl | rfl | rfl
    · exact ⟨rec0, row0⟩
    · exact ⟨rec1, row1⟩
    · exact ⟨rec2, row2⟩
  · intro ds h
    match ds, h with
    | [d0, d1, d2], _ => rfl
theorem over : Rows.CursorPlaysSaid :=
  OpenClaim.holds_of_wide 3 Tryz.f3 rfl rfl rfl rfl rfl rfl rfl ⟨rfl, rfl, rfl, rfl, rfl⟩ rfl rfl rfl rfl rfl (by kernel_rfl) Tryz.func3 (by kernel_rfl)
    (of_decide_eq_true (by kernel_rfl)) (by unfold Func.isWrapper; first | (rw [if_pos (by decide +kernel)]; kernel_rfl) | (rw [if_neg (by decide +kernel)]; exact ⟨rfl, rfl⟩))
    (fun os started H enc _ => lifted os started H enc)
theorem proved : Rows.CursorPlaysCardSaid :=
  Claim7.holds_tied_plain_at .later [] [.data, .pinned] true _ _ over (fun _ h => by cases h) (by kernel_rfl) (fun _ h => by cases h) cursorPlays_row_tie rfl ⟨rfl, rfl⟩ (by kernel_rfl) rfl
    (fun f fn hf hfn => by
      obtain rfl : f = 3 := Option.some.inj ((show Tryz.prog.funcNamed "stanzakeep/stanzakeeplaw19.CursorPlays" = some 3 by kernel_rfl).symm.trans hf) |>.symm
      obtain rfl : fn = Tryz.f3 := (Option.some.inj (Tryz.func3.symm.trans hfn)).symm
      exact ⟨by kernel_rfl, fun j t ht => by
        rw [Tryz.params3] at ht
        have hm : t ∈ [9, 22, 23] := by simpa using Array.mem_of_getElem? ht
        have hall : ([9, 22, 23].all fun u => !Tryz.prog.wantsStandIn u) = true := by kernel_rfl
        exact (show Tryz.prog.wantsStandIn t = false by simpa using List.all_eq_true.1 hall t hm)⟩)
    (by kernel_rfl)
#print axioms proved
end Go.Proofs.YtmaekcmknibmeaaGreatDoor.cursorPlays
