/-
  (*strings.Builder).String, abstractly.
-/
import Derived.Test.YthlfbpmbkcoclaaDoorAbBld
import Derived.Test.YthlfbpmbkcoclaaDoorAbStr
namespace Go.Proofs.YthlfbpmbkcoclaaDoor
open Go.RowKit
namespace Ab

theorem grew_none {w w' : World} {r : Option Nat} (h : Grew w w' none) : Grew w w' r := ⟨h.os, h.tape, h.output, h.size, fun k hk _ => h.block k hk (by simp)⟩
theorem string_calls (b : Nat) (p v : Value) (s : ByteArray) (w : World) (hbk : w.heap[b]? = some (.cells #[p, v] 118 (0, 0))) (hown : w.ownsRow 0 5 1 v s.size (Lib.strCells s)) :
    Calls Tryd.prog 82 #[.pointer (some ⟨b, 0, none⟩)] w fun e w' => e = .returned (.string s) ∧ Grew w w' (blk (some v)) := by
  have hs : s = ⟨s.data.toList.toArray⟩ := by cases s; simp
  have hsz : s.size = s.data.toList.length := by cases s; rfl
  rcases hown.2 with ⟨rfl, hz⟩ | ⟨g, cap, cur, rfl, _, hg, hnc, hcm, hcs, htake⟩
  · have hl : s.data.toList = [] := List.eq_nil_of_length_eq_zero (by rw [← hsz]; exact hz)
    rw [hl] at hs
    refine (string_nil b p w hbk).mono ?_
    rintro e w' ⟨rfl, h⟩
    exact ⟨by rw [hs], h⟩
  · by_cases h0 : s.size = 0
    · have hl : s.data.toList = [] := List.eq_nil_of_length_eq_zero (by rw [← hsz]; exact h0)
      rw [hl] at hs
      rw [h0] at hbk
      by_cases hc : cap = 0
      · subst hc
        refine (string_noroom b g p cur w hbk hg).mono ?_
        rintro e w' ⟨rfl, h⟩
        exact ⟨by rw [hs], h⟩
      · refine (string_room b g cap p w hc hbk).mono ?_
        rintro e w' ⟨rfl, h⟩
        exact ⟨by rw [hs], h⟩
    · rw [hsz] at hbk hnc hown
      refine (string_some b g cap cur p s.data.toList w (fun e => h0 (by rw [hsz, e]; rfl)) hbk hg hnc hcm hcs hown).mono ?_
      rintro e w' ⟨rfl, h⟩
      exact ⟨by rw [← hs], h⟩

/-- The builder is used up: its bytes are frozen. -/
theorem string_o (u : Bool) (s : ByteArray) : ACallO Tryd.prog 82 [.one (.own 0 0)] (bldO u (intsOf s)) 2 (is s) [] 2 := by
  refine ⟨⟨_, Tryd.func82, rfl, rfl⟩, fun cx ρ w vs hN hnx hw hs hvs => ?_⟩
  obtain ⟨b, cs, hρ, hh, hcs⟩ := hs.obs (0, .box 118 [.nself u 0, .vec 1]) (by simp)
  obtain ⟨p, r, rfl, hp, v, r2, rfl, hv, hr⟩ := hcs
  rw [show r2 = [] from hr] at hh
  obtain ⟨q, r3, rfl, ⟨b', hb1, hb2⟩, hr3⟩ := hvs
  rw [hρ] at hb1
  simp only [Option.some.injEq, Value.pointer.injEq, Addr.mk.injEq, and_true] at hb1
  subst hb1
  rw [show r3 = [] from hr3, hb2]
  have hh : w.heap[b]? = some (.cells #[p, v] 118 (0, 0)) := hh
  obtain ⟨v', hv', css, h1, h2, h3⟩ := hs.obs (1, .vec 5 (.int .u8) (intsOf s)) (by simp)
  have hv1 : ρ 1 = some v := hv.1
  rw [show ρ 1 = some v' from hv'] at hv1
  obtain rfl := Option.some.inj hv1
  have hc : css = (intsOf s).map fun n => [Value.int .u8 n] := by
    apply List.ext_getElem
    · simp [h1]
    · intro i hi hi'
      have hlt : i < (intsOf s).length := by rw [← h1]; exact hi
      have h4 : css.getD i [] = [.int .u8 (intsOf s)[i]] := h2 i hlt
      simp only [List.getD, List.getElem?_eq_getElem hi, Option.getD_some] at h4
      rw [h4, List.getElem_map]
  have hown : w.ownsRow 0 5 1 v' s.size (Lib.strCells s) := by
    rw [← flat_ints, ← hc, ← intsOf_length]
    exact h3
  refine (string_calls b p v' s w hh hown).mono ?_
  rintro e w' ⟨rfl, hg⟩
  refine ⟨_, ρ, rfl, ⟨hs.size, rfl, fun _ => trivial, fun p hp => by (cases hp), List.nodup_nil, fun p hp => by (cases hp), hs.names, hs.nx0, fun p hp => by (cases hp), fun p hp => by (cases hp), ?_, hs.disj, hs.pin, hs.glob⟩, rfl⟩
  refine ⟨by rw [hw]; exact hg.os, by rw [hw]; exact hg.tape, by rw [hw]; exact hg.output, by rw [hw]; exact hg.size, fun k hk hno => ?_⟩
  rw [hw] at hk ⊢
  refine hg.block k hk fun e => ?_
  rcases (hs.low (1, .vec 5 (.int .u8) (intsOf s)) (by simp) k (by rw [show ρ 1 = some v' from hv']; exact e.symm)).2 with h4 | h4
  · rw [hw] at h4; omega
  · exact hno ⟨1, h4⟩
end Ab
end Go.Proofs.YthlfbpmbkcoclaaDoor
