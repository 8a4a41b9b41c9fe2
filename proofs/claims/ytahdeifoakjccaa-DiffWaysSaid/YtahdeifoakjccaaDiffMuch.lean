/-
  The walk over the law's much. No condition.
-/
import Derived.Test.YtahdeifoakjccaaNumMuch
namespace Go.Proofs.Ytahdeifoakjccaa
open Go.RowKit
namespace Dif
open Rdl

abbrev lists : Rd (List (List Row)) := sl rows (by decide)

theorem listAt {ok : Nat → Prop} {w : World} {v : Value} {xs : List (List Row)} (h : Sl rows ok w v xs) :
    ∃ a cap, v = .slice a xs.length cap ∧ xs.length ≤ 9223372036854775807 ∧ ∀ i (h : i < xs.length), ∃ b off r, a = some ⟨b, off, none⟩ ∧ w.cell? ⟨b, off + i, none⟩ = some r ∧ Sl fields ok w r xs[i] := by
  obtain ⟨a, cap, hv, h1, h2, hc⟩ := h
  refine ⟨a, cap, hv, by unfold maxLen at h2; omega, fun i hi => ?_⟩
  obtain ⟨b, off, cs, ha, _, ⟨r, hcs, hr⟩, hcell⟩ := hc i hi
  subst hcs
  have e0 := hcell 0 (by decide)
  refine ⟨b, off, r, ha, ?_, hr⟩
  simpa [rows, sl] using e0

def muchL (l : List Row) : Bool := decide (14 < l.length) || l.any muchB
def muchAll (ls : List (List Row)) : Bool := ls.any muchL

theorem any_step {α : Type} (p : α → Bool) (xs : List α) (k : Nat) (h : k < xs.length) (ht : xs.any p = (xs.drop k).any p) (hf : p xs[k] = false) : xs.any p = (xs.drop (k + 1)).any p := by
  rw [ht, List.drop_eq_getElem_cons h, List.any_cons, hf, Bool.false_or]
theorem any_hit {α : Type} (p : α → Bool) (xs : List α) (k : Nat) (h : k < xs.length) (hf : p xs[k] = true) : xs.any p = true := List.any_eq_true.2 ⟨xs[k], List.getElem_mem h, hf⟩
theorem any_end {α : Type} (p : α → Bool) (xs : List α) (ht : xs.any p = (xs.drop xs.length).any p) : xs.any p = false := by rw [ht, List.drop_length]; rfl

theorem much_any (v : Value) (ls : List (List Row)) (w : World) (hv : Sl rows all w v ls) :
    Calls Try.prog 19 #[v] w fun e w' => e = .returned (.bool (muchAll ls)) ∧ Below w.heap.size w w' := by
  obtain ⟨a, cap, rfl, hla, hca⟩ := listAt hv
  have HA := Lib.hid hca
  clear hca hv
  go_enter Try.func19, Try.ntmps19
  go_wp2
  go_loopw [9] (fun i wr => ∃ (k : Nat), k ≤ ls.length ∧ i = .int .i64 k ∧ Hid (muchAll ls = (ls.drop k).any muchL) ∧ Below w.heap.size w wr) (fun i _ => ls.length - (intOf i).toNat)
  case atStart => exact ⟨0, by omega, rfl, Lib.hid rfl, Below.refl _ _⟩
  case round =>
    obtain ⟨k, hk, rfl, hT, hb⟩ := hrel
    by_cases hlt : k < ls.length
    · obtain ⟨b1, off1, r, rfl, c1, s1⟩ := HA.out k hlt
      have d1 := cell_later hb c1
      have HS := Lib.hid s1
      obtain ⟨a2, cap2, hr2, hla2, hca2⟩ := rowAt (s1.below (by decide) hb)
      subst hr2
      have HC := Lib.hid hca2
      have HY : Hid (muchL ls[k] = true → muchAll ls = true) := Lib.hid (any_hit muchL ls k hlt)
      have HN : Hid (muchL ls[k] = false → muchAll ls = (ls.drop (k + 1)).any muchL) := Lib.hid (any_step muchL ls k hlt hT.out)
      clear hca2 s1 c1
      generalize ls[k] = l at *
      by_cases hbig : 14 < l.length
      · have HR : Hid (muchAll ls = true) := Lib.hid (HY.out (by simp [muchL, hbig]))
        go_wp2
        go_ret
        exact ⟨ret_bool HR.out.symm, hb⟩
      · have HB : Hid (muchL l = l.any muchB) := Lib.hid (by simp [muchL, hbig])
        obtain ⟨wo, hwo⟩ : ∃ wo : World, wo = wr := ⟨_, rfl⟩
        subst hwo
        go_wp2
        go_loopw [18] (fun i wi => ∃ (j : Nat), j ≤ l.length ∧ i = .int .i64 j ∧ Hid (l.any muchB = (l.drop j).any muchB) ∧ Below wo.heap.size wo wi) (fun i _ => l.length - (intOf i).toNat)
        case atStart => exact ⟨0, by omega, rfl, Lib.hid rfl, Below.refl _ _⟩
        case round =>
          obtain ⟨j, hj, rfl, hT2, hbi⟩ := hrel
          by_cases hjl : j < l.length
          · obtain ⟨b3, off3, r3, rfl, c3, s3⟩ := HC.out j hjl
            have d3 := cell_later hbi c3
            have HM := Lib.hid (fun wx (h : Below wo.heap.size wo wx) => Much_any r3 _ wx (s3.below (by decide) h))
            have HY2 : Hid (muchB l[j] = true → l.any muchB = true) := Lib.hid (any_hit muchB l j hjl)
            have HN2 : Hid (muchB l[j] = false → l.any muchB = (l.drop (j + 1)).any muchB) := Lib.hid (any_step muchB l j hjl hT2.out)
            clear s3 c3
            generalize l[j] = f at *
            go_wp2_with fail
            refine (HM.out _ hbi).mono ?_
            rintro e w2 ⟨rfl, hb2⟩
            have hb3 : Below wo.heap.size wo w2 := hbi.trans (hb2.mono hbi.size)
            cases hmf : muchB f with
            | true =>
              have HR : Hid (muchAll ls = true) := Lib.hid (HY.out (by rw [HB.out]; exact HY2.out hmf))
              clear hmf
              go_wp2
              go_ret
              exact ⟨ret_bool HR.out.symm, hb.trans (hb3.mono hb.size)⟩
            | false =>
              have HR := Lib.hid (HN2.out hmf)
              clear hmf
              go_wp2
              go_roundw
              case rel => exact ⟨j + 1, by omega, by go_num, HR, hb3⟩
              case measure => simp [intOf]; omega
          · obtain rfl : j = l.length := by omega
            have HR := Lib.hid (HN.out (by rw [HB.out]; exact any_end muchB l hT2.out))
            go_wp2
            go_roundw
            case rel => exact ⟨k + 1, by omega, by go_num, HR, hb.trans (hbi.mono hb.size)⟩
            case measure => simp [intOf]; omega
    · obtain rfl : k = ls.length := by omega
      go_wp2
      go_ret
      exact ⟨ret_bool (any_end muchL ls hT.out).symm, hb⟩
end Dif
end Go.Proofs.Ytahdeifoakjccaa
