/-
  The walks over sum.Sum, sum.Is and the references' Sum. Over every input; no condition but the model's own bound on a string.
-/
import Derived.Test.YtahdeifoakjccaaSumWalk
import Derived.Test.YtahdeifoakjccaaSumRef
import Derived.WalkSpells
namespace Go.Proofs.Ytahdeifoakjccaa
open Go.RowKit
namespace Crc

/-- The value reads as a slice of these strings. -/
def Strs (w : World) (v : Value) (ss : List ByteArray) : Prop :=
  ∃ a cap, v = .slice a ss.length cap ∧ ∀ i (h : i < ss.length), ∃ b off, a = some ⟨b, off, none⟩ ∧ w.cell? ⟨b, off + i, none⟩ = some (.string ss[i])
theorem Strs.below {w w' : World} {v : Value} {ss : List ByteArray} (h : Strs w v ss) (hb : Below w.heap.size w w') : Strs w' v ss := by
  obtain ⟨a, cap, hv, hc⟩ := h
  refine ⟨a, cap, hv, fun i hi => ?_⟩
  obtain ⟨b, off, ha, hcell⟩ := hc i hi
  exact ⟨b, off, ha, cell_later hb hcell⟩

theorem via_alloc {B : Nat} {w w1 w2 : World} {o : Obj} (h : Below B w w1) (hB : B ≤ w1.heap.size) (h2 : Below (w1.alloc o).heap.size (w1.alloc o) w2) : Below B w w2 :=
  (h.alloc hB _).trans (h2.mono (by simp; omega))
def sumT (ss : List ByteArray) : BitVec 32 := ss.foldl (fun x s => addT x s.data.toList) 0#32

theorem sumT_snoc (ss : List ByteArray) (k : Nat) (h : k < ss.length) : sumT (ss.take (k + 1)) = addT (sumT (ss.take k)) ss[k].data.toList := by
  unfold sumT
  rw [List.take_succ_eq_append_getElem h, List.foldl_append]; rfl

theorem ref_sum (s : ByteArray) (w : World) (hs : s.size ≤ maxLen) :
    Calls Try.prog 11 #[.string s] w fun e w' => e = .returned (.int .u32 ((addB 0#32 s.data.toList).toNat : Int)) ∧ w = w' := by
  have h := ref_add 0#32 s w hs
  have H := Lib.hid h
  clear h
  go_enter Try.func11, Try.ntmps11
  go_wp2_with (go_at_call 14; refine H.out.mono ?_; rintro e w' ⟨rfl, rfl⟩)
  go_ret
  exact ⟨rfl, rfl⟩

theorem sum_sum (v : Value) (ss : List ByteArray) (w : World) (hv : Strs w v ss) (hl : ss.length ≤ 9223372036854775807) (hs : ∀ s ∈ ss, s.size ≤ maxLen) :
    Calls Try.prog 12 #[v] w fun e w' => e = .returned (.int .u32 ((sumT ss).toNat : Int)) ∧ Below w.heap.size w w' := by
  obtain ⟨a, cap, rfl, hc⟩ := hv
  have HC := Lib.hid hc
  have HS := Lib.hid hs
  clear hc hs
  go_enter Try.func12, Try.ntmps12
  go_wp2
  go_loopw [3, 8] (fun t i wr => ∃ (k : Nat), k ≤ ss.length ∧ i = .int .i64 k ∧ t = .int .u32 ((sumT (ss.take k)).toNat : Int) ∧ Below w.heap.size w wr) (fun _ i _ => ss.length - (intOf i).toNat)
  case atStart => exact ⟨0, by omega, rfl, rfl, Below.refl _ _⟩
  case round =>
    obtain ⟨k, hk, rfl, rfl, hb⟩ := hrel
    by_cases hlt : k < ss.length
    · obtain ⟨b, off, rfl, hcell0⟩ := HC.out k hlt
      have hcell := cell_later hb hcell0
      clear hcell0
      have hsk := HS.out _ (List.getElem_mem hlt)
      have HZ := Lib.hid (sumT_snoc ss k hlt)
      have HA := Lib.hid (fun w => sum_add (sumT (ss.take k)) ss[k] w hsk)
      generalize sumT (ss.take k) = Z at *
      generalize ss[k] = y at *
      go_wp2_with (go_at_call 13; refine (HA.out _).mono ?_; rintro e w' ⟨rfl, hb'⟩)
      go_roundw
      case rel => exact ⟨k + 1, by omega, by go_num, by rw [HZ.out], hb.trans (hb'.mono hb.size)⟩
      case measure => simp [intOf]; omega
    · go_wp2
      go_ret
      obtain rfl : k = ss.length := by omega
      exact ⟨ret_u32 (by rw [List.take_length]), hb⟩

theorem u32_bv {n : Int} (h : (Lit.int .u32 n).wf = true) : ∃ x : BitVec 32, n = (x.toNat : Int) := by
  have hx : 0 ≤ n ∧ n ≤ 4294967295 := by simpa [Lit.wf, IntKind.min, IntKind.max, IntKind.signed, IntKind.bits] using h
  exact ⟨BitVec.ofNat 32 n.toNat, by rw [BitVec.toNat_ofNat]; omega⟩

end Crc
end Go.Proofs.Ytahdeifoakjccaa
