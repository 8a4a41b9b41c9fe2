/-
  The texts of this proof, joined: abstract values, the library, the functions of the program and what they compute (part 5). No condition.
-/
import Derived.Lib.SplitLaws
import Derived.Lib.Join
import Derived.Shelf.Vars
import Derived.KernelRfl
import Derived.Test.YtklhlkhlndhepaaGreatDoorK1
import Derived.Test.YtklhlkhlndhepaaGreatDoorK2
import Derived.Test.YtklhlkhlndhepaaGreatDoorK3
import Derived.Test.YtklhlkhlndhepaaGreatDoorK4
namespace Go.Proofs.YtklhlkhlndhepaaGreatDoor
open Go.RowKit
namespace Ab
set_option maxRecDepth 100000
namespace Q
def SmallF (l : List Fld) : Prop := ∀ f ∈ l, f.1.size ≤ 1000 ∧ f.2.size ≤ 1000
structure GP (p : PSt) : Prop where
  flds : SmallF p.flds
  room : p.lns ≠ [] → p.full = false → p.flds.length < 40
  len : p.flds.length ≤ 40
  its : ∀ x ∈ p.its, SmallF x.2.2 ∧ x.2.2.length ≤ 40
theorem smallF_nil : SmallF [] := fun f hf => by cases hf
theorem flush_gp {p q : PSt} (h : GP p) (hf : flushS p = .inr q) : GP q := by
  unfold flushS at hf
  split at hf
  · cases hf; exact h
  · rename_i h0
    split at hf
    · cases hf
    · split at hf
      · cases hf
      · rename_i h1 h2
        cases hf
        have hr := h.room h0 (by simpa using h2)
        refine ⟨fun f hf => ?_, fun h => absurd rfl h, by simp only [List.length_append, List.length_cons, List.length_nil]; omega, h.its⟩
        rcases List.mem_append.1 hf with hf | hf
        · exact h.flds f hf
        · rw [List.mem_singleton.1 hf]
          rcases unf_cases (p.lns.map ls) with ⟨n, hn, e⟩ | ⟨k, v, e, hk, hv⟩
          · rw [e]; exact ⟨by show (bytes []).size ≤ 1000; decide, by show (bytes []).size ≤ 1000; decide⟩
          · rw [e]
            simp only [bytes_size]
            refine ⟨?_, hv⟩
            unfold keyOk at hk
            simp only [Bool.and_eq_true, decide_eq_true_eq] at hk
            omega
theorem close_gp {q : PSt} (h : GP q) : GP (closeS q) := by
  unfold closeS
  split
  · exact ⟨smallF_nil, fun _ _ => (by show 0 < 40; decide), (by show 0 ≤ 40; decide), h.its⟩
  · refine ⟨smallF_nil, fun _ _ => (by show 0 < 40; decide), (by show 0 ≤ 40; decide), fun x hx => ?_⟩
    rcases List.mem_append.1 hx with hx | hx
    · exact h.its x hx
    · rw [List.mem_singleton.1 hx]
      exact ⟨h.flds, h.len⟩
theorem end_gp {p q : PSt} (h : GP p) (hf : endS p = .inr q) : GP q := by
  unfold endS at hf
  split at hf
  · cases hf
  · rename_i r e
    cases hf
    exact close_gp (flush_gp h e)
theorem begin_gp {p : PSt} (l : Lne) (h : GP p) : GP (beginS p l) := by
  refine ⟨h.flds, fun _ hf => ?_, h.len, h.its⟩
  have := h.len
  unfold beginS at hf
  simp only [Bool.or_eq_false_iff, decide_eq_false_iff_not] at hf
  show p.flds.length < 40
  omega
theorem ahead_gp {p q : PSt} {l : Lne} {k : Int} (h : GP p) (hf : aheadS p l k = .inr q) : GP q := by
  unfold aheadS at hf
  split at hf
  · split at hf
    · cases hf
    · rename_i h0
      have h2 : GP { p with lns := p.lns ++ [l.2.2.1] } := ⟨h.flds, fun _ => h.room h0, h.len, h.its⟩
      split at hf
      · cases hf; exact h2
      · exact flush_gp h2 hf
  · split at hf
    · exact end_gp h hf
    · exact flush_gp h hf
theorem line_gp {p q : PSt} {l : Lne} {k : Int} (h : GP p) (hf : lineS p l k = .inr q) : GP q := by
  unfold lineS at hf
  split at hf
  · cases hf
  · split at hf
    · cases hf
      refine ⟨h.flds, h.room, h.len, fun x hx => ?_⟩
      rcases List.mem_append.1 hx with hx | hx
      · exact h.its x hx
      · rw [List.mem_singleton.1 hx]
        exact ⟨smallF_nil, by show 0 ≤ 40; decide⟩
    · split at hf
      · cases hf
        have := begin_gp l h
        exact ⟨this.flds, this.room, this.len, this.its⟩
      · cases hf
        exact ⟨h.flds, h.room, h.len, h.its⟩
theorem take_gp {p q : PSt} {l : Lne} (h : GP p) (hf : takeS p l = .inr q) : GP q := by
  unfold takeS at hf
  split at hf
  · cases hf
  · rename_i r e
    exact line_gp (ahead_gp h e) hf
theorem run_gp : ∀ (L : List Lne) {p q : PSt}, GP p → runS p L = .inr q → GP q
  | [], p, q, h, hf => by
    cases hf; exact h
  | l :: r, p, q, h, hf => by
    unfold runS at hf
    split at hf
    · cases hf
    · rename_i t e
      exact run_gp r (take_gp h e) hf
theorem items_small {s : ByteArray} {l : List Itm} (hp : parseS s = .inr l) : ∀ x ∈ l, SmallF x.2.2 ∧ x.2.2.length ≤ 40 := by
  unfold parseS at hp
  split at hp
  · cases hp
  · rename_i p e
    split at hp
    · cases hp
    · rename_i q e2
      cases hp
      exact (end_gp (run_gp _ ⟨smallF_nil, fun h => absurd rfl h, by decide, fun x hx => by cases hx⟩ e) e2).its
theorem fldsOk_of {l : List Fld} (h : SmallF l) (hl : l.length ≤ 40) : FldsOk l := ⟨by omega, fun f hf => by have := h f hf; omega⟩
end Q
end Ab
end Go.Proofs.YtklhlkhlndhepaaGreatDoor
namespace Go.Proofs.YtklhlkhlndhepaaGreatDoor
open Go.RowKit
namespace Ab
set_option maxRecDepth 100000
namespace Q
abbrev RLs := List Ent × Int
abbrev rRL : Rd RLs := .st (.sl rEnt) (.int .i64)
theorem parse_ne {s : ByteArray} {at_ n : Int} (h : parseS s = .inl (at_, n)) : n ≠ 0 := by
  rw [parse_ref] at h
  exact runR_ne _ _ _ _ h
theorem rlbox_eq {T : TypeId} {i : Nat} {a b : Int} (h : a = b) : some (Ob.box T [.vec i, .lit (.int .i64 a)]) = some (Ob.box T [.vec i, .lit (.int .i64 b)]) := by rw [h]
theorem refOf_ok (s : ByteArray) (hs : s.size ≤ 60000) {l : List Itm} (hp : parseS s = .inr l) : ACall Tryz.prog 29 [is s] (.tup [(true, toL rRL (numI 1 l, 1 + (cntR l : Int))), (false, [.lit (.int .i64 (-9))]), (false, [.lit (.int .i64 0)])]) := by
  have hpa := refParse_a s hs
  rw [hp] at hpa
  obtain ⟨hl1, hl2⟩ := items_flds hs hp
  refine acall_ofc (rs := [.cell 2 55, .tmp 3, .tmp 4]) Tryz.func29 rfl rfl rfl teOk rfl ?_
  refine acode_seq ?_
  refine acode_region ?_
  refine acode_seq ?_
  refine acode_region ?_
  refine Or.inl ?_
  refine And.intro (rfl) ?_
  refine Exists.intro _ (And.intro (hpa) ?_)
  refine acode_seq ?_
  refine acode_seq ?_
  refine acode_region ?_
  refine acode_cond rfl (fun h18 => ?_) (fun h18 => ?_)
  · try simp only [decide_eq_false_iff_not, Bool.not_eq_true'] at h18
    try simp only [Int.toNat_natCast, dflt_sl, dflt_st, dflt_str, dflt_int, dflt_bool] at h18
    simp at h18
  · try simp only [decide_eq_true_eq, Bool.not_eq_false'] at h18
    try simp only [Int.toNat_natCast, dflt_sl, dflt_st, dflt_str, dflt_int, dflt_bool] at h18
    refine acode_skip ?_
    refine acode_seq ?_
    refine acode_region ?_
    refine acode_seq ?_
    refine acode_seq ?_
    refine acode_nilcell 1 0 125 rEnt rfl rfl rfl ?_
    refine acode_region ?_
    refine acode_block ?_
    refine acode_loopP (fun (i : Nat) => i ≤ l.length) (fun (i : Nat) => [(2, .one (.own 0 0)), (5, .one (.sl rItm l)), (6, ii .i64 (-9)), (8, .one (.own 1 0)), (9, ii .i64 i)]) (fun (i : Nat) => [(0, .box 55 [.lit (.slice none 0 0), .lit (.int .i64 0)]), (1, .box 55 [.vec 2, .lit (.int .i64 (1 + (cntR (l.take i) : Int)))]), (2, .vec 125 rEnt (numI 1 (l.take i)))]) 3 (fun (i : Nat) => l.length - i) 0 (Nat.zero_le _) (le_of ⟨rfl, rfl, rfl, rfl, rfl⟩ ⟨rfl, rfl, rfl⟩ rfl) ?_
    intro i hI0
    refine acode_seq ?_
    refine acode_seq ?_
    refine acode_region ?_
    intro l6_2
    try simp only [Int.toNat_natCast, dflt_sl, dflt_st, dflt_str, dflt_int, dflt_bool] at l6_2
    refine acode_cond rfl (fun h26 => ?_) (fun h26 => ?_)
    · try simp only [decide_eq_true_eq] at h26
      try simp only [Int.toNat_natCast, dflt_sl, dflt_st, dflt_str, dflt_int, dflt_bool] at h26
      have hil : i < l.length := (by omega)
      have hsn := numI_at hil
      have hcn := cntR_at hil
      have hcl := cntR_le (l.take i)
      rw [List.length_take] at hcl
      refine acode_skip ?_
      refine acode_seq ?_
      refine acode_block ?_
      refine acode_seq ?_
      refine acode_region ?_
      refine And.intro (by first | omega | assumption | decide | (simp only [Int.toNat_natCast, dflt_sl, dflt_st, dflt_str, dflt_int, dflt_bool]; omega) | (simp <;> omega)) ?_
      refine acode_seq ?_
      refine acode_seq ?_
      refine acode_region ?_
      refine And.intro (by first | omega | assumption | decide | (simp only [Int.toNat_natCast, dflt_sl, dflt_st, dflt_str, dflt_int, dflt_bool]; omega) | (simp <;> omega)) ?_
      refine acode_cond rfl (fun h39 => ?_) (fun h39 => ?_)
      · try simp only [decide_eq_true_eq] at h39
        try simp only [Int.toNat_natCast, dflt_sl, dflt_st, dflt_str, dflt_int] at h39
        have hk : isRec (l.getD i ((0 : Int), ByteArray.empty, ([] : List Fld))) = true := decide_eq_true h39
        rw [hk, if_pos rfl] at hsn hcn
        refine acode_seq ?_
        refine acode_region ?_
        refine acode_region ?_
        refine And.intro (by first | omega | assumption | decide | (simp only [Int.toNat_natCast, dflt_sl, dflt_st, dflt_str, dflt_int, dflt_bool]; omega) | (simp <;> omega)) ?_
        refine acode_region ?_
        refine And.intro (by exact app_le (show (numI 1 (l.take i)).length + 1 ≤ 1000000000 by rw [numI_len, List.length_take]; omega) (by decide)) ?_
        refine acode_region ?_
        refine And.intro (by first | omega | assumption | decide | (simp only [Int.toNat_natCast, dflt_sl, dflt_st, dflt_str, dflt_int, dflt_bool]; omega) | (simp <;> omega)) ?_
        exact ⟨i + 1, by omega, by first | omega | (simp <;> omega), le_of ⟨rfl, rfl, rfl, rfl, (ii_eq (by omega))⟩ ⟨rfl, (rlbox_eq (by omega)), (vec_eq (by rw [hsn]; exact rfl))⟩ rfl⟩
      · try simp only [decide_eq_false_iff_not] at h39
        try simp only [Int.toNat_natCast, dflt_sl, dflt_st, dflt_str, dflt_int] at h39
        have hk : isRec (l.getD i ((0 : Int), ByteArray.empty, ([] : List Fld))) = false := decide_eq_false h39
        rw [hk, if_neg Bool.false_ne_true] at hsn hcn
        refine acode_skip ?_
        refine acode_region ?_
        refine And.intro (by exact app_le (show (numI 1 (l.take i)).length + 1 ≤ 1000000000 by rw [numI_len, List.length_take]; omega) (by decide)) ?_
        refine acode_region ?_
        refine And.intro (by first | omega | assumption | decide | (simp only [Int.toNat_natCast, dflt_sl, dflt_st, dflt_str, dflt_int, dflt_bool]; omega) | (simp <;> omega)) ?_
        exact ⟨i + 1, by omega, by first | omega | (simp <;> omega), le_of ⟨rfl, rfl, rfl, rfl, (ii_eq (by omega))⟩ ⟨rfl, (rlbox_eq (by omega)), (vec_eq (by rw [hsn]; exact rfl))⟩ rfl⟩
    · try simp only [decide_eq_false_iff_not, Int.not_lt] at h26
      try simp only [Int.toNat_natCast, dflt_sl, dflt_st, dflt_str, dflt_int, dflt_bool] at h26
      refine acode_exit ?_
      refine acode_seq ?_
      refine acode_region ?_
      refine acode_frz [2] ?_
      refine acode_ret ?_
      rw [List.take_of_length_le (by omega)]
      exact rfl
theorem refOf_err (s : ByteArray) (hs : s.size ≤ 60000) {at_ n : Int} (hp : parseS s = .inl (at_, n)) : ACall Tryz.prog 29 [is s] (.tup [(true, [.lit (.slice none 0 0), .lit (.int .i64 0)]), (false, [.lit (.int .i64 at_)]), (false, [.lit (.int .i64 n)])]) := by
  have hpa := refParse_a s hs
  rw [hp] at hpa
  have hne := parse_ne hp
  refine acall_ofc (rs := [.cell 2 55, .tmp 3, .tmp 4]) Tryz.func29 rfl rfl rfl teOk rfl ?_
  refine acode_seq ?_
  refine acode_region ?_
  refine acode_seq ?_
  refine acode_region ?_
  refine Or.inl ?_
  refine And.intro (rfl) ?_
  refine Exists.intro _ (And.intro (hpa) ?_)
  refine acode_seq ?_
  refine acode_seq ?_
  refine acode_region ?_
  refine acode_cond rfl (fun h18 => ?_) (fun h18 => ?_)
  · try simp only [decide_eq_false_iff_not, Bool.not_eq_true'] at h18
    try simp only [Int.toNat_natCast, dflt_sl, dflt_st, dflt_str, dflt_int, dflt_bool] at h18
    refine acode_seq ?_
    refine acode_region ?_
    refine acode_ret ?_
    rfl
  · try simp only [decide_eq_true_eq, Bool.not_eq_false'] at h18
    try simp only [Int.toNat_natCast, dflt_sl, dflt_st, dflt_str, dflt_int, dflt_bool] at h18
    exact absurd h18 hne
theorem stzL_snoc {es : List Ent} {i : Nat} (h : i < es.length) : stzL (es.take (i + 1)) = stzL (es.take i) ++ if live (es.getD i (((0 : Int), ByteArray.empty, ([] : List Fld)), (0 : Int))) then [stzOf (es.getD i (((0 : Int), ByteArray.empty, ([] : List Fld)), (0 : Int)))] else [] := by
  unfold stzL
  rw [← take_snoc (((0 : Int), ByteArray.empty, ([] : List Fld)), (0 : Int)) h, List.filter_append, List.map_append]
  generalize es.getD i (((0 : Int), ByteArray.empty, ([] : List Fld)), (0 : Int)) = x
  cases hk : live x
  · simp [hk]
  · simp [hk]
theorem stzL_le (es : List Ent) : (stzL es).length ≤ es.length := by
  unfold stzL
  rw [List.length_map]
  exact live_len es
theorem refStz_c (es : List Ent) (n : Int) (hl : es.length ≤ 1000000) : ACall Tryz.prog 65 [.agg (toL rRL (es, n))] (.one (.sl rStz (stzL es))) := by
  refine acall_of (rs := [2]) Tryz.func65 rfl rfl rfl teOk rfl ?_
  refine acode_seq ?_
  refine acode_region ?_
  refine acode_seq ?_
  refine acode_region ?_
  refine acode_seq ?_
  refine acode_seq ?_
  refine acode_nilvec 3 27 rStz rfl ?_
  refine acode_region ?_
  refine acode_block ?_
  refine acode_loopP (fun (i : Nat) => i ≤ es.length) (fun (i : Nat) => [(1, .one (.own 0 0)), (3, .one (.vec 1)), (4, ii .i64 i)]) (fun (i : Nat) => [(0, .box 55 (toL rRL (es, n))), (1, .vec 27 rStz (stzL (es.take i)))]) 2 (fun (i : Nat) => es.length - i) 0 (Nat.zero_le _) (le_of ⟨rfl, rfl, rfl⟩ ⟨rfl, rfl⟩ rfl) ?_
  intro i hI0
  refine acode_seq ?_
  refine acode_seq ?_
  refine acode_region ?_
  intro l3_3
  refine acode_cond rfl (fun h9 => ?_) (fun h9 => ?_)
  · try simp only [decide_eq_true_eq] at h9
    try simp only [Int.toNat_natCast, dflt_sl, dflt_st, dflt_str, dflt_int, dflt_bool] at h9
    have hil : i < es.length := (by omega)
    have hsn := stzL_snoc hil
    have hsl := stzL_le (es.take i)
    rw [List.length_take] at hsl
    refine acode_skip ?_
    refine acode_seq ?_
    refine acode_block ?_
    refine acode_seq ?_
    refine acode_region ?_
    refine And.intro (by first | omega | assumption | decide | (simp only []; omega) | (simp <;> omega)) ?_
    refine acode_cond rfl (fun h18 => ?_) (fun h18 => ?_)
    · try simp only [decide_eq_true_eq] at h18
      try simp only [Int.toNat_natCast, dflt_sl, dflt_st, dflt_str, dflt_int] at h18
      have hk : live (es.getD i (((0 : Int), ByteArray.empty, ([] : List Fld)), (0 : Int))) = true := decide_eq_true h18
      rw [hk, if_pos rfl] at hsn
      refine acode_ord rfl ?_
      refine aord_light 0 rfl rfl rfl (by kernel_rfl) ?_
      refine aord_light 1 rfl rfl rfl (by kernel_rfl) ?_
      refine aord_light 3 rfl rfl rfl (by kernel_rfl) ?_
      refine aord_light 7 rfl rfl rfl (by kernel_rfl) ?_
      refine aord_light 9 rfl rfl rfl (by kernel_rfl) ?_
      refine aord_all [2, 8] (by kernel_rfl) rfl ?_
      refine And.intro ?_ ?_
      · refine aord_light 4 rfl rfl rfl (by kernel_rfl) ?_
        refine And.intro (by first | omega | assumption | decide | (simp only []; omega) | (simp <;> omega)) ?_
        refine aord_all [5, 8] (by kernel_rfl) rfl ?_
        refine And.intro ?_ ?_
        · refine aord_all [6, 8] (by kernel_rfl) rfl ?_
          refine And.intro ?_ ?_
          · refine aord_all [8] (by kernel_rfl) rfl ?_
            refine aord_light 10 rfl rfl rfl (by kernel_rfl) ?_
            refine And.intro (by first | omega | assumption | decide | (simp only []; omega) | (simp <;> omega)) ?_
            refine aord_all [11] (by kernel_rfl) rfl ?_
            refine aord_all [12] (by kernel_rfl) rfl ?_
            refine aord_all [13] (by kernel_rfl) rfl ?_
            refine aord_all [14] (by kernel_rfl) rfl ?_
            refine aord_all [15] (by kernel_rfl) rfl ?_
            refine aord_all [16] (by kernel_rfl) rfl ?_
            refine And.intro (by exact app_le (show (stzL (es.take i)).length + 1 ≤ 1000000000 by omega) (by decide)) ?_
            refine aord_light 17 rfl rfl rfl (by kernel_rfl) ?_
            refine aord_done (by kernel_rfl) ?_
            refine acode_region ?_
            refine And.intro (by first | omega | assumption | decide | (simp only [Int.toNat_natCast, dflt_sl, dflt_st, dflt_str, dflt_int, dflt_bool]; omega) | (simp <;> omega)) ?_
            exact ⟨i + 1, by omega, by first | omega | (simp <;> omega), le_of ⟨rfl, rfl, (ii_eq (by omega))⟩ ⟨rfl, (vec_eq (by rw [hsn]; try exact rfl))⟩ rfl⟩
          · refine aord_light 10 rfl rfl rfl (by kernel_rfl) ?_
            refine And.intro (by first | omega | assumption | decide | (simp only []; omega) | (simp <;> omega)) ?_
            refine aord_all [6, 11] (by kernel_rfl) rfl ?_
            refine And.intro ?_ ?_
            · refine aord_all [11] (by kernel_rfl) rfl ?_
              refine aord_all [12] (by kernel_rfl) rfl ?_
              refine aord_all [13] (by kernel_rfl) rfl ?_
              refine aord_all [14] (by kernel_rfl) rfl ?_
              refine aord_all [15] (by kernel_rfl) rfl ?_
              refine aord_all [16] (by kernel_rfl) rfl ?_
              refine And.intro (by exact app_le (show (stzL (es.take i)).length + 1 ≤ 1000000000 by omega) (by decide)) ?_
              refine aord_light 17 rfl rfl rfl (by kernel_rfl) ?_
              refine aord_done (by kernel_rfl) ?_
              refine acode_region ?_
              refine And.intro (by first | omega | assumption | decide | (simp only [Int.toNat_natCast, dflt_sl, dflt_st, dflt_str, dflt_int, dflt_bool]; omega) | (simp <;> omega)) ?_
              exact ⟨i + 1, by omega, by first | omega | (simp <;> omega), le_of ⟨rfl, rfl, (ii_eq (by omega))⟩ ⟨rfl, (vec_eq (by rw [hsn]; try exact rfl))⟩ rfl⟩
            · refine aord_all [6, 12] (by kernel_rfl) rfl ?_
              refine And.intro ?_ ?_
              · refine aord_all [12] (by kernel_rfl) rfl ?_
                refine aord_all [13] (by kernel_rfl) rfl ?_
                refine aord_all [14] (by kernel_rfl) rfl ?_
                refine aord_all [15] (by kernel_rfl) rfl ?_
                refine aord_all [16] (by kernel_rfl) rfl ?_
                refine And.intro (by exact app_le (show (stzL (es.take i)).length + 1 ≤ 1000000000 by omega) (by decide)) ?_
                refine aord_light 17 rfl rfl rfl (by kernel_rfl) ?_
                refine aord_done (by kernel_rfl) ?_
                refine acode_region ?_
                refine And.intro (by first | omega | assumption | decide | (simp only [Int.toNat_natCast, dflt_sl, dflt_st, dflt_str, dflt_int, dflt_bool]; omega) | (simp <;> omega)) ?_
                exact ⟨i + 1, by omega, by first | omega | (simp <;> omega), le_of ⟨rfl, rfl, (ii_eq (by omega))⟩ ⟨rfl, (vec_eq (by rw [hsn]; try exact rfl))⟩ rfl⟩
              · refine aord_all [6, 13] (by kernel_rfl) rfl ?_
                refine And.intro ?_ ?_
                · refine aord_all [13] (by kernel_rfl) rfl ?_
                  refine aord_all [14] (by kernel_rfl) rfl ?_
                  refine aord_all [15] (by kernel_rfl) rfl ?_
                  refine aord_all [16] (by kernel_rfl) rfl ?_
                  refine And.intro (by exact app_le (show (stzL (es.take i)).length + 1 ≤ 1000000000 by omega) (by decide)) ?_
                  refine aord_light 17 rfl rfl rfl (by kernel_rfl) ?_
                  refine aord_done (by kernel_rfl) ?_
                  refine acode_region ?_
                  refine And.intro (by first | omega | assumption | decide | (simp only [Int.toNat_natCast, dflt_sl, dflt_st, dflt_str, dflt_int, dflt_bool]; omega) | (simp <;> omega)) ?_
                  exact ⟨i + 1, by omega, by first | omega | (simp <;> omega), le_of ⟨rfl, rfl, (ii_eq (by omega))⟩ ⟨rfl, (vec_eq (by rw [hsn]; try exact rfl))⟩ rfl⟩
                · refine aord_all [6] (by kernel_rfl) rfl ?_
                  refine aord_all [14] (by kernel_rfl) rfl ?_
                  refine aord_all [15] (by kernel_rfl) rfl ?_
                  refine aord_all [16] (by kernel_rfl) rfl ?_
                  refine And.intro (by exact app_le (show (stzL (es.take i)).length + 1 ≤ 1000000000 by omega) (by decide)) ?_
                  refine aord_light 17 rfl rfl rfl (by kernel_rfl) ?_
                  refine aord_done (by kernel_rfl) ?_
                  refine acode_region ?_
                  refine And.intro (by first | omega | assumption | decide | (simp only [Int.toNat_natCast, dflt_sl, dflt_st, dflt_str, dflt_int, dflt_bool]; omega) | (simp <;> omega)) ?_
                  exact ⟨i + 1, by omega, by first | omega | (simp <;> omega), le_of ⟨rfl, rfl, (ii_eq (by omega))⟩ ⟨rfl, (vec_eq (by rw [hsn]; try exact rfl))⟩ rfl⟩
        · refine aord_light 10 rfl rfl rfl (by kernel_rfl) ?_
          refine And.intro (by first | omega | assumption | decide | (simp only []; omega) | (simp <;> omega)) ?_
          refine aord_all [5, 11] (by kernel_rfl) rfl ?_
          refine And.intro ?_ ?_
          · refine aord_all [6, 11] (by kernel_rfl) rfl ?_
            refine And.intro ?_ ?_
            · refine aord_all [11] (by kernel_rfl) rfl ?_
              refine aord_all [12] (by kernel_rfl) rfl ?_
              refine aord_all [13] (by kernel_rfl) rfl ?_
              refine aord_all [14] (by kernel_rfl) rfl ?_
              refine aord_all [15] (by kernel_rfl) rfl ?_
              refine aord_all [16] (by kernel_rfl) rfl ?_
              refine And.intro (by exact app_le (show (stzL (es.take i)).length + 1 ≤ 1000000000 by omega) (by decide)) ?_
              refine aord_light 17 rfl rfl rfl (by kernel_rfl) ?_
              refine aord_done (by kernel_rfl) ?_
              refine acode_region ?_
              refine And.intro (by first | omega | assumption | decide | (simp only [Int.toNat_natCast, dflt_sl, dflt_st, dflt_str, dflt_int, dflt_bool]; omega) | (simp <;> omega)) ?_
              exact ⟨i + 1, by omega, by first | omega | (simp <;> omega), le_of ⟨rfl, rfl, (ii_eq (by omega))⟩ ⟨rfl, (vec_eq (by rw [hsn]; try exact rfl))⟩ rfl⟩
            · refine aord_all [6, 12] (by kernel_rfl) rfl ?_
              refine And.intro ?_ ?_
              · refine aord_all [12] (by kernel_rfl) rfl ?_
                refine aord_all [13] (by kernel_rfl) rfl ?_
                refine aord_all [14] (by kernel_rfl) rfl ?_
                refine aord_all [15] (by kernel_rfl) rfl ?_
                refine aord_all [16] (by kernel_rfl) rfl ?_
                refine And.intro (by exact app_le (show (stzL (es.take i)).length + 1 ≤ 1000000000 by omega) (by decide)) ?_
                refine aord_light 17 rfl rfl rfl (by kernel_rfl) ?_
                refine aord_done (by kernel_rfl) ?_
                refine acode_region ?_
                refine And.intro (by first | omega | assumption | decide | (simp only [Int.toNat_natCast, dflt_sl, dflt_st, dflt_str, dflt_int, dflt_bool]; omega) | (simp <;> omega)) ?_
                exact ⟨i + 1, by omega, by first | omega | (simp <;> omega), le_of ⟨rfl, rfl, (ii_eq (by omega))⟩ ⟨rfl, (vec_eq (by rw [hsn]; try exact rfl))⟩ rfl⟩
              · refine aord_all [6, 13] (by kernel_rfl) rfl ?_
                refine And.intro ?_ ?_
                · refine aord_all [13] (by kernel_rfl) rfl ?_
                  refine aord_all [14] (by kernel_rfl) rfl ?_
                  refine aord_all [15] (by kernel_rfl) rfl ?_
                  refine aord_all [16] (by kernel_rfl) rfl ?_
                  refine And.intro (by exact app_le (show (stzL (es.take i)).length + 1 ≤ 1000000000 by omega) (by decide)) ?_
                  refine aord_light 17 rfl rfl rfl (by kernel_rfl) ?_
                  refine aord_done (by kernel_rfl) ?_
                  refine acode_region ?_
                  refine And.intro (by first | omega | assumption | decide | (simp only [Int.toNat_natCast, dflt_sl, dflt_st, dflt_str, dflt_int, dflt_bool]; omega) | (simp <;> omega)) ?_
                  exact ⟨i + 1, by omega, by first | omega | (simp <;> omega), le_of ⟨rfl, rfl, (ii_eq (by omega))⟩ ⟨rfl, (vec_eq (by rw [hsn]; try exact rfl))⟩ rfl⟩
                · refine aord_all [6] (by kernel_rfl) rfl ?_
                  refine aord_all [14] (by kernel_rfl) rfl ?_
                  refine aord_all [15] (by kernel_rfl) rfl ?_
                  refine aord_all [16] (by kernel_rfl) rfl ?_
                  refine And.intro (by exact app_le (show (stzL (es.take i)).length + 1 ≤ 1000000000 by omega) (by decide)) ?_
                  refine aord_light 17 rfl rfl rfl (by kernel_rfl) ?_
                  refine aord_done (by kernel_rfl) ?_
                  refine acode_region ?_
                  refine And.intro (by first | omega | assumption | decide | (simp only [Int.toNat_natCast, dflt_sl, dflt_st, dflt_str, dflt_int, dflt_bool]; omega) | (simp <;> omega)) ?_
                  exact ⟨i + 1, by omega, by first | omega | (simp <;> omega), le_of ⟨rfl, rfl, (ii_eq (by omega))⟩ ⟨rfl, (vec_eq (by rw [hsn]; try exact rfl))⟩ rfl⟩
          · refine aord_all [5, 12] (by kernel_rfl) rfl ?_
            refine And.intro ?_ ?_
            · refine aord_all [6, 12] (by kernel_rfl) rfl ?_
              refine And.intro ?_ ?_
              · refine aord_all [12] (by kernel_rfl) rfl ?_
                refine aord_all [13] (by kernel_rfl) rfl ?_
                refine aord_all [14] (by kernel_rfl) rfl ?_
                refine aord_all [15] (by kernel_rfl) rfl ?_
                refine aord_all [16] (by kernel_rfl) rfl ?_
                refine And.intro (by exact app_le (show (stzL (es.take i)).length + 1 ≤ 1000000000 by omega) (by decide)) ?_
                refine aord_light 17 rfl rfl rfl (by kernel_rfl) ?_
                refine aord_done (by kernel_rfl) ?_
                refine acode_region ?_
                refine And.intro (by first | omega | assumption | decide | (simp only [Int.toNat_natCast, dflt_sl, dflt_st, dflt_str, dflt_int, dflt_bool]; omega) | (simp <;> omega)) ?_
                exact ⟨i + 1, by omega, by first | omega | (simp <;> omega), le_of ⟨rfl, rfl, (ii_eq (by omega))⟩ ⟨rfl, (vec_eq (by rw [hsn]; try exact rfl))⟩ rfl⟩
              · refine aord_all [6, 13] (by kernel_rfl) rfl ?_
                refine And.intro ?_ ?_
                · refine aord_all [13] (by kernel_rfl) rfl ?_
                  refine aord_all [14] (by kernel_rfl) rfl ?_
                  refine aord_all [15] (by kernel_rfl) rfl ?_
                  refine aord_all [16] (by kernel_rfl) rfl ?_
                  refine And.intro (by exact app_le (show (stzL (es.take i)).length + 1 ≤ 1000000000 by omega) (by decide)) ?_
                  refine aord_light 17 rfl rfl rfl (by kernel_rfl) ?_
                  refine aord_done (by kernel_rfl) ?_
                  refine acode_region ?_
                  refine And.intro (by first | omega | assumption | decide | (simp only [Int.toNat_natCast, dflt_sl, dflt_st, dflt_str, dflt_int, dflt_bool]; omega) | (simp <;> omega)) ?_
                  exact ⟨i + 1, by omega, by first | omega | (simp <;> omega), le_of ⟨rfl, rfl, (ii_eq (by omega))⟩ ⟨rfl, (vec_eq (by rw [hsn]; try exact rfl))⟩ rfl⟩
                · refine aord_all [6] (by kernel_rfl) rfl ?_
                  refine aord_all [14] (by kernel_rfl) rfl ?_
                  refine aord_all [15] (by kernel_rfl) rfl ?_
                  refine aord_all [16] (by kernel_rfl) rfl ?_
                  refine And.intro (by exact app_le (show (stzL (es.take i)).length + 1 ≤ 1000000000 by omega) (by decide)) ?_
                  refine aord_light 17 rfl rfl rfl (by kernel_rfl) ?_
                  refine aord_done (by kernel_rfl) ?_
                  refine acode_region ?_
                  refine And.intro (by first | omega | assumption | decide | (simp only [Int.toNat_natCast, dflt_sl, dflt_st, dflt_str, dflt_int, dflt_bool]; omega) | (simp <;> omega)) ?_
                  exact ⟨i + 1, by omega, by first | omega | (simp <;> omega), le_of ⟨rfl, rfl, (ii_eq (by omega))⟩ ⟨rfl, (vec_eq (by rw [hsn]; try exact rfl))⟩ rfl⟩
            · refine aord_all [5, 13] (by kernel_rfl) rfl ?_
              refine And.intro ?_ ?_
              · refine aord_all [6, 13] (by kernel_rfl) rfl ?_
                refine And.intro ?_ ?_
                · refine aord_all [13] (by kernel_rfl) rfl ?_
                  refine aord_all [14] (by kernel_rfl) rfl ?_
                  refine aord_all [15] (by kernel_rfl) rfl ?_
                  refine aord_all [16] (by kernel_rfl) rfl ?_
                  refine And.intro (by exact app_le (show (stzL (es.take i)).length + 1 ≤ 1000000000 by omega) (by decide)) ?_
                  refine aord_light 17 rfl rfl rfl (by kernel_rfl) ?_
                  refine aord_done (by kernel_rfl) ?_
                  refine acode_region ?_
                  refine And.intro (by first | omega | assumption | decide | (simp only [Int.toNat_natCast, dflt_sl, dflt_st, dflt_str, dflt_int, dflt_bool]; omega) | (simp <;> omega)) ?_
                  exact ⟨i + 1, by omega, by first | omega | (simp <;> omega), le_of ⟨rfl, rfl, (ii_eq (by omega))⟩ ⟨rfl, (vec_eq (by rw [hsn]; try exact rfl))⟩ rfl⟩
                · refine aord_all [6] (by kernel_rfl) rfl ?_
                  refine aord_all [14] (by kernel_rfl) rfl ?_
                  refine aord_all [15] (by kernel_rfl) rfl ?_
                  refine aord_all [16] (by kernel_rfl) rfl ?_
                  refine And.intro (by exact app_le (show (stzL (es.take i)).length + 1 ≤ 1000000000 by omega) (by decide)) ?_
                  refine aord_light 17 rfl rfl rfl (by kernel_rfl) ?_
                  refine aord_done (by kernel_rfl) ?_
                  refine acode_region ?_
                  refine And.intro (by first | omega | assumption | decide | (simp only [Int.toNat_natCast, dflt_sl, dflt_st, dflt_str, dflt_int, dflt_bool]; omega) | (simp <;> omega)) ?_
                  exact ⟨i + 1, by omega, by first | omega | (simp <;> omega), le_of ⟨rfl, rfl, (ii_eq (by omega))⟩ ⟨rfl, (vec_eq (by rw [hsn]; try exact rfl))⟩ rfl⟩
              · refine aord_all [5] (by kernel_rfl) rfl ?_
                refine aord_all [6] (by kernel_rfl) rfl ?_
                refine aord_all [14] (by kernel_rfl) rfl ?_
                refine aord_all [15] (by kernel_rfl) rfl ?_
                refine aord_all [16] (by kernel_rfl) rfl ?_
                refine And.intro (by exact app_le (show (stzL (es.take i)).length + 1 ≤ 1000000000 by omega) (by decide)) ?_
                refine aord_light 17 rfl rfl rfl (by kernel_rfl) ?_
                refine aord_done (by kernel_rfl) ?_
                refine acode_region ?_
                refine And.intro (by first | omega | assumption | decide | (simp only [Int.toNat_natCast, dflt_sl, dflt_st, dflt_str, dflt_int, dflt_bool]; omega) | (simp <;> omega)) ?_
                exact ⟨i + 1, by omega, by first | omega | (simp <;> omega), le_of ⟨rfl, rfl, (ii_eq (by omega))⟩ ⟨rfl, (vec_eq (by rw [hsn]; try exact rfl))⟩ rfl⟩
      · refine aord_light 10 rfl rfl rfl (by kernel_rfl) ?_
        refine And.intro (by first | omega | assumption | decide | (simp only []; omega) | (simp <;> omega)) ?_
        refine aord_all [2, 11] (by kernel_rfl) rfl ?_
        refine And.intro ?_ ?_
        · refine aord_light 4 rfl rfl rfl (by kernel_rfl) ?_
          refine And.intro (by first | omega | assumption | decide | (simp only []; omega) | (simp <;> omega)) ?_
          refine aord_all [5, 11] (by kernel_rfl) rfl ?_
          refine And.intro ?_ ?_
          · refine aord_all [6, 11] (by kernel_rfl) rfl ?_
            refine And.intro ?_ ?_
            · refine aord_all [11] (by kernel_rfl) rfl ?_
              refine aord_all [12] (by kernel_rfl) rfl ?_
              refine aord_all [13] (by kernel_rfl) rfl ?_
              refine aord_all [14] (by kernel_rfl) rfl ?_
              refine aord_all [15] (by kernel_rfl) rfl ?_
              refine aord_all [16] (by kernel_rfl) rfl ?_
              refine And.intro (by exact app_le (show (stzL (es.take i)).length + 1 ≤ 1000000000 by omega) (by decide)) ?_
              refine aord_light 17 rfl rfl rfl (by kernel_rfl) ?_
              refine aord_done (by kernel_rfl) ?_
              refine acode_region ?_
              refine And.intro (by first | omega | assumption | decide | (simp only [Int.toNat_natCast, dflt_sl, dflt_st, dflt_str, dflt_int, dflt_bool]; omega) | (simp <;> omega)) ?_
              exact ⟨i + 1, by omega, by first | omega | (simp <;> omega), le_of ⟨rfl, rfl, (ii_eq (by omega))⟩ ⟨rfl, (vec_eq (by rw [hsn]; try exact rfl))⟩ rfl⟩
            · refine aord_all [6, 12] (by kernel_rfl) rfl ?_
              refine And.intro ?_ ?_
              · refine aord_all [12] (by kernel_rfl) rfl ?_
                refine aord_all [13] (by kernel_rfl) rfl ?_
                refine aord_all [14] (by kernel_rfl) rfl ?_
                refine aord_all [15] (by kernel_rfl) rfl ?_
                refine aord_all [16] (by kernel_rfl) rfl ?_
                refine And.intro (by exact app_le (show (stzL (es.take i)).length + 1 ≤ 1000000000 by omega) (by decide)) ?_
                refine aord_light 17 rfl rfl rfl (by kernel_rfl) ?_
                refine aord_done (by kernel_rfl) ?_
                refine acode_region ?_
                refine And.intro (by first | omega | assumption | decide | (simp only [Int.toNat_natCast, dflt_sl, dflt_st, dflt_str, dflt_int, dflt_bool]; omega) | (simp <;> omega)) ?_
                exact ⟨i + 1, by omega, by first | omega | (simp <;> omega), le_of ⟨rfl, rfl, (ii_eq (by omega))⟩ ⟨rfl, (vec_eq (by rw [hsn]; try exact rfl))⟩ rfl⟩
              · refine aord_all [6, 13] (by kernel_rfl) rfl ?_
                refine And.intro ?_ ?_
                · refine aord_all [13] (by kernel_rfl) rfl ?_
                  refine aord_all [14] (by kernel_rfl) rfl ?_
                  refine aord_all [15] (by kernel_rfl) rfl ?_
                  refine aord_all [16] (by kernel_rfl) rfl ?_
                  refine And.intro (by exact app_le (show (stzL (es.take i)).length + 1 ≤ 1000000000 by omega) (by decide)) ?_
                  refine aord_light 17 rfl rfl rfl (by kernel_rfl) ?_
                  refine aord_done (by kernel_rfl) ?_
                  refine acode_region ?_
                  refine And.intro (by first | omega | assumption | decide | (simp only [Int.toNat_natCast, dflt_sl, dflt_st, dflt_str, dflt_int, dflt_bool]; omega) | (simp <;> omega)) ?_
                  exact ⟨i + 1, by omega, by first | omega | (simp <;> omega), le_of ⟨rfl, rfl, (ii_eq (by omega))⟩ ⟨rfl, (vec_eq (by rw [hsn]; try exact rfl))⟩ rfl⟩
                · refine aord_all [6] (by kernel_rfl) rfl ?_
                  refine aord_all [14] (by kernel_rfl) rfl ?_
                  refine aord_all [15] (by kernel_rfl) rfl ?_
                  refine aord_all [16] (by kernel_rfl) rfl ?_
                  refine And.intro (by exact app_le (show (stzL (es.take i)).length + 1 ≤ 1000000000 by omega) (by decide)) ?_
                  refine aord_light 17 rfl rfl rfl (by kernel_rfl) ?_
                  refine aord_done (by kernel_rfl) ?_
                  refine acode_region ?_
                  refine And.intro (by first | omega | assumption | decide | (simp only [Int.toNat_natCast, dflt_sl, dflt_st, dflt_str, dflt_int, dflt_bool]; omega) | (simp <;> omega)) ?_
                  exact ⟨i + 1, by omega, by first | omega | (simp <;> omega), le_of ⟨rfl, rfl, (ii_eq (by omega))⟩ ⟨rfl, (vec_eq (by rw [hsn]; try exact rfl))⟩ rfl⟩
          · refine aord_all [5, 12] (by kernel_rfl) rfl ?_
            refine And.intro ?_ ?_
            · refine aord_all [6, 12] (by kernel_rfl) rfl ?_
              refine And.intro ?_ ?_
              · refine aord_all [12] (by kernel_rfl) rfl ?_
                refine aord_all [13] (by kernel_rfl) rfl ?_
                refine aord_all [14] (by kernel_rfl) rfl ?_
                refine aord_all [15] (by kernel_rfl) rfl ?_
                refine aord_all [16] (by kernel_rfl) rfl ?_
                refine And.intro (by exact app_le (show (stzL (es.take i)).length + 1 ≤ 1000000000 by omega) (by decide)) ?_
                refine aord_light 17 rfl rfl rfl (by kernel_rfl) ?_
                refine aord_done (by kernel_rfl) ?_
                refine acode_region ?_
                refine And.intro (by first | omega | assumption | decide | (simp only [Int.toNat_natCast, dflt_sl, dflt_st, dflt_str, dflt_int, dflt_bool]; omega) | (simp <;> omega)) ?_
                exact ⟨i + 1, by omega, by first | omega | (simp <;> omega), le_of ⟨rfl, rfl, (ii_eq (by omega))⟩ ⟨rfl, (vec_eq (by rw [hsn]; try exact rfl))⟩ rfl⟩
              · refine aord_all [6, 13] (by kernel_rfl) rfl ?_
                refine And.intro ?_ ?_
                · refine aord_all [13] (by kernel_rfl) rfl ?_
                  refine aord_all [14] (by kernel_rfl) rfl ?_
                  refine aord_all [15] (by kernel_rfl) rfl ?_
                  refine aord_all [16] (by kernel_rfl) rfl ?_
                  refine And.intro (by exact app_le (show (stzL (es.take i)).length + 1 ≤ 1000000000 by omega) (by decide)) ?_
                  refine aord_light 17 rfl rfl rfl (by kernel_rfl) ?_
                  refine aord_done (by kernel_rfl) ?_
                  refine acode_region ?_
                  refine And.intro (by first | omega | assumption | decide | (simp only [Int.toNat_natCast, dflt_sl, dflt_st, dflt_str, dflt_int, dflt_bool]; omega) | (simp <;> omega)) ?_
                  exact ⟨i + 1, by omega, by first | omega | (simp <;> omega), le_of ⟨rfl, rfl, (ii_eq (by omega))⟩ ⟨rfl, (vec_eq (by rw [hsn]; try exact rfl))⟩ rfl⟩
                · refine aord_all [6] (by kernel_rfl) rfl ?_
                  refine aord_all [14] (by kernel_rfl) rfl ?_
                  refine aord_all [15] (by kernel_rfl) rfl ?_
                  refine aord_all [16] (by kernel_rfl) rfl ?_
                  refine And.intro (by exact app_le (show (stzL (es.take i)).length + 1 ≤ 1000000000 by omega) (by decide)) ?_
                  refine aord_light 17 rfl rfl rfl (by kernel_rfl) ?_
                  refine aord_done (by kernel_rfl) ?_
                  refine acode_region ?_
                  refine And.intro (by first | omega | assumption | decide | (simp only [Int.toNat_natCast, dflt_sl, dflt_st, dflt_str, dflt_int, dflt_bool]; omega) | (simp <;> omega)) ?_
                  exact ⟨i + 1, by omega, by first | omega | (simp <;> omega), le_of ⟨rfl, rfl, (ii_eq (by omega))⟩ ⟨rfl, (vec_eq (by rw [hsn]; try exact rfl))⟩ rfl⟩
            · refine aord_all [5, 13] (by kernel_rfl) rfl ?_
              refine And.intro ?_ ?_
              · refine aord_all [6, 13] (by kernel_rfl) rfl ?_
                refine And.intro ?_ ?_
                · refine aord_all [13] (by kernel_rfl) rfl ?_
                  refine aord_all [14] (by kernel_rfl) rfl ?_
                  refine aord_all [15] (by kernel_rfl) rfl ?_
                  refine aord_all [16] (by kernel_rfl) rfl ?_
                  refine And.intro (by exact app_le (show (stzL (es.take i)).length + 1 ≤ 1000000000 by omega) (by decide)) ?_
                  refine aord_light 17 rfl rfl rfl (by kernel_rfl) ?_
                  refine aord_done (by kernel_rfl) ?_
                  refine acode_region ?_
                  refine And.intro (by first | omega | assumption | decide | (simp only [Int.toNat_natCast, dflt_sl, dflt_st, dflt_str, dflt_int, dflt_bool]; omega) | (simp <;> omega)) ?_
                  exact ⟨i + 1, by omega, by first | omega | (simp <;> omega), le_of ⟨rfl, rfl, (ii_eq (by omega))⟩ ⟨rfl, (vec_eq (by rw [hsn]; try exact rfl))⟩ rfl⟩
                · refine aord_all [6] (by kernel_rfl) rfl ?_
                  refine aord_all [14] (by kernel_rfl) rfl ?_
                  refine aord_all [15] (by kernel_rfl) rfl ?_
                  refine aord_all [16] (by kernel_rfl) rfl ?_
                  refine And.intro (by exact app_le (show (stzL (es.take i)).length + 1 ≤ 1000000000 by omega) (by decide)) ?_
                  refine aord_light 17 rfl rfl rfl (by kernel_rfl) ?_
                  refine aord_done (by kernel_rfl) ?_
                  refine acode_region ?_
                  refine And.intro (by first | omega | assumption | decide | (simp only [Int.toNat_natCast, dflt_sl, dflt_st, dflt_str, dflt_int, dflt_bool]; omega) | (simp <;> omega)) ?_
                  exact ⟨i + 1, by omega, by first | omega | (simp <;> omega), le_of ⟨rfl, rfl, (ii_eq (by omega))⟩ ⟨rfl, (vec_eq (by rw [hsn]; try exact rfl))⟩ rfl⟩
              · refine aord_all [5] (by kernel_rfl) rfl ?_
                refine aord_all [6] (by kernel_rfl) rfl ?_
                refine aord_all [14] (by kernel_rfl) rfl ?_
                refine aord_all [15] (by kernel_rfl) rfl ?_
                refine aord_all [16] (by kernel_rfl) rfl ?_
                refine And.intro (by exact app_le (show (stzL (es.take i)).length + 1 ≤ 1000000000 by omega) (by decide)) ?_
                refine aord_light 17 rfl rfl rfl (by kernel_rfl) ?_
                refine aord_done (by kernel_rfl) ?_
                refine acode_region ?_
                refine And.intro (by first | omega | assumption | decide | (simp only [Int.toNat_natCast, dflt_sl, dflt_st, dflt_str, dflt_int, dflt_bool]; omega) | (simp <;> omega)) ?_
                exact ⟨i + 1, by omega, by first | omega | (simp <;> omega), le_of ⟨rfl, rfl, (ii_eq (by omega))⟩ ⟨rfl, (vec_eq (by rw [hsn]; try exact rfl))⟩ rfl⟩
        · refine aord_all [2, 12] (by kernel_rfl) rfl ?_
          refine And.intro ?_ ?_
          · refine aord_light 4 rfl rfl rfl (by kernel_rfl) ?_
            refine And.intro (by first | omega | assumption | decide | (simp only []; omega) | (simp <;> omega)) ?_
            refine aord_all [5, 12] (by kernel_rfl) rfl ?_
            refine And.intro ?_ ?_
            · refine aord_all [6, 12] (by kernel_rfl) rfl ?_
              refine And.intro ?_ ?_
              · refine aord_all [12] (by kernel_rfl) rfl ?_
                refine aord_all [13] (by kernel_rfl) rfl ?_
                refine aord_all [14] (by kernel_rfl) rfl ?_
                refine aord_all [15] (by kernel_rfl) rfl ?_
                refine aord_all [16] (by kernel_rfl) rfl ?_
                refine And.intro (by exact app_le (show (stzL (es.take i)).length + 1 ≤ 1000000000 by omega) (by decide)) ?_
                refine aord_light 17 rfl rfl rfl (by kernel_rfl) ?_
                refine aord_done (by kernel_rfl) ?_
                refine acode_region ?_
                refine And.intro (by first | omega | assumption | decide | (simp only [Int.toNat_natCast, dflt_sl, dflt_st, dflt_str, dflt_int, dflt_bool]; omega) | (simp <;> omega)) ?_
                exact ⟨i + 1, by omega, by first | omega | (simp <;> omega), le_of ⟨rfl, rfl, (ii_eq (by omega))⟩ ⟨rfl, (vec_eq (by rw [hsn]; try exact rfl))⟩ rfl⟩
              · refine aord_all [6, 13] (by kernel_rfl) rfl ?_
                refine And.intro ?_ ?_
                · refine aord_all [13] (by kernel_rfl) rfl ?_
                  refine aord_all [14] (by kernel_rfl) rfl ?_
                  refine aord_all [15] (by kernel_rfl) rfl ?_
                  refine aord_all [16] (by kernel_rfl) rfl ?_
                  refine And.intro (by exact app_le (show (stzL (es.take i)).length + 1 ≤ 1000000000 by omega) (by decide)) ?_
                  refine aord_light 17 rfl rfl rfl (by kernel_rfl) ?_
                  refine aord_done (by kernel_rfl) ?_
                  refine acode_region ?_
                  refine And.intro (by first | omega | assumption | decide | (simp only [Int.toNat_natCast, dflt_sl, dflt_st, dflt_str, dflt_int, dflt_bool]; omega) | (simp <;> omega)) ?_
                  exact ⟨i + 1, by omega, by first | omega | (simp <;> omega), le_of ⟨rfl, rfl, (ii_eq (by omega))⟩ ⟨rfl, (vec_eq (by rw [hsn]; try exact rfl))⟩ rfl⟩
                · refine aord_all [6] (by kernel_rfl) rfl ?_
                  refine aord_all [14] (by kernel_rfl) rfl ?_
                  refine aord_all [15] (by kernel_rfl) rfl ?_
                  refine aord_all [16] (by kernel_rfl) rfl ?_
                  refine And.intro (by exact app_le (show (stzL (es.take i)).length + 1 ≤ 1000000000 by omega) (by decide)) ?_
                  refine aord_light 17 rfl rfl rfl (by kernel_rfl) ?_
                  refine aord_done (by kernel_rfl) ?_
                  refine acode_region ?_
                  refine And.intro (by first | omega | assumption | decide | (simp only [Int.toNat_natCast, dflt_sl, dflt_st, dflt_str, dflt_int, dflt_bool]; omega) | (simp <;> omega)) ?_
                  exact ⟨i + 1, by omega, by first | omega | (simp <;> omega), le_of ⟨rfl, rfl, (ii_eq (by omega))⟩ ⟨rfl, (vec_eq (by rw [hsn]; try exact rfl))⟩ rfl⟩
            · refine aord_all [5, 13] (by kernel_rfl) rfl ?_
              refine And.intro ?_ ?_
              · refine aord_all [6, 13] (by kernel_rfl) rfl ?_
                refine And.intro ?_ ?_
                · refine aord_all [13] (by kernel_rfl) rfl ?_
                  refine aord_all [14] (by kernel_rfl) rfl ?_
                  refine aord_all [15] (by kernel_rfl) rfl ?_
                  refine aord_all [16] (by kernel_rfl) rfl ?_
                  refine And.intro (by exact app_le (show (stzL (es.take i)).length + 1 ≤ 1000000000 by omega) (by decide)) ?_
                  refine aord_light 17 rfl rfl rfl (by kernel_rfl) ?_
                  refine aord_done (by kernel_rfl) ?_
                  refine acode_region ?_
                  refine And.intro (by first | omega | assumption | decide | (simp only [Int.toNat_natCast, dflt_sl, dflt_st, dflt_str, dflt_int, dflt_bool]; omega) | (simp <;> omega)) ?_
                  exact ⟨i + 1, by omega, by first | omega | (simp <;> omega), le_of ⟨rfl, rfl, (ii_eq (by omega))⟩ ⟨rfl, (vec_eq (by rw [hsn]; try exact rfl))⟩ rfl⟩
                · refine aord_all [6] (by kernel_rfl) rfl ?_
                  refine aord_all [14] (by kernel_rfl) rfl ?_
                  refine aord_all [15] (by kernel_rfl) rfl ?_
                  refine aord_all [16] (by kernel_rfl) rfl ?_
                  refine And.intro (by exact app_le (show (stzL (es.take i)).length + 1 ≤ 1000000000 by omega) (by decide)) ?_
                  refine aord_light 17 rfl rfl rfl (by kernel_rfl) ?_
                  refine aord_done (by kernel_rfl) ?_
                  refine acode_region ?_
                  refine And.intro (by first | omega | assumption | decide | (simp only [Int.toNat_natCast, dflt_sl, dflt_st, dflt_str, dflt_int, dflt_bool]; omega) | (simp <;> omega)) ?_
                  exact ⟨i + 1, by omega, by first | omega | (simp <;> omega), le_of ⟨rfl, rfl, (ii_eq (by omega))⟩ ⟨rfl, (vec_eq (by rw [hsn]; try exact rfl))⟩ rfl⟩
              · refine aord_all [5] (by kernel_rfl) rfl ?_
                refine aord_all [6] (by kernel_rfl) rfl ?_
                refine aord_all [14] (by kernel_rfl) rfl ?_
                refine aord_all [15] (by kernel_rfl) rfl ?_
                refine aord_all [16] (by kernel_rfl) rfl ?_
                refine And.intro (by exact app_le (show (stzL (es.take i)).length + 1 ≤ 1000000000 by omega) (by decide)) ?_
                refine aord_light 17 rfl rfl rfl (by kernel_rfl) ?_
                refine aord_done (by kernel_rfl) ?_
                refine acode_region ?_
                refine And.intro (by first | omega | assumption | decide | (simp only [Int.toNat_natCast, dflt_sl, dflt_st, dflt_str, dflt_int, dflt_bool]; omega) | (simp <;> omega)) ?_
                exact ⟨i + 1, by omega, by first | omega | (simp <;> omega), le_of ⟨rfl, rfl, (ii_eq (by omega))⟩ ⟨rfl, (vec_eq (by rw [hsn]; try exact rfl))⟩ rfl⟩
          · refine aord_all [2, 13] (by kernel_rfl) rfl ?_
            refine And.intro ?_ ?_
            · refine aord_light 4 rfl rfl rfl (by kernel_rfl) ?_
              refine And.intro (by first | omega | assumption | decide | (simp only []; omega) | (simp <;> omega)) ?_
              refine aord_all [5, 13] (by kernel_rfl) rfl ?_
              refine And.intro ?_ ?_
              · refine aord_all [6, 13] (by kernel_rfl) rfl ?_
                refine And.intro ?_ ?_
                · refine aord_all [13] (by kernel_rfl) rfl ?_
                  refine aord_all [14] (by kernel_rfl) rfl ?_
                  refine aord_all [15] (by kernel_rfl) rfl ?_
                  refine aord_all [16] (by kernel_rfl) rfl ?_
                  refine And.intro (by exact app_le (show (stzL (es.take i)).length + 1 ≤ 1000000000 by omega) (by decide)) ?_
                  refine aord_light 17 rfl rfl rfl (by kernel_rfl) ?_
                  refine aord_done (by kernel_rfl) ?_
                  refine acode_region ?_
                  refine And.intro (by first | omega | assumption | decide | (simp only [Int.toNat_natCast, dflt_sl, dflt_st, dflt_str, dflt_int, dflt_bool]; omega) | (simp <;> omega)) ?_
                  exact ⟨i + 1, by omega, by first | omega | (simp <;> omega), le_of ⟨rfl, rfl, (ii_eq (by omega))⟩ ⟨rfl, (vec_eq (by rw [hsn]; try exact rfl))⟩ rfl⟩
                · refine aord_all [6] (by kernel_rfl) rfl ?_
                  refine aord_all [14] (by kernel_rfl) rfl ?_
                  refine aord_all [15] (by kernel_rfl) rfl ?_
                  refine aord_all [16] (by kernel_rfl) rfl ?_
                  refine And.intro (by exact app_le (show (stzL (es.take i)).length + 1 ≤ 1000000000 by omega) (by decide)) ?_
                  refine aord_light 17 rfl rfl rfl (by kernel_rfl) ?_
                  refine aord_done (by kernel_rfl) ?_
                  refine acode_region ?_
                  refine And.intro (by first | omega | assumption | decide | (simp only [Int.toNat_natCast, dflt_sl, dflt_st, dflt_str, dflt_int, dflt_bool]; omega) | (simp <;> omega)) ?_
                  exact ⟨i + 1, by omega, by first | omega | (simp <;> omega), le_of ⟨rfl, rfl, (ii_eq (by omega))⟩ ⟨rfl, (vec_eq (by rw [hsn]; try exact rfl))⟩ rfl⟩
              · refine aord_all [5] (by kernel_rfl) rfl ?_
                refine aord_all [6] (by kernel_rfl) rfl ?_
                refine aord_all [14] (by kernel_rfl) rfl ?_
                refine aord_all [15] (by kernel_rfl) rfl ?_
                refine aord_all [16] (by kernel_rfl) rfl ?_
                refine And.intro (by exact app_le (show (stzL (es.take i)).length + 1 ≤ 1000000000 by omega) (by decide)) ?_
                refine aord_light 17 rfl rfl rfl (by kernel_rfl) ?_
                refine aord_done (by kernel_rfl) ?_
                refine acode_region ?_
                refine And.intro (by first | omega | assumption | decide | (simp only [Int.toNat_natCast, dflt_sl, dflt_st, dflt_str, dflt_int, dflt_bool]; omega) | (simp <;> omega)) ?_
                exact ⟨i + 1, by omega, by first | omega | (simp <;> omega), le_of ⟨rfl, rfl, (ii_eq (by omega))⟩ ⟨rfl, (vec_eq (by rw [hsn]; try exact rfl))⟩ rfl⟩
            · refine aord_all [2] (by kernel_rfl) rfl ?_
              refine aord_light 4 rfl rfl rfl (by kernel_rfl) ?_
              refine And.intro (by first | omega | assumption | decide | (simp only []; omega) | (simp <;> omega)) ?_
              refine aord_all [5] (by kernel_rfl) rfl ?_
              refine aord_all [6] (by kernel_rfl) rfl ?_
              refine aord_all [14] (by kernel_rfl) rfl ?_
              refine aord_all [15] (by kernel_rfl) rfl ?_
              refine aord_all [16] (by kernel_rfl) rfl ?_
              refine And.intro (by exact app_le (show (stzL (es.take i)).length + 1 ≤ 1000000000 by omega) (by decide)) ?_
              refine aord_light 17 rfl rfl rfl (by kernel_rfl) ?_
              refine aord_done (by kernel_rfl) ?_
              refine acode_region ?_
              refine And.intro (by first | omega | assumption | decide | (simp only [Int.toNat_natCast, dflt_sl, dflt_st, dflt_str, dflt_int, dflt_bool]; omega) | (simp <;> omega)) ?_
              exact ⟨i + 1, by omega, by first | omega | (simp <;> omega), le_of ⟨rfl, rfl, (ii_eq (by omega))⟩ ⟨rfl, (vec_eq (by rw [hsn]; try exact rfl))⟩ rfl⟩
    · try simp only [decide_eq_false_iff_not, Int.not_lt] at h18
      try simp only [Int.toNat_natCast, dflt_sl, dflt_st, dflt_str, dflt_int] at h18
      have hk : live (es.getD i (((0 : Int), ByteArray.empty, ([] : List Fld)), (0 : Int))) = false := decide_eq_false (by omega)
      rw [hk, if_neg Bool.false_ne_true, List.append_nil] at hsn
      refine acode_skip ?_
      refine acode_region ?_
      refine And.intro (by first | omega | assumption | decide | (simp only [Int.toNat_natCast, dflt_sl, dflt_st, dflt_str, dflt_int, dflt_bool]; omega) | (simp <;> omega)) ?_
      exact ⟨i + 1, by omega, by first | omega | (simp <;> omega), le_of ⟨rfl, rfl, (ii_eq (by omega))⟩ ⟨rfl, (vec_eq (by rw [hsn]; try exact rfl))⟩ rfl⟩
  · try simp only [decide_eq_false_iff_not, Int.not_lt] at h9
    try simp only [Int.toNat_natCast, dflt_sl, dflt_st, dflt_str, dflt_int, dflt_bool] at h9
    refine acode_exit ?_
    refine acode_seq ?_
    refine acode_region ?_
    refine acode_ret ?_
    rw [List.take_of_length_le (by omega)]
    exact rfl
end Q
end Ab
end Go.Proofs.YtklhlkhlndhepaaGreatDoor
namespace Go.Proofs.YtklhlkhlndhepaaGreatDoor
open Go.RowKit
namespace Ab
set_option maxRecDepth 100000
abbrev Term := Bool × ByteArray × Int × ByteArray
abbrev rTerm : Rd Term := .st .bool (.st .str (.st (.int .i64) .str))
namespace Q
namespace QQ
def begins (s w : ByteArray) (n : Nat) : Bool := decide (n + w.size ≤ s.size) && decide (s.extract n (n + w.size) = w)
theorem begins_c (s w : ByteArray) (n : Nat) (h1 : s.size ≤ 1000000000) (h2 : w.size ≤ 1000000000) (h3 : n ≤ 1000000000) : ACall Tryz.prog 140 [is s, is w, ii .i64 n] (ib (begins s w n)) := by
  refine acall_of (rs := [6]) Tryz.func140 rfl rfl rfl teOk rfl ?_
  refine acode_seq ?_
  refine acode_region ?_
  refine acode_seq ?_
  refine acode_region ?_
  refine And.intro (by first | omega | assumption | decide | (simp only [Int.toNat_natCast, dflt_sl, dflt_st, dflt_str, dflt_int, dflt_bool]; omega) | (simp <;> omega)) ?_
  refine And.intro (fun h => trivial) ?_
  refine And.intro (fun h => trivial) ?_
  refine And.intro (fun h => trivial) ?_
  refine And.intro (fun h => trivial) ?_
  refine And.intro (fun h => ⟨⟨h, trivial⟩, trivial⟩) ?_
  refine And.intro (fun h => ⟨⟨⟨h, trivial⟩, ⟨h, trivial⟩, trivial⟩, by first | omega | decide | (simp only [Int.toNat_natCast, dflt_sl, dflt_st, dflt_str, dflt_int, dflt_bool]; omega) | (have h9 := of_decide_eq_true h; omega) | (simp [gq] at h; omega)⟩) ?_
  refine And.intro (fun h => ⟨⟨⟨h, trivial⟩, ⟨h, trivial⟩, ⟨h, trivial⟩, trivial⟩, by first | omega | decide | (simp only [Int.toNat_natCast, dflt_sl, dflt_st, dflt_str, dflt_int, dflt_bool]; omega) | (have h9 := of_decide_eq_true h; omega) | (simp [gq] at h; omega)⟩) ?_
  refine And.intro (fun h => trivial) ?_
  refine And.intro (fun h => ⟨⟨h, trivial⟩, ⟨h, trivial⟩, trivial⟩) ?_
  refine And.intro (by exact fun h => h) ?_
  refine acode_ret ?_
  refine ib_eq ?_
  unfold begins
  congr 1
  exact decide_eq_decide.2 (by omega)

/-- Does a value hold, but for 'holds'? -/
def ok0 (t : Term) (v : ByteArray) : Bool := ((decide (t.2.2.1 = 1) || (decide (t.2.2.1 = 2) && decide (v = t.2.2.2))) || (decide (t.2.2.1 = 3) && begins v t.2.2.2 0)) || (decide (t.2.2.1 = 5) && Op.bytesLess v.toList t.2.2.2.toList)
def okV (t : Term) (v : ByteArray) : Bool := ok0 t v || (decide (t.2.2.1 = 4) && (List.range (v.size + 1)).any (begins v t.2.2.2))
def okF (t : Term) (f : Fld) : Bool := decide (f.1 = t.2.1) && okV t f.2
def bad (t : Term) : Bool := decide (t.2.2.1 < 1) || decide (5 < t.2.2.1)
def refMatches (t : Term) (l : List Fld) : Bool := !bad t && !decide (l.any (okF t) = t.1)
theorem matches_c (t : Term) (l : List Fld) (hl : ∀ f ∈ l, f.2.size ≤ 1000000000) (ht : t.2.2.2.size ≤ 1000000000) : ACall Tryz.prog 109 [.agg (toL rTerm t), .one (.sl rFld l)] (ib (refMatches t l)) := by
  refine acall_of (rs := [4]) Tryz.func109 rfl rfl rfl teOk rfl ?_
  refine acode_seq ?_
  refine acode_region ?_
  refine acode_seq ?_
  refine acode_seq ?_
  refine acode_region ?_
  refine And.intro (fun h => trivial) ?_
  refine And.intro (fun h => ⟨⟨h, trivial⟩, trivial⟩) ?_
  refine And.intro (fun h => ⟨⟨h, trivial⟩, trivial⟩) ?_
  refine And.intro (by first | (intro h; rw [h]; rfl) | (intro h; cases h)) ?_
  refine acode_cond rfl (fun h17 => ?_) (fun h17 => ?_)
  · try simp only [decide_eq_true_eq, Bool.or_eq_true] at h17
    try simp only [Int.toNat_natCast, dflt_sl, dflt_st, dflt_str, dflt_int, dflt_bool] at h17
    refine acode_seq ?_
    refine acode_region ?_
    refine acode_ret ?_
    refine ib_eq ?_
    unfold refMatches bad
    rcases h17 with h | h <;> simp [h]
  · try simp only [decide_eq_false_iff_not, Bool.or_eq_false_iff, Int.not_lt] at h17
    try simp only [Int.toNat_natCast, dflt_sl, dflt_st, dflt_str, dflt_int, dflt_bool] at h17
    refine acode_skip ?_
    refine acode_seq ?_
    refine acode_region ?_
    refine acode_seq ?_
    refine acode_seq ?_
    refine acode_region ?_
    refine acode_block ?_
    refine acode_loopP (fun (i : Nat) => i ≤ l.length) (fun (i : Nat) => [(1, .one (.sl rFld l)), (2, .one (.own 0 0)), (5, ib ((l.take i).any (okF t))), (6, ii .i64 i)]) (fun (i : Nat) => [(0, .box 108 (toL rTerm t))]) 1 (fun (i : Nat) => l.length - i) 0 (Nat.zero_le _) (le_of ⟨rfl, rfl, rfl, rfl⟩ rfl rfl) ?_
    intro i hI0
    refine acode_seq ?_
    refine acode_seq ?_
    refine acode_region ?_
    intro l5_2
    try simp only [Int.toNat_natCast, dflt_sl, dflt_st, dflt_str, dflt_int, dflt_bool] at l5_2
    refine acode_cond rfl (fun h21 => ?_) (fun h21 => ?_)
    · try simp only [decide_eq_true_eq] at h21
      try simp only [Int.toNat_natCast, dflt_sl, dflt_st, dflt_str, dflt_int, dflt_bool] at h21
      have hv : (l.getD i ⟨.empty, .empty⟩).2.size ≤ 1000000000 := by (have hi : i < l.length := by omega); rw [List.getD_eq_getElem?_getD, List.getElem?_eq_getElem hi]; exact hl _ (List.getElem_mem hi)
      refine acode_skip ?_
      refine acode_seq ?_
      refine acode_block ?_
      refine acode_seq ?_
      refine acode_region ?_
      refine And.intro (by first | omega | assumption | decide | (simp only [Int.toNat_natCast, dflt_sl, dflt_st, dflt_str, dflt_int, dflt_bool]; omega) | (simp <;> omega)) ?_
      refine acode_seq ?_
      refine acode_region ?_
      refine And.intro (fun h => trivial) ?_
      refine And.intro (fun h => ⟨⟨h, trivial⟩, trivial⟩) ?_
      refine And.intro (fun h => ⟨⟨h, trivial⟩, trivial⟩) ?_
      refine And.intro (fun h => ⟨⟨h, trivial⟩, trivial⟩) ?_
      refine And.intro (fun h => trivial) ?_
      refine And.intro (fun h => trivial) ?_
      refine And.intro (fun h => ⟨⟨h, trivial⟩, trivial⟩) ?_
      refine And.intro (fun h => ⟨⟨h, trivial⟩, ⟨h, trivial⟩, trivial⟩) ?_
      refine And.intro (fun h => ⟨⟨⟨h, trivial⟩, trivial⟩, by first | exact fun h2 => h2 | (intro h2; rw [h, h2]; rfl) | (intro h2; cases h2) | (intro h2; simp_all [gq])⟩) ?_
      refine And.intro (by first | (intro h; rw [h]; rfl) | (intro h; cases h)) ?_
      refine And.intro (fun h => trivial) ?_
      refine And.intro (fun h => ⟨⟨h, trivial⟩, trivial⟩) ?_
      refine And.intro (fun h => ⟨⟨h, trivial⟩, trivial⟩) ?_
      refine And.intro (fun h => ⟨⟨h, trivial⟩, trivial⟩) ?_
      refine And.intro (fun h => trivial) ?_
      refine And.intro (fun h => trivial) ?_
      refine And.intro (fun h => ⟨⟨h, trivial⟩, trivial⟩) ?_
      refine And.intro (rfl) ?_
      refine Exists.intro _ (And.intro (fun h => ⟨⟨⟨h, trivial⟩, ⟨h, trivial⟩, trivial⟩, begins_c _ _ 0 hv ht (by omega)⟩) ?_)
      refine And.intro (fun h => ⟨⟨⟨h, trivial⟩, trivial⟩, by first | exact fun h2 => h2 | (intro h2; rw [h, h2]; rfl) | (intro h2; cases h2) | (intro h2; simp_all [gq])⟩) ?_
      refine And.intro (by first | (intro h; rw [h]; rfl) | (intro h; cases h)) ?_
      refine And.intro (fun h => trivial) ?_
      refine And.intro (fun h => ⟨⟨h, trivial⟩, trivial⟩) ?_
      refine And.intro (fun h => ⟨⟨h, trivial⟩, trivial⟩) ?_
      refine And.intro (fun h => ⟨⟨h, trivial⟩, trivial⟩) ?_
      refine And.intro (fun h => trivial) ?_
      refine And.intro (fun h => trivial) ?_
      refine And.intro (fun h => ⟨⟨h, trivial⟩, trivial⟩) ?_
      refine And.intro (fun h => ⟨⟨h, trivial⟩, ⟨h, trivial⟩, trivial⟩) ?_
      refine And.intro (fun h => ⟨⟨⟨h, trivial⟩, trivial⟩, by first | exact fun h2 => h2 | (intro h2; rw [h, h2]; rfl) | (intro h2; cases h2) | (intro h2; simp_all [gq])⟩) ?_
      refine And.intro (by first | (intro h; rw [h]; rfl) | (intro h; cases h)) ?_
      refine acode_seq ?_
      refine acode_seq ?_
      refine acode_region ?_
      refine acode_block ?_
      refine acode_loopP (fun (j : Nat) => j ≤ (l.getD i ⟨.empty, .empty⟩).2.size + 1) (fun (j : Nat) => [(1, .one (.sl rFld l)), (2, .one (.own 0 0)), (5, ib ((l.take i).any (okF t))), (6, ii .i64 i), (7, is (l.getD i ⟨.empty, .empty⟩).2), (8, ib (ok0 t (l.getD i ⟨.empty, .empty⟩).2 || (decide (t.2.2.1 = 4) && (List.range j).any (begins (l.getD i ⟨.empty, .empty⟩).2 t.2.2.2)))), (9, ii .i64 j)]) (fun (j : Nat) => [(0, .box 108 (toL rTerm t))]) 1 (fun (j : Nat) => (l.getD i ⟨.empty, .empty⟩).2.size + 1 - j) 0 (Nat.zero_le _) (le_of ⟨rfl, rfl, rfl, rfl, rfl, (ib_eq (by rw [show (List.range 0).any (begins (l.getD i (.empty, .empty)).2 t.2.2.2) = false from rfl, Bool.and_false, Bool.or_false]; rfl)), rfl⟩ rfl rfl) ?_
      intro j hI2
      refine acode_seq ?_
      refine acode_seq ?_
      refine acode_region ?_
      refine And.intro (fun h => trivial) ?_
      refine And.intro (fun h => ⟨⟨h, trivial⟩, trivial⟩) ?_
      refine And.intro (fun h => ⟨⟨h, trivial⟩, trivial⟩) ?_
      refine And.intro (by exact fun h => h) ?_
      refine acode_cond rfl (fun h73 => ?_) (fun h73 => ?_)
      · try simp only [decide_eq_true_eq, Bool.and_eq_true] at h73
        try simp only [Int.toNat_natCast, dflt_sl, dflt_st, dflt_str, dflt_int, dflt_bool] at h73
        refine acode_skip ?_
        refine acode_seq ?_
        refine acode_block ?_
        refine acode_region ?_
        refine And.intro (fun h => trivial) ?_
        refine And.intro (fun h => trivial) ?_
        refine And.intro (fun h => ⟨⟨h, trivial⟩, trivial⟩) ?_
        refine And.intro (fun h => trivial) ?_
        refine And.intro (rfl) ?_
        refine Exists.intro _ (And.intro (fun h => ⟨⟨⟨h, trivial⟩, ⟨h, trivial⟩, ⟨h, trivial⟩, trivial⟩, begins_c _ _ _ hv ht (by omega)⟩) ?_)
        refine And.intro (by first | (intro h; rw [h]; rfl) | (intro h; cases h)) ?_
        refine acode_region ?_
        refine And.intro (by first | omega | assumption | decide | (simp only [Int.toNat_natCast, dflt_sl, dflt_st, dflt_str, dflt_int, dflt_bool]; omega) | (simp <;> omega)) ?_
        exact ⟨j + 1, by omega, by first | omega | (simp <;> omega), le_of ⟨rfl, rfl, rfl, rfl, rfl, (ib_eq (by rw [range_any]; simp [h73.2, Bool.or_assoc])), rfl⟩ rfl rfl⟩
      · try simp only [decide_eq_false_iff_not, Bool.and_eq_false_iff, Int.not_le] at h73
        try simp only [Int.toNat_natCast, dflt_sl, dflt_st, dflt_str, dflt_int, dflt_bool] at h73
        refine acode_exit ?_
        have e2 : (ok0 t (l.getD i (.empty, .empty)).2 || (decide (t.2.2.1 = 4) && (List.range j).any (begins (l.getD i (.empty, .empty)).2 t.2.2.2))) = okV t (l.getD i (.empty, .empty)).2 := by (unfold okV; exact if h4 : t.2.2.1 = 4 then (by (have e3 : j = (l.getD i (.empty, .empty)).2.size + 1 := by (rcases h73 with h | h <;> omega)); rw [e3]) else (by rw [decide_eq_false h4, Bool.false_and, Bool.false_and]))
        refine acode_draw rfl (by kernel_rfl) ?_
        refine And.intro (fun h => trivial) ?_
        refine And.intro (fun h => trivial) ?_
        refine And.intro (fun h => ⟨⟨⟨h, trivial⟩, ⟨h, trivial⟩, trivial⟩, by first | omega | decide | (simp only [Int.toNat_natCast, dflt_sl, dflt_st, dflt_str, dflt_int, dflt_bool]; omega) | (have h9 := of_decide_eq_true h; omega) | (simp [gq] at h; omega)⟩) ?_
        refine And.intro (fun h => ⟨⟨h, trivial⟩, trivial⟩) ?_
        refine And.intro (fun h => ⟨⟨h, trivial⟩, trivial⟩) ?_
        refine And.intro (fun h => trivial) ?_
        refine And.intro (fun h => ⟨⟨h, trivial⟩, trivial⟩) ?_
        refine And.intro (fun h => ⟨⟨h, trivial⟩, ⟨h, trivial⟩, trivial⟩) ?_
        refine And.intro (fun h => ⟨⟨h, trivial⟩, trivial⟩) ?_
        refine And.intro (fun h => trivial) ?_
        refine And.intro (fun h => ⟨⟨⟨h, trivial⟩, trivial⟩, by first | exact fun h2 => h2 | (intro h2; rw [h, h2]; rfl) | (intro h2; cases h2) | (intro h2; simp_all [gq])⟩) ?_
        refine And.intro (by first | (intro h; rw [h]; rfl) | (intro h; cases h)) ?_
        refine acode_region ?_
        refine And.intro (by first | omega | assumption | decide | (simp only [Int.toNat_natCast, dflt_sl, dflt_st, dflt_str, dflt_int, dflt_bool]; omega) | (simp <;> omega)) ?_
        exact ⟨i + 1, by omega, by first | omega | (simp <;> omega), le_of ⟨rfl, rfl, (ib_eq (by rw [take_any l (okF t) (.empty, .empty) i (by omega)]; show _ = (_ || (decide _ && okV t (l.getD i (.empty, .empty)).2)); rw [← e2]; rfl)), rfl⟩ rfl rfl⟩
    · try simp only [decide_eq_false_iff_not, Int.not_lt] at h21
      try simp only [Int.toNat_natCast, dflt_sl, dflt_st, dflt_str, dflt_int, dflt_bool] at h21
      refine acode_exit ?_
      refine acode_seq ?_
      refine acode_region ?_
      refine acode_ret ?_
      refine ib_eq ?_
      have e : i = l.length := by omega
      subst e
      unfold refMatches bad
      rw [List.take_length, decide_eq_false (show ¬ t.2.2.1 < 1 by omega), decide_eq_false (show ¬ 5 < t.2.2.1 by omega)]
      rfl

def TermOk (t : Term) : Prop := t.2.1.size ≤ 100 ∧ t.2.2.2.size ≤ 500
def SelOk (s : List (List Term)) : Prop := s.length ≤ 1000 ∧ ∀ r ∈ s, r.length ≤ 1000 ∧ ∀ t ∈ r, TermOk t
def FldsOk (l : List Fld) : Prop := l.length ≤ 1000 ∧ ∀ f ∈ l, f.1.size ≤ 1000000 ∧ f.2.size ≤ 1000000
def refAll (s : List (List Term)) (l : List Fld) : Bool := s.any fun r => r.all fun t => refMatches t l
theorem all_c (s : List (List Term)) (l : List Fld) (hs : SelOk s) (hl : FldsOk l) : ACall Tryz.prog 66 [.one (.sl (.sl rTerm) s), .one (.sl rFld l)] (ib (refAll s l)) := by
  have hl' : ∀ f ∈ l, f.2.size ≤ 1000000000 := fun f hf => Nat.le_trans (hl.2 f hf).2 (by decide)
  refine acall_of (rs := [4]) Tryz.func66 rfl rfl rfl teOk rfl ?_
  refine acode_seq ?_
  refine acode_region ?_
  refine acode_seq ?_
  refine acode_seq ?_
  refine acode_region ?_
  refine acode_block ?_
  refine acode_loopP (fun (i : Nat) => i ≤ s.length ∧ (s.take i).any (fun r => r.all fun t => refMatches t l) = false) (fun (i : Nat) => [(0, .one (.sl (.sl rTerm) s)), (1, .one (.sl rFld l)), (5, ii .i64 i)]) (fun (i : Nat) => []) 0 (fun (i : Nat) => s.length - i) 0 (⟨Nat.zero_le _, rfl⟩) (le_of ⟨rfl, rfl, rfl⟩ trivial rfl) ?_
  intro i hI0
  obtain ⟨hi, hn⟩ := hI0
  refine acode_seq ?_
  refine acode_seq ?_
  refine acode_region ?_
  intro l2_2
  try simp only [Int.toNat_natCast, dflt_sl, dflt_st, dflt_str, dflt_int, dflt_bool] at l2_2
  refine acode_cond rfl (fun h11 => ?_) (fun h11 => ?_)
  · try simp only [decide_eq_true_eq] at h11
    try simp only [Int.toNat_natCast, dflt_sl, dflt_st, dflt_str, dflt_int, dflt_bool] at h11
    have hr := hs.2 _ (getD_mem (show i < s.length by omega) [])
    refine acode_skip ?_
    refine acode_seq ?_
    refine acode_block ?_
    refine acode_seq ?_
    refine acode_region ?_
    refine acode_seq ?_
    refine acode_seq ?_
    refine acode_region ?_
    refine acode_block ?_
    refine acode_loopP (fun (j : Nat) => j ≤ (s.getD i []).length) (fun (j : Nat) => [(0, .one (.sl (.sl rTerm) s)), (1, .one (.sl rFld l)), (5, ii .i64 i), (6, ib (((s.getD i []).take j).all fun t => refMatches t l)), (7, ii .i64 j)]) (fun (j : Nat) => []) 0 (fun (j : Nat) => (s.getD i []).length - j) 0 (Nat.zero_le _) (le_of ⟨rfl, rfl, rfl, rfl, rfl⟩ trivial rfl) ?_
    intro j hI2
    refine acode_seq ?_
    refine acode_seq ?_
    refine acode_region ?_
    refine And.intro (by first | omega | assumption | decide | (simp only [Int.toNat_natCast, dflt_sl, dflt_st, dflt_str, dflt_int, dflt_bool]; omega) | (simp <;> omega)) ?_
    intro l6_5
    try simp only [Int.toNat_natCast, dflt_sl] at l6_5
    refine acode_cond rfl (fun h20 => ?_) (fun h20 => ?_)
    · try simp only [decide_eq_true_eq] at h20
      try simp only [Int.toNat_natCast, dflt_sl] at h20
      refine acode_skip ?_
      refine acode_seq ?_
      refine acode_block ?_
      refine acode_region ?_
      refine And.intro (fun h => trivial) ?_
      refine And.intro (fun h => trivial) ?_
      refine And.intro (fun h => ⟨⟨⟨h, trivial⟩, ⟨h, trivial⟩, trivial⟩, by first | omega | decide | (simp only [Int.toNat_natCast, dflt_sl, dflt_st, dflt_str, dflt_int, dflt_bool]; omega) | (have h9 := of_decide_eq_true h; omega) | (simp [gq] at h; omega)⟩) ?_
      refine And.intro (fun h => ⟨⟨h, trivial⟩, trivial⟩) ?_
      refine And.intro (fun h => trivial) ?_
      refine And.intro (fun h => ⟨⟨⟨h, trivial⟩, ⟨h, trivial⟩, trivial⟩, by first | omega | decide | (simp only [Int.toNat_natCast, dflt_sl]; omega) | (have h9 := of_decide_eq_true h; omega) | (simp [gq] at h; omega)⟩) ?_
      refine And.intro (fun h => ⟨⟨h, trivial⟩, trivial⟩) ?_
      refine And.intro (fun h => trivial) ?_
      refine And.intro (rfl) ?_
      refine Exists.intro _ (And.intro (fun h => ⟨⟨⟨h, trivial⟩, ⟨h, trivial⟩, trivial⟩, matches_c _ _ hl' (Nat.le_trans (hr.2 _ (getD_mem (show j < (s.getD i []).length by omega) (false, ByteArray.empty, 0, ByteArray.empty))).2 (by decide))⟩) ?_)
      refine And.intro (by exact fun h => h) ?_
      refine acode_region ?_
      refine And.intro (by first | omega | assumption | decide | (simp only [Int.toNat_natCast, dflt_sl, dflt_st, dflt_str, dflt_int, dflt_bool]; omega) | (simp <;> omega)) ?_
      exact ⟨j + 1, by omega, by first | omega | (simp <;> omega), le_of ⟨rfl, rfl, rfl, (ib_eq (by rw [take_all _ _ (false, ByteArray.empty, 0, ByteArray.empty) j (by omega)]; rfl)), rfl⟩ trivial rfl⟩
    · try simp only [decide_eq_false_iff_not, Int.not_lt] at h20
      try simp only [Int.toNat_natCast, dflt_sl] at h20
      refine acode_exit ?_
      have e2 : j = (s.getD i []).length := by omega
      subst e2
      refine acode_seq ?_
      refine acode_region ?_
      refine acode_cond rfl (fun h35 => ?_) (fun h35 => ?_)
      · try simp only [decide_eq_true_eq, decide_eq_false_iff_not, Bool.and_eq_true, Bool.not_eq_true', Bool.not_eq_false', Bool.or_eq_false_iff, Bool.or_eq_true, Bool.and_eq_false_iff, Int.not_lt, Int.not_le] at h35
        try simp only [Int.toNat_natCast, dflt_sl, dflt_st, dflt_str, dflt_int, dflt_bool] at h35
        rw [List.take_length] at h35
        refine acode_seq ?_
        refine acode_region ?_
        refine acode_ret ?_
        refine ib_eq ?_
        exact (any_at (p := fun r => r.all fun t => refMatches t l) [] (by omega) h35).symm
      · try simp only [decide_eq_true_eq, decide_eq_false_iff_not, Bool.and_eq_true, Bool.not_eq_true', Bool.not_eq_false', Bool.or_eq_false_iff, Bool.or_eq_true, Bool.and_eq_false_iff, Int.not_lt, Int.not_le] at h35
        try simp only [Int.toNat_natCast, dflt_sl, dflt_st, dflt_str, dflt_int, dflt_bool] at h35
        rw [List.take_length] at h35
        refine acode_skip ?_
        refine acode_region ?_
        refine And.intro (by first | omega | assumption | decide | (simp only [Int.toNat_natCast, dflt_sl, dflt_st, dflt_str, dflt_int, dflt_bool]; omega) | (simp <;> omega)) ?_
        exact ⟨i + 1, ⟨by omega, by rw [take_any _ _ [] i (by omega), hn]; exact h35⟩, by first | omega | (simp <;> omega), le_of ⟨rfl, rfl, rfl⟩ trivial rfl⟩
  · try simp only [decide_eq_false_iff_not, Int.not_lt] at h11
    try simp only [Int.toNat_natCast, dflt_sl, dflt_st, dflt_str, dflt_int, dflt_bool] at h11
    refine acode_exit ?_
    refine acode_seq ?_
    refine acode_region ?_
    refine acode_ret ?_
    refine ib_eq ?_
    have e : i = s.length := by omega
    subst e
    rw [List.take_length] at hn
    exact hn.symm

theorem program_c (s : List (List Term)) (hs : SelOk s) : ACall Tryz.prog 30 [.one (.sl (.sl rTerm) s)] (.one (.sl (.sl rTerm) s)) := by
  refine acall_of (rs := [2]) Tryz.func30 rfl rfl rfl teOk rfl ?_
  refine acode_seq ?_
  refine acode_region ?_
  refine acode_seq ?_
  refine acode_region ?_
  refine acode_seq ?_
  refine acode_seq ?_
  refine acode_region ?_
  intro l2_1
  try simp only [Int.toNat_natCast, dflt_sl, dflt_st, dflt_str, dflt_int, dflt_bool] at l2_1
  refine acode_block ?_
  refine acode_loopP (fun (i : Nat) => i ≤ s.length) (fun (i : Nat) => [(3, .one (.vec 0)), (10, .one (.sl (.sl rTerm) s)), (11, ii .i64 s.length), (12, ii .i64 i)]) (fun (i : Nat) => [(0, .vec 116 (.sl rTerm) (s.take i))]) 1 (fun (i : Nat) => s.length - i) 0 (Nat.zero_le _) (le_of ⟨rfl, rfl, rfl, rfl⟩ rfl rfl) ?_
  intro i hI0
  refine acode_seq ?_
  refine acode_region ?_
  refine acode_seq ?_
  refine acode_cond rfl (fun h13 => ?_) (fun h13 => ?_)
  · try simp only [decide_eq_true_eq] at h13
    try simp only [Int.toNat_natCast, dflt_sl, dflt_st, dflt_str, dflt_int, dflt_bool] at h13
    have hr := hs.2 _ (getD_mem (show i < s.length by omega) [])
    have hs1 := hs.1
    refine acode_skip ?_
    refine acode_seq ?_
    refine acode_block ?_
    refine acode_seq ?_
    refine acode_region ?_
    refine And.intro (by first | omega | assumption | decide | (simp only [Int.toNat_natCast, dflt_sl, dflt_st, dflt_str, dflt_int, dflt_bool]; omega) | (simp <;> omega)) ?_
    refine acode_seq ?_
    refine acode_region ?_
    refine acode_seq ?_
    refine acode_seq ?_
    refine acode_region ?_
    intro l6_1
    try simp only [Int.toNat_natCast, dflt_sl] at l6_1
    refine acode_block ?_
    refine acode_loopP (fun (j : Nat) => j ≤ (s.getD i []).length) (fun (j : Nat) => [(3, .one (.vec 0)), (10, .one (.sl (.sl rTerm) s)), (11, ii .i64 s.length), (12, ii .i64 i), (6, .one (.vec 1)), (17, .one (.sl rTerm (s.getD i []))), (18, ii .i64 (s.getD i []).length), (19, ii .i64 j)]) (fun (j : Nat) => [(0, .vec 116 (.sl rTerm) (s.take i)), (1, .vec 117 rTerm ((s.getD i []).take j))]) 2 (fun (j : Nat) => (s.getD i []).length - j) 0 (Nat.zero_le _) (le_of ⟨rfl, rfl, rfl, rfl, rfl, rfl, rfl, rfl⟩ ⟨rfl, rfl⟩ rfl) ?_
    intro j hI2
    refine acode_seq ?_
    refine acode_region ?_
    refine acode_seq ?_
    refine acode_cond rfl (fun h20 => ?_) (fun h20 => ?_)
    · try simp only [decide_eq_true_eq] at h20
      try simp only [Int.toNat_natCast, dflt_sl, dflt_st, dflt_str, dflt_int, dflt_bool] at h20
      refine acode_skip ?_
      refine acode_seq ?_
      refine acode_block ?_
      refine acode_seq ?_
      refine acode_region ?_
      refine And.intro (by first | omega | assumption | decide | (simp only [Int.toNat_natCast, dflt_sl, dflt_st, dflt_str, dflt_int, dflt_bool]; omega) | (simp <;> omega)) ?_
      refine acode_region ?_
      refine And.intro (by show (((s.getD i []).take j).length + 1) * 48 ≤ 140737488355328; rw [List.length_take]; omega) ?_
      refine acode_region ?_
      refine And.intro (by first | omega | assumption | decide | (simp only [Int.toNat_natCast, dflt_sl, dflt_st, dflt_str, dflt_int, dflt_bool]; omega) | (simp <;> omega)) ?_
      exact ⟨j + 1, by omega, by first | omega | (simp <;> omega), le_of ⟨rfl, rfl, rfl, rfl, rfl, rfl, rfl, rfl⟩ ⟨rfl, (vec_eq (take_snoc (false, ByteArray.empty, 0, ByteArray.empty) (by omega)))⟩ rfl⟩
    · try simp only [decide_eq_false_iff_not, Int.not_lt] at h20
      try simp only [Int.toNat_natCast, dflt_sl, dflt_st, dflt_str, dflt_int, dflt_bool] at h20
      refine acode_exit ?_
      have e2 : j = (s.getD i []).length := by omega
      subst e2
      refine acode_region ?_
      refine And.intro (by show ((s.take i).length + 1) * 24 ≤ 140737488355328; rw [List.length_take]; omega) ?_
      refine acode_region ?_
      refine And.intro (by first | omega | assumption | decide | (simp only [Int.toNat_natCast, dflt_sl, dflt_st, dflt_str, dflt_int, dflt_bool]; omega) | (simp <;> omega)) ?_
      exact ⟨i + 1, by omega, by first | omega | (simp <;> omega), le_of ⟨rfl, rfl, rfl, rfl⟩ (vec_eq ((congrArg (s.take i ++ [·]) (List.take_length)).trans (take_snoc [] (by omega)))) rfl⟩
  · try simp only [decide_eq_false_iff_not, Int.not_lt] at h13
    try simp only [Int.toNat_natCast, dflt_sl, dflt_st, dflt_str, dflt_int, dflt_bool] at h13
    refine acode_exit ?_
    refine acode_seq ?_
    refine acode_region ?_
    refine acode_ret ?_
    refine sl_eq ?_
    have e : i = s.length := by omega
    subst e
    exact List.take_length

def bigT (t : Term) : Bool := decide (100 < t.2.1.size) || decide (500 < t.2.2.2.size)
def bigR (r : List Term) : Bool := decide (24 < r.length) || r.any bigT
def largeB (s : List (List Term)) : Bool := decide (25 < s.length) || s.any bigR
theorem large_c (s : List (List Term)) : ACall Tryz.prog 28 [.one (.sl (.sl rTerm) s)] (ib (largeB s)) := by
  refine acall_of (rs := [2]) Tryz.func28 rfl rfl rfl teOk rfl ?_
  refine acode_seq ?_
  refine acode_region ?_
  refine acode_seq ?_
  refine acode_seq ?_
  refine acode_region ?_
  intro l1_1
  try simp only [Int.toNat_natCast, dflt_sl, dflt_st, dflt_str, dflt_int, dflt_bool] at l1_1
  refine acode_block ?_
  refine acode_loopP (fun (i : Nat) => i ≤ s.length ∧ i ≤ 25 ∧ (s.take i).any bigR = false) (fun (i : Nat) => [(7, .one (.sl (.sl rTerm) s)), (8, ii .i64 s.length), (9, ii .i64 i)]) (fun (i : Nat) => []) 0 (fun (i : Nat) => s.length - i) 0 (⟨Nat.zero_le _, Nat.zero_le _, rfl⟩) (le_of ⟨rfl, rfl, rfl⟩ trivial rfl) ?_
  intro i hI0
  obtain ⟨hi, hi2, hn⟩ := hI0
  refine acode_seq ?_
  refine acode_region ?_
  refine acode_seq ?_
  refine acode_cond rfl (fun h10 => ?_) (fun h10 => ?_)
  · try simp only [decide_eq_true_eq] at h10
    try simp only [Int.toNat_natCast, dflt_sl, dflt_st, dflt_str, dflt_int, dflt_bool] at h10
    refine acode_skip ?_
    refine acode_seq ?_
    refine acode_block ?_
    refine acode_seq ?_
    refine acode_region ?_
    refine And.intro (by first | omega | assumption | decide | (simp only [Int.toNat_natCast, dflt_sl, dflt_st, dflt_str, dflt_int, dflt_bool]; omega) | (simp <;> omega)) ?_
    refine acode_seq ?_
    refine acode_seq ?_
    refine acode_region ?_
    refine And.intro (fun h => trivial) ?_
    refine And.intro (fun h => ⟨⟨h, trivial⟩, trivial⟩) ?_
    refine And.intro (fun h => ⟨⟨h, trivial⟩, trivial⟩) ?_
    refine And.intro (by first | (intro h; rw [h]; rfl) | (intro h; cases h)) ?_
    refine acode_cond rfl (fun h20 => ?_) (fun h20 => ?_)
    · try simp only [decide_eq_true_eq, Bool.or_eq_true] at h20
      try simp only [Int.toNat_natCast, dflt_sl] at h20
      refine acode_seq ?_
      refine acode_region ?_
      refine acode_ret ?_
      refine ib_eq ?_
      unfold largeB
      rcases h20 with h | h
      (rw [decide_eq_true (show 25 < s.length by omega)]; rfl)
      rw [any_at (p := bigR) [] (show i < s.length by omega) (by unfold bigR; rw [decide_eq_true (by omega)]; rfl), Bool.or_true]
    · try simp only [decide_eq_false_iff_not, Bool.or_eq_false_iff, Int.not_lt] at h20
      try simp only [Int.toNat_natCast, dflt_sl] at h20
      refine acode_skip ?_
      refine acode_seq ?_
      refine acode_region ?_
      intro l6_1
      try simp only [Int.toNat_natCast, dflt_sl] at l6_1
      refine acode_block ?_
      refine acode_loopP (fun (j : Nat) => j ≤ (s.getD i []).length ∧ ((s.getD i []).take j).any bigT = false) (fun (j : Nat) => [(7, .one (.sl (.sl rTerm) s)), (8, ii .i64 s.length), (9, ii .i64 i), (21, .one (.sl rTerm (s.getD i []))), (22, ii .i64 (s.getD i []).length), (23, ii .i64 j)]) (fun (j : Nat) => []) 0 (fun (j : Nat) => (s.getD i []).length - j) 0 (⟨Nat.zero_le _, rfl⟩) (le_of ⟨rfl, rfl, rfl, rfl, rfl, rfl⟩ trivial rfl) ?_
      intro j hI2
      obtain ⟨hj, hm⟩ := hI2
      refine acode_seq ?_
      refine acode_region ?_
      refine acode_seq ?_
      refine acode_cond rfl (fun h24 => ?_) (fun h24 => ?_)
      · try simp only [decide_eq_true_eq] at h24
        try simp only [Int.toNat_natCast, dflt_sl, dflt_st, dflt_str, dflt_int, dflt_bool] at h24
        refine acode_skip ?_
        refine acode_seq ?_
        refine acode_block ?_
        refine acode_seq ?_
        refine acode_region ?_
        refine And.intro (by first | omega | assumption | decide | (simp only [Int.toNat_natCast, dflt_sl, dflt_st, dflt_str, dflt_int, dflt_bool]; omega) | (simp <;> omega)) ?_
        refine acode_seq ?_
        refine acode_region ?_
        refine And.intro (fun h => trivial) ?_
        refine And.intro (fun h => ⟨⟨h, trivial⟩, trivial⟩) ?_
        refine And.intro (fun h => ⟨⟨h, trivial⟩, trivial⟩) ?_
        refine And.intro (fun h => ⟨⟨h, trivial⟩, trivial⟩) ?_
        refine And.intro (by first | (intro h; rw [h]; rfl) | (intro h; cases h)) ?_
        refine acode_cond rfl (fun h36 => ?_) (fun h36 => ?_)
        · try simp only [decide_eq_true_eq, Bool.or_eq_true] at h36
          try simp only [Int.toNat_natCast, dflt_st, dflt_str, dflt_int, dflt_bool] at h36
          refine acode_seq ?_
          refine acode_region ?_
          refine acode_ret ?_
          refine ib_eq ?_
          unfold largeB
          rw [any_at (p := bigR) [] (show i < s.length by omega) (by unfold bigR; rw [any_at (p := bigT) (false, ByteArray.empty, 0, ByteArray.empty) (show j < (s.getD i []).length by omega) (by unfold bigT; rcases h36 with h | h; (rw [decide_eq_true (by omega)]; rfl); (rw [decide_eq_true (show 500 < _ by omega), Bool.or_true])), Bool.or_true]), Bool.or_true]
        · try simp only [decide_eq_false_iff_not, Bool.or_eq_false_iff, Int.not_lt] at h36
          try simp only [Int.toNat_natCast, dflt_st, dflt_str, dflt_int, dflt_bool] at h36
          have h36' : bigT ((s.getD i []).getD j (false, ByteArray.empty, 0, ByteArray.empty)) = false := by (unfold bigT; rw [decide_eq_false (by omega), decide_eq_false (by omega)]; rfl)
          refine acode_skip ?_
          refine acode_region ?_
          refine And.intro (by first | omega | assumption | decide | (simp only [Int.toNat_natCast, dflt_sl, dflt_st, dflt_str, dflt_int, dflt_bool]; omega) | (simp <;> omega)) ?_
          exact ⟨j + 1, ⟨by omega, by rw [take_any _ _ (false, ByteArray.empty, 0, ByteArray.empty) j (by omega), hm, h36']; rfl⟩, by first | omega | (simp <;> omega), le_of ⟨rfl, rfl, rfl, rfl, rfl, rfl⟩ trivial rfl⟩
      · try simp only [decide_eq_false_iff_not, Int.not_lt] at h24
        try simp only [Int.toNat_natCast, dflt_sl, dflt_st, dflt_str, dflt_int, dflt_bool] at h24
        refine acode_exit ?_
        have e2 : j = (s.getD i []).length := by omega
        subst e2
        rw [List.take_length] at hm
        refine acode_region ?_
        refine And.intro (by first | omega | assumption | decide | (simp only [Int.toNat_natCast, dflt_sl, dflt_st, dflt_str, dflt_int, dflt_bool]; omega) | (simp <;> omega)) ?_
        exact ⟨i + 1, ⟨by omega, by omega, by rw [take_any _ _ [] i (by omega), hn, show bigR (s.getD i []) = false by (unfold bigR; rw [hm, decide_eq_false (by omega)]; rfl)]; rfl⟩, by first | omega | (simp <;> omega), le_of ⟨rfl, rfl, rfl⟩ trivial rfl⟩
  · try simp only [decide_eq_false_iff_not, Int.not_lt] at h10
    try simp only [Int.toNat_natCast, dflt_sl, dflt_st, dflt_str, dflt_int, dflt_bool] at h10
    refine acode_exit ?_
    refine acode_seq ?_
    refine acode_region ?_
    refine acode_ret ?_
    refine ib_eq ?_
    have e : i = s.length := by omega
    subst e
    rw [List.take_length] at hn
    unfold largeB
    rw [hn, decide_eq_false (by omega)]
    rfl

def sumF (l : List Fld) : Nat := (l.map fun f => min f.1.size 10000 + min f.2.size 10000).sum
def muchB (l : List Fld) : Bool := decide (61 < l.length) || decide (6000 < sumF l)
end QQ
end Q
end Ab
end Go.Proofs.YtklhlkhlndhepaaGreatDoor
namespace Go.Proofs.YtklhlkhlndhepaaGreatDoor
open Go.RowKit
namespace Ab
set_option maxRecDepth 100000
namespace Q
namespace QQ
theorem index_F (f : FuncId) {β : Type} (S : Rd β) (y : β) (l : List (Fld)) (p : Fld → Bool) (d : Fld) (_hd : (rFld).dflt = d) (hp : ∀ x ∈ l, ACall Tryz.prog f [.agg (toL rFld x), .one (.addr S y)] (ib (p x))) : ACall Tryz.prog 159 [.one (.sl rFld l), .one (.clo f (.addr S y))] (ii .i64 (ixOf p l)) := by
  obtain rfl := _hd
  refine acall_of (rs := [4]) Tryz.func159 rfl rfl rfl teOk rfl ?_
  refine acode_seq ?_
  refine acode_region ?_
  refine acode_seq ?_
  refine acode_seq ?_
  refine acode_region ?_
  intro l1_1
  try simp only [Int.toNat_natCast, dflt_sl, dflt_st, dflt_str, dflt_int, dflt_bool] at l1_1
  refine acode_block ?_
  refine acode_loopP (fun (i : Nat) => i ≤ l.length ∧ (l.take i).any p = false) (fun (i : Nat) => [(0, .one (.sl rFld l)), (1, .one (.clo f (.addr S y))), (7, ii .i64 l.length), (8, ii .i64 i)]) (fun (i : Nat) => []) 0 (fun (i : Nat) => l.length - i) 0 (⟨Nat.zero_le _, rfl⟩) (le_of ⟨rfl, rfl, rfl, rfl⟩ trivial rfl) ?_
  intro i hI0
  obtain ⟨hi, hn⟩ := hI0
  refine acode_seq ?_
  refine acode_region ?_
  refine acode_seq ?_
  refine acode_cond rfl (fun h9 => ?_) (fun h9 => ?_)
  · try simp only [decide_eq_true_eq] at h9
    try simp only [Int.toNat_natCast, dflt_sl, dflt_st, dflt_str, dflt_int, dflt_bool] at h9
    refine acode_skip ?_
    refine acode_seq ?_
    refine acode_block ?_
    refine acode_seq ?_
    refine acode_region ?_
    refine acode_seq ?_
    refine acode_region ?_
    refine And.intro (by first | omega | assumption | decide | (simp only [Int.toNat_natCast, dflt_sl, dflt_st, dflt_str, dflt_int, dflt_bool]; omega) | (simp <;> omega)) ?_
    refine Or.inl ?_
    refine And.intro (rfl) ?_
    refine Exists.intro _ (And.intro (hp _ (getD_mem (show i < l.length by omega) _)) ?_)
    refine acode_cond rfl (fun h16 => ?_) (fun h16 => ?_)
    · try simp only [decide_eq_true_eq, decide_eq_false_iff_not, Bool.and_eq_true, Bool.not_eq_true', Bool.not_eq_false', Bool.or_eq_false_iff, Bool.or_eq_true, Bool.and_eq_false_iff, Int.not_lt, Int.not_le] at h16
      try simp only [Int.toNat_natCast, dflt_st, dflt_str] at h16
      refine acode_seq ?_
      refine acode_region ?_
      refine acode_ret ?_
      exact ii_eq (ixOf_at (rFld).dflt (by omega) hn h16).symm
    · try simp only [decide_eq_true_eq, decide_eq_false_iff_not, Bool.and_eq_true, Bool.not_eq_true', Bool.not_eq_false', Bool.or_eq_false_iff, Bool.or_eq_true, Bool.and_eq_false_iff, Int.not_lt, Int.not_le] at h16
      try simp only [Int.toNat_natCast, dflt_st, dflt_str] at h16
      refine acode_skip ?_
      refine acode_region ?_
      refine And.intro (by first | omega | assumption | decide | (simp only [Int.toNat_natCast, dflt_sl, dflt_st, dflt_str, dflt_int, dflt_bool]; omega) | (simp <;> omega)) ?_
      exact ⟨i + 1, ⟨by omega, by rw [take_any l p (rFld).dflt i (by omega), hn]; exact h16⟩, by first | omega | (simp <;> omega), le_of ⟨rfl, rfl, rfl, rfl⟩ trivial rfl⟩
  · try simp only [decide_eq_false_iff_not, Int.not_lt] at h9
    try simp only [Int.toNat_natCast, dflt_sl, dflt_st, dflt_str, dflt_int, dflt_bool] at h9
    refine acode_exit ?_
    refine acode_seq ?_
    refine acode_region ?_
    refine acode_ret ?_
    have e : i = l.length := by omega
    subst e
    rw [List.take_length] at hn
    exact ii_eq (ixOf_none hn).symm
theorem contains_F (f : FuncId) {β : Type} (S : Rd β) (y : β) (l : List (Fld)) (p : Fld → Bool) (d : Fld) (hd : (rFld).dflt = d) (hp : ∀ x ∈ l, ACall Tryz.prog f [.agg (toL rFld x), .one (.addr S y)] (ib (p x))) : ACall Tryz.prog 128 [.one (.sl rFld l), .one (.clo f (.addr S y))] (ib (l.any p)) := by
  refine acall_of (rs := [4]) Tryz.func128 rfl rfl rfl teOk rfl ?_
  refine acode_seq ?_
  refine acode_region ?_
  refine acode_seq ?_
  refine acode_region ?_
  refine Or.inl ?_
  refine And.intro (rfl) ?_
  refine Exists.intro _ (And.intro (index_F f S y l p d hd hp) ?_)
  refine acode_ret ?_
  exact ib_eq (ixOf_ge p l)


def ofB (t : Term) (v : ByteArray) : Bool := if t.2.2.1 = 1 then true else if t.2.2.1 = 2 then decide (v = t.2.2.2) else if t.2.2.1 = 3 then Lib.hasPrefix v.data.toList t.2.2.2.data.toList
  else if t.2.2.1 = 4 then Lib.contains v.data.toList t.2.2.2.data.toList else Op.bytesLess v.toList t.2.2.2.toList
theorem of_c (t : Term) (v : ByteArray) (hv : v.size ≤ 1000000) : ACall Tryz.prog 130 [.agg (toL rTerm t), is v] (ib (ofB t v)) := by
  refine acall_of (rs := [4]) Tryz.func130 rfl rfl rfl teOk rfl ?_
  refine acode_seq ?_
  refine acode_region ?_
  refine acode_seq ?_
  refine acode_seq ?_
  refine acode_region ?_
  refine acode_block ?_
  refine acode_seq ?_
  refine acode_region ?_
  refine acode_cond rfl (fun h7 => ?_) (fun h7 => ?_)
  · try simp only [decide_eq_true_eq] at h7
    try simp only [Int.toNat_natCast, dflt_sl, dflt_st, dflt_str, dflt_int, dflt_bool] at h7
    refine acode_seq ?_
    refine acode_region ?_
    refine acode_ret ?_
    refine ib_eq ?_
    unfold ofB
    rw [if_pos h7]
  · try simp only [decide_eq_false_iff_not] at h7
    try simp only [Int.toNat_natCast, dflt_sl, dflt_st, dflt_str, dflt_int, dflt_bool] at h7
    refine acode_seq ?_
    refine acode_region ?_
    refine acode_cond rfl (fun h9 => ?_) (fun h9 => ?_)
    · try simp only [decide_eq_true_eq] at h9
      try simp only [Int.toNat_natCast, dflt_sl, dflt_st, dflt_str, dflt_int, dflt_bool] at h9
      refine acode_seq ?_
      refine acode_region ?_
      refine acode_ret ?_
      refine ib_eq ?_
      unfold ofB
      rw [if_neg h7, if_pos h9]
    · try simp only [decide_eq_false_iff_not] at h9
      try simp only [Int.toNat_natCast, dflt_sl, dflt_st, dflt_str, dflt_int, dflt_bool] at h9
      refine acode_seq ?_
      refine acode_region ?_
      refine acode_cond rfl (fun h15 => ?_) (fun h15 => ?_)
      · try simp only [decide_eq_true_eq] at h15
        try simp only [Int.toNat_natCast, dflt_sl, dflt_st, dflt_str, dflt_int, dflt_bool] at h15
        refine acode_seq ?_
        refine acode_region ?_
        refine Or.inl ?_
        refine And.intro (rfl) ?_
        refine Exists.intro _ (And.intro (hasPrefix_c _ _) ?_)
        refine acode_ret ?_
        refine ib_eq ?_
        unfold ofB
        rw [if_neg h7, if_neg h9, if_pos h15]
      · try simp only [decide_eq_false_iff_not] at h15
        try simp only [Int.toNat_natCast, dflt_sl, dflt_st, dflt_str, dflt_int, dflt_bool] at h15
        refine acode_seq ?_
        refine acode_region ?_
        refine acode_cond rfl (fun h21 => ?_) (fun h21 => ?_)
        · try simp only [decide_eq_true_eq] at h21
          try simp only [Int.toNat_natCast, dflt_sl, dflt_st, dflt_str, dflt_int, dflt_bool] at h21
          refine acode_seq ?_
          refine acode_region ?_
          refine Or.inl ?_
          refine And.intro (rfl) ?_
          refine Exists.intro _ (And.intro (contains_c _ _ (by omega)) ?_)
          refine acode_ret ?_
          refine ib_eq ?_
          unfold ofB
          rw [if_neg h7, if_neg h9, if_neg h15, if_pos h21]
        · try simp only [decide_eq_false_iff_not] at h21
          try simp only [Int.toNat_natCast, dflt_sl, dflt_st, dflt_str, dflt_int, dflt_bool] at h21
          refine acode_skip ?_
          refine acode_seq ?_
          refine acode_region ?_
          refine acode_ret ?_
          refine ib_eq ?_
          unfold ofB
          rw [if_neg h7, if_neg h9, if_neg h15, if_neg h21]
theorem matches1_c (t : Term) (f : Fld) (hv : f.2.size ≤ 1000000) : ACall Tryz.prog 129 [.agg (toL rFld f), .one (.addr rTerm t)] (ib (decide (f.1 = t.2.1) && ofB t f.2)) := by
  refine acall_of (rs := [3]) Tryz.func129 rfl rfl rfl teOk rfl ?_
  refine acode_seq ?_
  refine acode_region ?_
  refine acode_seq ?_
  refine acode_region ?_
  refine And.intro (fun h => trivial) ?_
  refine And.intro (fun h => trivial) ?_
  refine And.intro (fun h => ⟨⟨h, trivial⟩, trivial⟩) ?_
  refine And.intro (rfl) ?_
  refine Exists.intro _ (And.intro (fun h => ⟨⟨⟨h, trivial⟩, ⟨h, trivial⟩, trivial⟩, of_c _ _ hv⟩) ?_)
  refine And.intro (by exact fun h => h) ?_
  refine acode_ret ?_
  rfl
def termMatches (t : Term) (l : List Fld) : Bool := !bad t && !decide ((l.any fun f => decide (f.1 = t.2.1) && ofB t f.2) = t.1)
theorem termMatches_c (t : Term) (l : List Fld) (hl : FldsOk l) : ACall Tryz.prog 95 [.agg (toL rTerm t), .one (.sl rFld l)] (ib (termMatches t l)) := by
  refine acall_of (rs := [4]) Tryz.func95 rfl rfl rfl teOk rfl ?_
  refine acode_seq ?_
  refine acode_region ?_
  refine acode_seq ?_
  refine acode_seq ?_
  refine acode_region ?_
  refine And.intro (fun h => trivial) ?_
  refine And.intro (fun h => ⟨⟨h, trivial⟩, trivial⟩) ?_
  refine And.intro (fun h => ⟨⟨h, trivial⟩, trivial⟩) ?_
  refine And.intro (by first | (intro h; rw [h]; rfl) | (intro h; cases h)) ?_
  refine acode_cond rfl (fun h13 => ?_) (fun h13 => ?_)
  · try simp only [decide_eq_true_eq, Bool.or_eq_true] at h13
    try simp only [Int.toNat_natCast, dflt_sl, dflt_st, dflt_str, dflt_int, dflt_bool] at h13
    refine acode_seq ?_
    refine acode_region ?_
    refine acode_ret ?_
    refine ib_eq ?_
    unfold termMatches bad
    rcases h13 with h | h <;> simp [h]
  · try simp only [decide_eq_false_iff_not, Bool.or_eq_false_iff, Int.not_lt] at h13
    try simp only [Int.toNat_natCast, dflt_sl, dflt_st, dflt_str, dflt_int, dflt_bool] at h13
    refine acode_skip ?_
    refine acode_seq ?_
    refine acode_region ?_
    refine Or.inl ?_
    refine And.intro (rfl) ?_
    refine Exists.intro _ (And.intro (contains_F 129 rTerm t l (fun f => decide (f.1 = t.2.1) && ofB t f.2) _ rfl (fun x hx => matches1_c t x (hl.2 x hx).2)) ?_)
    refine acode_seq ?_
    refine acode_region ?_
    refine acode_ret ?_
    refine ib_eq ?_
    unfold termMatches bad
    rw [decide_eq_false (show ¬ t.2.2.1 < 1 by omega), decide_eq_false (show ¬ 5 < t.2.2.1 by omega)]
    rfl
theorem index_T (f : FuncId) {β : Type} (S : Rd β) (y : β) (l : List (Term)) (p : Term → Bool) (d : Term) (_hd : (rTerm).dflt = d) (hp : ∀ x ∈ l, ACall Tryz.prog f [.agg (toL rTerm x), .one (.addr S y)] (ib (p x))) : ACall Tryz.prog 132 [.one (.sl rTerm l), .one (.clo f (.addr S y))] (ii .i64 (ixOf p l)) := by
  obtain rfl := _hd
  refine acall_of (rs := [4]) Tryz.func132 rfl rfl rfl teOk rfl ?_
  refine acode_seq ?_
  refine acode_region ?_
  refine acode_seq ?_
  refine acode_seq ?_
  refine acode_region ?_
  intro l1_1
  try simp only [Int.toNat_natCast, dflt_sl, dflt_st, dflt_str, dflt_int, dflt_bool] at l1_1
  refine acode_block ?_
  refine acode_loopP (fun (i : Nat) => i ≤ l.length ∧ (l.take i).any p = false) (fun (i : Nat) => [(0, .one (.sl rTerm l)), (1, .one (.clo f (.addr S y))), (7, ii .i64 l.length), (8, ii .i64 i)]) (fun (i : Nat) => []) 0 (fun (i : Nat) => l.length - i) 0 (⟨Nat.zero_le _, rfl⟩) (le_of ⟨rfl, rfl, rfl, rfl⟩ trivial rfl) ?_
  intro i hI0
  obtain ⟨hi, hn⟩ := hI0
  refine acode_seq ?_
  refine acode_region ?_
  refine acode_seq ?_
  refine acode_cond rfl (fun h9 => ?_) (fun h9 => ?_)
  · try simp only [decide_eq_true_eq] at h9
    try simp only [Int.toNat_natCast, dflt_sl, dflt_st, dflt_str, dflt_int, dflt_bool] at h9
    refine acode_skip ?_
    refine acode_seq ?_
    refine acode_block ?_
    refine acode_seq ?_
    refine acode_region ?_
    refine acode_seq ?_
    refine acode_region ?_
    refine And.intro (by first | omega | assumption | decide | (simp only [Int.toNat_natCast, dflt_sl, dflt_st, dflt_str, dflt_int, dflt_bool]; omega) | (simp <;> omega)) ?_
    refine Or.inl ?_
    refine And.intro (rfl) ?_
    refine Exists.intro _ (And.intro (hp _ (getD_mem (show i < l.length by omega) _)) ?_)
    refine acode_cond rfl (fun h16 => ?_) (fun h16 => ?_)
    · try simp only [decide_eq_true_eq, decide_eq_false_iff_not, Bool.and_eq_true, Bool.not_eq_true', Bool.not_eq_false', Bool.or_eq_false_iff, Bool.or_eq_true, Bool.and_eq_false_iff, Int.not_lt, Int.not_le] at h16
      try simp only [Int.toNat_natCast, dflt_st, dflt_str, dflt_int, dflt_bool] at h16
      refine acode_seq ?_
      refine acode_region ?_
      refine acode_ret ?_
      exact ii_eq (ixOf_at (rTerm).dflt (by omega) hn h16).symm
    · try simp only [decide_eq_true_eq, decide_eq_false_iff_not, Bool.and_eq_true, Bool.not_eq_true', Bool.not_eq_false', Bool.or_eq_false_iff, Bool.or_eq_true, Bool.and_eq_false_iff, Int.not_lt, Int.not_le] at h16
      try simp only [Int.toNat_natCast, dflt_st, dflt_str, dflt_int, dflt_bool] at h16
      refine acode_skip ?_
      refine acode_region ?_
      refine And.intro (by first | omega | assumption | decide | (simp only [Int.toNat_natCast, dflt_sl, dflt_st, dflt_str, dflt_int, dflt_bool]; omega) | (simp <;> omega)) ?_
      exact ⟨i + 1, ⟨by omega, by rw [take_any l p (rTerm).dflt i (by omega), hn]; exact h16⟩, by first | omega | (simp <;> omega), le_of ⟨rfl, rfl, rfl, rfl⟩ trivial rfl⟩
  · try simp only [decide_eq_false_iff_not, Int.not_lt] at h9
    try simp only [Int.toNat_natCast, dflt_sl, dflt_st, dflt_str, dflt_int, dflt_bool] at h9
    refine acode_exit ?_
    refine acode_seq ?_
    refine acode_region ?_
    refine acode_ret ?_
    have e : i = l.length := by omega
    subst e
    rw [List.take_length] at hn
    exact ii_eq (ixOf_none hn).symm
theorem contains_T (f : FuncId) {β : Type} (S : Rd β) (y : β) (l : List (Term)) (p : Term → Bool) (d : Term) (hd : (rTerm).dflt = d) (hp : ∀ x ∈ l, ACall Tryz.prog f [.agg (toL rTerm x), .one (.addr S y)] (ib (p x))) : ACall Tryz.prog 98 [.one (.sl rTerm l), .one (.clo f (.addr S y))] (ib (l.any p)) := by
  refine acall_of (rs := [4]) Tryz.func98 rfl rfl rfl teOk rfl ?_
  refine acode_seq ?_
  refine acode_region ?_
  refine acode_seq ?_
  refine acode_region ?_
  refine Or.inl ?_
  refine And.intro (rfl) ?_
  refine Exists.intro _ (And.intro (index_T f S y l p d hd hp) ?_)
  refine acode_ret ?_
  exact ib_eq (ixOf_ge p l)

theorem index_R (f g : FuncId) {β : Type} (S : Rd β) (y : β) (l : List (List Term)) (p : (List Term) → Bool) (d : List Term) (_hd : (Rd.sl rTerm).dflt = d) (hp : ∀ x ∈ l, ACall Tryz.prog f [.one (.sl rTerm x), .one (.ref (.clo g (.addr S y)))] (ib (p x))) : ACall Tryz.prog 131 [.one (.sl (.sl rTerm) l), .one (.clo f (.ref (.clo g (.addr S y))))] (ii .i64 (ixOf p l)) := by
  obtain rfl := _hd
  refine acall_of (rs := [4]) Tryz.func131 rfl rfl rfl teOk rfl ?_
  refine acode_seq ?_
  refine acode_region ?_
  refine acode_seq ?_
  refine acode_seq ?_
  refine acode_region ?_
  intro l1_1
  try simp only [Int.toNat_natCast, dflt_sl, dflt_st, dflt_str, dflt_int, dflt_bool] at l1_1
  refine acode_block ?_
  refine acode_loopP (fun (i : Nat) => i ≤ l.length ∧ (l.take i).any p = false) (fun (i : Nat) => [(0, .one (.sl (.sl rTerm) l)), (1, .one (.clo f (.ref (.clo g (.addr S y))))), (7, ii .i64 l.length), (8, ii .i64 i)]) (fun (i : Nat) => []) 0 (fun (i : Nat) => l.length - i) 0 (⟨Nat.zero_le _, rfl⟩) (le_of ⟨rfl, rfl, rfl, rfl⟩ trivial rfl) ?_
  intro i hI0
  obtain ⟨hi, hn⟩ := hI0
  refine acode_seq ?_
  refine acode_region ?_
  refine acode_seq ?_
  refine acode_cond rfl (fun h9 => ?_) (fun h9 => ?_)
  · try simp only [decide_eq_true_eq] at h9
    try simp only [Int.toNat_natCast, dflt_sl, dflt_st, dflt_str, dflt_int, dflt_bool] at h9
    refine acode_skip ?_
    refine acode_seq ?_
    refine acode_block ?_
    refine acode_seq ?_
    refine acode_region ?_
    refine acode_seq ?_
    refine acode_region ?_
    refine And.intro (by first | omega | assumption | decide | (simp only [Int.toNat_natCast, dflt_sl, dflt_st, dflt_str, dflt_int, dflt_bool]; omega) | (simp <;> omega)) ?_
    refine Or.inl ?_
    refine And.intro (rfl) ?_
    refine Exists.intro _ (And.intro (hp _ (getD_mem (show i < l.length by omega) _)) ?_)
    refine acode_cond rfl (fun h16 => ?_) (fun h16 => ?_)
    · try simp only [decide_eq_true_eq, decide_eq_false_iff_not, Bool.and_eq_true, Bool.not_eq_true', Bool.not_eq_false', Bool.or_eq_false_iff, Bool.or_eq_true, Bool.and_eq_false_iff, Int.not_lt, Int.not_le] at h16
      try simp only [Int.toNat_natCast, dflt_sl] at h16
      refine acode_seq ?_
      refine acode_region ?_
      refine acode_ret ?_
      exact ii_eq (ixOf_at (Rd.sl rTerm).dflt (by omega) hn h16).symm
    · try simp only [decide_eq_true_eq, decide_eq_false_iff_not, Bool.and_eq_true, Bool.not_eq_true', Bool.not_eq_false', Bool.or_eq_false_iff, Bool.or_eq_true, Bool.and_eq_false_iff, Int.not_lt, Int.not_le] at h16
      try simp only [Int.toNat_natCast, dflt_sl] at h16
      refine acode_skip ?_
      refine acode_region ?_
      refine And.intro (by first | omega | assumption | decide | (simp only [Int.toNat_natCast, dflt_sl, dflt_st, dflt_str, dflt_int, dflt_bool]; omega) | (simp <;> omega)) ?_
      exact ⟨i + 1, ⟨by omega, by rw [take_any l p (Rd.sl rTerm).dflt i (by omega), hn]; exact h16⟩, by first | omega | (simp <;> omega), le_of ⟨rfl, rfl, rfl, rfl⟩ trivial rfl⟩
  · try simp only [decide_eq_false_iff_not, Int.not_lt] at h9
    try simp only [Int.toNat_natCast, dflt_sl, dflt_st, dflt_str, dflt_int, dflt_bool] at h9
    refine acode_exit ?_
    refine acode_seq ?_
    refine acode_region ?_
    refine acode_ret ?_
    have e : i = l.length := by omega
    subst e
    rw [List.take_length] at hn
    exact ii_eq (ixOf_none hn).symm
theorem contains_R (f g : FuncId) {β : Type} (S : Rd β) (y : β) (l : List (List Term)) (p : (List Term) → Bool) (d : List Term) (hd : (Rd.sl rTerm).dflt = d) (hp : ∀ x ∈ l, ACall Tryz.prog f [.one (.sl rTerm x), .one (.ref (.clo g (.addr S y)))] (ib (p x))) : ACall Tryz.prog 96 [.one (.sl (.sl rTerm) l), .one (.clo f (.ref (.clo g (.addr S y))))] (ib (l.any p)) := by
  refine acall_of (rs := [4]) Tryz.func96 rfl rfl rfl teOk rfl ?_
  refine acode_seq ?_
  refine acode_region ?_
  refine acode_seq ?_
  refine acode_region ?_
  refine Or.inl ?_
  refine And.intro (rfl) ?_
  refine Exists.intro _ (And.intro (index_R f g S y l p d hd hp) ?_)
  refine acode_ret ?_
  exact ib_eq (ixOf_ge p l)


theorem fails_c (t : Term) (l : List Fld) (hl : FldsOk l) : ACall Tryz.prog 94 [.agg (toL rTerm t), .one (.addr (.sl rFld) l)] (ib (!termMatches t l)) := by
  refine acall_of (rs := [3]) Tryz.func94 rfl rfl rfl teOk rfl ?_
  refine acode_seq ?_
  refine acode_region ?_
  refine acode_seq ?_
  refine acode_region ?_
  refine Or.inl ?_
  refine And.intro (rfl) ?_
  refine Exists.intro _ (And.intro (termMatches_c t l hl) ?_)
  refine acode_ret ?_
  rfl
theorem rowFails_c (r : List Term) (l : List Fld) (hl : FldsOk l) : ACall Tryz.prog 97 [.one (.sl rTerm r), .one (.ref (.clo 94 (.addr (.sl rFld) l)))] (ib (!(r.any fun t => !termMatches t l))) := by
  refine acall_of (rs := [3]) Tryz.func97 rfl rfl rfl teOk rfl ?_
  refine acode_seq ?_
  refine acode_region ?_
  refine acode_seq ?_
  refine acode_region ?_
  refine Or.inl ?_
  refine And.intro (rfl) ?_
  refine Exists.intro _ (And.intro (contains_T _ (.sl rFld) l r (fun t => !termMatches t l) _ rfl (fun x _ => fails_c x l hl)) ?_)
  refine acode_ret ?_
  rfl
def selMatches (s : List (List Term)) (l : List Fld) : Bool := s.any fun r => !(r.any fun t => !termMatches t l)
theorem selMatches_c (s : List (List Term)) (l : List Fld) (hl : FldsOk l) : ACall Tryz.prog 60 [.one (.sl (.sl rTerm) s), .one (.sl rFld l)] (ib (selMatches s l)) := by
  refine acall_of (rs := [4]) Tryz.func60 rfl rfl rfl teOk rfl ?_
  refine acode_seq ?_
  refine acode_region ?_
  refine acode_seq ?_
  refine acode_region ?_
  refine acode_seq ?_
  refine acode_region ?_
  refine Or.inl ?_
  refine And.intro (rfl) ?_
  refine Exists.intro _ (And.intro (contains_R 97 94 (.sl rFld) l s (fun r => !(r.any fun t => !termMatches t l)) _ rfl (fun x _ => rowFails_c x l hl)) ?_)
  refine acode_ret ?_
  rfl
end QQ
end Q
end Ab
end Go.Proofs.YtklhlkhlndhepaaGreatDoor
namespace Go.Proofs.YtklhlkhlndhepaaGreatDoor
open Go.RowKit
namespace Ab
set_option maxRecDepth 100000
namespace Q
namespace QQ
def sgn (c : UInt8) : Bool := decide (0 ≤ Lib.indexByte [63, 61, 94, 126, 60] c)
/-- Where the first sign stands that isn't escaped; -1 if there is none. -/
def signL : List UInt8 → Int → Int
  | [], _ => -1
  | 92 :: r, n => match r with
    | [] => -1
    | _ :: r => signL r (n + 2)
  | c :: r, n => if sgn c then n else signL r (n + 1)
theorem drop_cons {l : List UInt8} {i : Nat} (h : i < l.length) : l.drop i = l.getD i 0 :: l.drop (i + 1) := by
  rw [List.drop_eq_getElem_cons h, List.getD_eq_getElem?_getD, List.getElem?_eq_getElem h]; rfl
theorem size_list (s : ByteArray) : s.size = s.data.toList.length := by cases s; rfl
theorem u8_eq {a b : UInt8} (h : (a.toNat : Int) = (b.toNat : Int)) : a = b := UInt8.toNat_inj.1 (by omega)
theorem signL_slash {r : List UInt8} {n : Int} : signL (92 :: r) n = signL (r.drop 1) (n + 2) := by
  cases r <;> rfl
theorem signL_other {c : UInt8} {r : List UInt8} {n : Int} (h : c ≠ 92) : signL (c :: r) n = if sgn c then n else signL r (n + 1) := by
  rw [signL.eq_def]
  split
  · rename_i h1; cases h1
  · rename_i h1; cases h1; exact absurd rfl h
  · rename_i h1; cases h1; rfl
theorem u8_back (c : UInt8) : c.toNat.toUInt8 = c := by simp
theorem sign_c (s : ByteArray) (hs : s.size ≤ 1000000) : ACall Tryz.prog 164 [is s] (ii .i64 (signL s.data.toList 0)) := by
  have hz := size_list s
  refine acall_of (rs := [2]) Tryz.func164 rfl rfl rfl teOk rfl ?_
  refine acode_seq ?_
  refine acode_region ?_
  refine acode_seq ?_
  refine acode_seq ?_
  refine acode_region ?_
  refine acode_block ?_
  refine acode_loopP (fun (i : Nat) => i ≤ s.size + 1 ∧ signL s.data.toList 0 = signL (s.data.toList.drop i) i) (fun (i : Nat) => [(0, is s), (3, ii .i64 i)]) (fun (i : Nat) => []) 0 (fun (i : Nat) => s.size + 1 - i) 0 (⟨Nat.zero_le _, rfl⟩) (le_of ⟨rfl, rfl⟩ trivial rfl) ?_
  intro i hI0
  obtain ⟨hi, hn⟩ := hI0
  refine acode_seq ?_
  refine acode_seq ?_
  refine acode_region ?_
  refine acode_cond rfl (fun h7 => ?_) (fun h7 => ?_)
  · try simp only [decide_eq_true_eq] at h7
    try simp only [Int.toNat_natCast, dflt_sl, dflt_st, dflt_str, dflt_int, dflt_bool] at h7
    have hd := drop_cons (l := s.data.toList) (i := i) (by omega)
    rw [hd] at hn
    refine acode_skip ?_
    refine acode_seq ?_
    refine acode_block ?_
    refine acode_seq ?_
    refine acode_draw rfl (by kernel_rfl) ?_
    refine And.intro (by first | omega | assumption | decide | (simp only [Int.toNat_natCast, dflt_sl, dflt_st, dflt_str, dflt_int, dflt_bool]; omega) | (simp <;> omega)) ?_
    refine And.intro (by first | omega | assumption | decide | (simp only [Int.toNat_natCast, dflt_sl, dflt_st, dflt_str, dflt_int, dflt_bool]; omega) | (simp <;> omega)) ?_
    refine acode_cond rfl (fun h14 => ?_) (fun h14 => ?_)
    · try simp only [decide_eq_true_eq] at h14
      try simp only [Int.toNat_natCast] at h14
      have h92 : s.data.toList.getD i 0 = 92 := u8_eq h14
      refine acode_region ?_
      refine And.intro (by first | omega | assumption | decide | (simp only [Int.toNat_natCast, dflt_sl, dflt_st, dflt_str, dflt_int, dflt_bool]; omega) | (simp <;> omega)) ?_
      refine acode_region ?_
      refine And.intro (by first | omega | assumption | decide | (simp only [Int.toNat_natCast, dflt_sl, dflt_st, dflt_str, dflt_int, dflt_bool]; omega) | (simp <;> omega)) ?_
      exact ⟨i + 2, ⟨by omega, by rw [hn, h92, signL_slash, List.drop_drop]; rfl⟩, by first | omega | (simp <;> omega), le_of ⟨rfl, (ii_eq (by omega))⟩ trivial rfl⟩
    · try simp only [decide_eq_false_iff_not] at h14
      try simp only [Int.toNat_natCast] at h14
      have h92 : s.data.toList.getD i 0 ≠ 92 := fun e => h14 (by rw [e]; rfl)
      refine acode_seq ?_
      refine acode_region ?_
      refine And.intro (by first | omega | assumption | decide | (simp only [Int.toNat_natCast, dflt_sl, dflt_st, dflt_str, dflt_int, dflt_bool]; omega) | (simp <;> omega)) ?_
      refine Or.inl ?_
      refine And.intro (rfl) ?_
      refine Exists.intro _ (And.intro (indexByte_c _ _) ?_)
      refine acode_cond rfl (fun h21 => ?_) (fun h21 => ?_)
      · try simp only [decide_eq_true_eq] at h21
        try simp only [Int.toNat_natCast] at h21
        rw [u8_back] at h21
        refine acode_seq ?_
        refine acode_region ?_
        refine acode_ret ?_
        refine ii_eq ?_
        rw [hn, signL_other h92, if_pos (show sgn _ = true from decide_eq_true h21)]
      · try simp only [decide_eq_false_iff_not, Int.not_le] at h21
        try simp only [Int.toNat_natCast] at h21
        rw [u8_back] at h21
        refine acode_skip ?_
        refine acode_region ?_
        refine And.intro (by first | omega | assumption | decide | (simp only [Int.toNat_natCast, dflt_sl, dflt_st, dflt_str, dflt_int, dflt_bool]; omega) | (simp <;> omega)) ?_
        exact ⟨i + 1, ⟨by omega, by rw [hn, signL_other h92, if_neg (fun e => by have := of_decide_eq_true e; omega)]; rfl⟩, by first | omega | (simp <;> omega), le_of ⟨rfl, rfl⟩ trivial rfl⟩
  · try simp only [decide_eq_false_iff_not, Int.not_lt] at h7
    try simp only [Int.toNat_natCast, dflt_sl, dflt_st, dflt_str, dflt_int, dflt_bool] at h7
    refine acode_exit ?_
    refine acode_seq ?_
    refine acode_region ?_
    refine acode_ret ?_
    refine ii_eq ?_
    rw [hn, List.drop_of_length_le (by omega)]
    rfl
end QQ
end Q
end Ab
end Go.Proofs.YtklhlkhlndhepaaGreatDoor
namespace Go.Proofs.YtklhlkhlndhepaaGreatDoor
open Go.RowKit
namespace Ab
set_option maxRecDepth 100000
namespace Q
namespace QQ
/-- What an escaped byte stands for. -/
def unc (c : UInt8) : UInt8 := if 0 ≤ Lib.indexByte [92, 115, 110, 98] c then [92, 32, 10, 124].getD (Lib.indexByte [92, 115, 110, 98] c).toNat 0 else c
def unescL : List UInt8 → List UInt8
  | [] => []
  | 92 :: r => match r with
    | [] => [92]
    | c :: r => unc c :: unescL r
  | c :: r => c :: unescL r
theorem unescL_slash {c : UInt8} {r : List UInt8} : unescL (92 :: c :: r) = unc c :: unescL r := rfl
theorem unescL_other {c : UInt8} {r : List UInt8} (h : c ≠ 92) : unescL (c :: r) = c :: unescL r := by
  rw [unescL.eq_def]
  split
  · rename_i h1; cases h1
  · rename_i h1; cases h1; exact absurd rfl h
  · rename_i h1; cases h1; rfl
def escC (more : List UInt8) (c : UInt8) : List UInt8 :=
  if 0 ≤ Lib.indexByte [92, 32, 10, 124] c then [92, [92, 115, 110, 98].getD (Lib.indexByte [92, 32, 10, 124] c).toNat 0]
  else if 0 ≤ Lib.indexByte more c then [92, c] else [c]
def escL (more l : List UInt8) : List UInt8 := l.flatMap (escC more)
def SG : List UInt8 := [63, 61, 94, 126, 60]
def moreOf (k : Bool) : List UInt8 := if k then [63, 61, 94, 126, 60, 33] else []

/-- How each byte is written: by itself (then no sign that would be read), or behind a backslash. -/
def fine (k : Bool) (c : UInt8) : Bool := match escC (moreOf k) c with
  | [x] => decide (x = c) && !decide (x = 92) && !decide (x = 32) && !decide (x = 124) && (!k || (!sgn x && !decide (x = 33)))
  | [a, x] => decide (a = 92) && decide (unc x = c) && !decide (x = 32) && !decide (x = 124)
  | _ => false
theorem escL_cons (m : List UInt8) (c : UInt8) (l : List UInt8) : escL m (c :: l) = escC m c ++ escL m l := rfl

abbrev ls (s : ByteArray) : List UInt8 := s.data.toList
def signOf (rel : Int) : UInt8 := SG.getD (rel - 1).toNat 0
def termL (t : Term) : List UInt8 := (if t.1 then [33] else []) ++ escL (moreOf true) (ls t.2.1) ++ signOf t.2.2.1 :: escL (moreOf false) (ls t.2.2.2)
def rowL (r : List Term) : List UInt8 := if r.isEmpty then [97, 108, 108] else Lib.join (r.map termL) [32]
def selL (s : List (List Term)) : List UInt8 := if s.isEmpty then [110, 111, 110, 101] else Lib.join (s.map rowL) [32, 124, 32]
/-- A word's term; none if it is none's. -/
def restOf (w : List UInt8) : List UInt8 := Lib.trimPrefix w [33]
def bytes (l : List UInt8) : ByteArray := ⟨l.toArray⟩
theorem bytes_list (l : List UInt8) : (bytes l).data.toList = l := by simp [bytes]
theorem bytes_ls (s : ByteArray) : bytes (ls s) = s := by cases s; rfl
def termP (w : List UInt8) : Option Term :=
  if signL (restOf w) 0 < 0 then none else some (Lib.hasPrefix w [33], bytes (unescL ((restOf w).take (signL (restOf w) 0).toNat)), Lib.indexByte SG ((restOf w).getD (signL (restOf w) 0).toNat 0) + 1, bytes (unescL ((restOf w).drop ((signL (restOf w) 0).toNat + 1))))
def RelOk (t : Term) : Prop := 1 ≤ t.2.2.1 ∧ t.2.2.1 ≤ 5
theorem esc_len (m : List UInt8) : ∀ l : List UInt8, (escL m l).length ≤ 2 * l.length
  | [] => Nat.le_refl _
  | c :: l => by
    have ih := esc_len m l
    rw [escL_cons, List.length_append, List.length_cons]
    have : (escC m c).length ≤ 2 := by unfold escC; split <;> (try split) <;> simp
    omega
def Clean (sep p : List UInt8) : Prop := (∀ r j, j < p.length → Lib.occAt (p ++ sep ++ r) sep j = false) ∧ ∀ j, j ≤ p.length → Lib.occAt p sep j = false
theorem join_two (p q : List UInt8) (ps : List (List UInt8)) (sep : List UInt8) : Lib.join (p :: q :: ps) sep = p ++ sep ++ Lib.join (q :: ps) sep := by
  rw [Lib.join_cons, Lib.join_cons]; simp [Lib.joinTail]
/-- All that is read of texts; none if one of them is none's. -/
def rdAll {α : Type} (f : List UInt8 → Option α) : List (List UInt8) → Option (List α)
  | [] => some []
  | w :: r => match f w, rdAll f r with
    | some t, some l => some (t :: l)
    | _, _ => none
def rowP (l : List UInt8) : Option (List Term) := if l = [97, 108, 108] then some [] else rdAll termP (Lib.split l [32])
def selP (l : List UInt8) : Option (List (List Term)) := if l = [110, 111, 110, 101] then some [] else rdAll rowP (Lib.split l [32, 124, 32])
end QQ
end Q
end Ab
end Go.Proofs.YtklhlkhlndhepaaGreatDoor
namespace Go.Proofs.YtklhlkhlndhepaaGreatDoor
open Go.RowKit
namespace Ab
set_option maxRecDepth 100000
namespace Q
namespace QQ
theorem ints_push (l : List UInt8) (c : UInt8) (n : Int) (h : n = c.toNat) : intsOf (bytes l) ++ [n] = intsOf (bytes (l ++ [c])) := by
  unfold intsOf; rw [bytes_list, bytes_list, List.map_append, h]; rfl
theorem ints_app (l m : List UInt8) : intsOf (bytes l) ++ intsOf (bytes m) = intsOf (bytes (l ++ m)) := by
  unfold intsOf; rw [bytes_list, bytes_list, bytes_list, List.map_append]
theorem ints_len (l : List UInt8) : (intsOf (bytes l)).length = l.length := by unfold intsOf; rw [bytes_list, List.length_map]
theorem indexB_lt {l : List UInt8} {c : UInt8} (h : 0 ≤ Lib.indexByte l c) : (Lib.indexByte l c).toNat < l.length := by
  induction l with
  | nil => exact absurd h (by unfold Lib.indexByte; decide)
  | cons a l ih =>
    unfold Lib.indexByte at h ⊢
    split
    · simp
    · split
      · rename_i h1 h2; rw [if_neg h1, if_pos h2] at h; omega
      · rename_i h1 h2
        have := Lib.indexByte_ge l c
        have h3 : Lib.indexByte l c ≠ -1 := fun e => h2 (by rw [e]; rfl)
        have := ih (by omega)
        simp only [List.length_cons]; omega
theorem indexByte_k (s : ByteArray) (c : UInt8) (n : Int) (h : n = c.toNat) : ACall Tryz.prog 166 [is s, ii .u8 n] (ii .i64 (Lib.indexByte s.data.toList c)) := by
  have := indexByte_c s n
  rw [h, Int.toNat_natCast, u8_back] at this
  rw [h]; exact this
theorem unescL_one {c : UInt8} {r : List UInt8} (h : c ≠ 92 ∨ r = []) : unescL (c :: r) = c :: unescL r := by
  by_cases hc : c = 92
  · subst hc
    rcases h with h | h
    · exact absurd rfl h
    · subst h; rfl
  · exact unescL_other hc
theorem unescape_c (s : ByteArray) (hs : s.size ≤ 1000000) : ACall Tryz.prog 165 [is s] (is (bytes (unescL s.data.toList))) := by
  have hz := size_list s
  refine acall_of (rs := [2]) Tryz.func165 rfl rfl rfl teOk rfl ?_
  refine acode_seq ?_
  refine acode_region ?_
  refine acode_seq ?_
  refine acode_region ?_
  refine acode_seq ?_
  refine acode_seq ?_
  refine acode_bld 0 5 (.int .u8) rfl ?_
  refine acode_region ?_
  refine acode_block ?_
  refine acode_loopP (fun (x : Nat × Bool × List UInt8) => x.1 ≤ s.size ∧ x.2.2.length ≤ x.1 ∧ x.2.2 ++ unescL (s.data.toList.drop x.1) = unescL s.data.toList) (fun (x : Nat × Bool × List UInt8) => [(0, is s), (3, .one (.own 0 0)), (4, ii .i64 x.1)]) (fun (x : Nat × Bool × List UInt8) => [(0, .box 225 [.nself x.2.1 0, .vec 1]), (1, .vec 5 (.int .u8) (intsOf (bytes x.2.2)))]) 2 (fun (x : Nat × Bool × List UInt8) => s.size - x.1) (0, false, []) (⟨Nat.zero_le _, Nat.zero_le _, rfl⟩) (le_of ⟨rfl, rfl, rfl⟩ ⟨rfl, rfl⟩ rfl) ?_
  intro ⟨i, u, o⟩ hI0
  simp only at hI0 ⊢
  obtain ⟨hi, ho, hn⟩ := hI0
  have hol := ints_len o
  refine acode_seq ?_
  refine acode_seq ?_
  refine acode_region ?_
  refine acode_cond rfl (fun h9 => ?_) (fun h9 => ?_)
  · try simp only [decide_eq_true_eq] at h9
    try simp only [Int.toNat_natCast, dflt_sl, dflt_st, dflt_str, dflt_int, dflt_bool] at h9
    refine acode_skip ?_
    refine acode_seq ?_
    refine acode_block ?_
    refine acode_seq ?_
    refine acode_seq ?_
    refine acode_draw rfl (by kernel_rfl) ?_
    refine And.intro (by first | omega | assumption | decide | (simp only [Int.toNat_natCast, dflt_sl, dflt_st, dflt_str, dflt_int, dflt_bool]; omega) | (simp <;> omega)) ?_
    refine And.intro (by first | omega | assumption | decide | (simp only [Int.toNat_natCast, dflt_sl, dflt_st, dflt_str, dflt_int, dflt_bool]; omega) | (simp <;> omega)) ?_
    refine And.intro (fun h => trivial) ?_
    refine And.intro (fun h => ⟨⟨⟨h, trivial⟩, trivial⟩, by first | omega | decide | (simp only [Int.toNat_natCast, dflt_sl, dflt_st, dflt_str, dflt_int, dflt_bool]; omega) | (have h9 := of_decide_eq_true h; omega) | (simp [gq] at h; omega)⟩) ?_
    refine And.intro (fun h => trivial) ?_
    refine And.intro (fun h => ⟨⟨h, trivial⟩, trivial⟩) ?_
    refine And.intro (fun h => ⟨⟨h, trivial⟩, ⟨h, trivial⟩, trivial⟩) ?_
    refine And.intro (by exact fun h => h) ?_
    refine acode_cond rfl (fun h23 => ?_) (fun h23 => ?_)
    · try simp only [decide_eq_true_eq, Bool.and_eq_true] at h23
      try simp only [Int.toNat_natCast] at h23
      obtain ⟨h92, hlt⟩ := h23
      have h92 : s.data.toList.getD i 0 = 92 := u8_eq h92
      have e1 : ((i : Int) + 1).toNat = i + 1 := by omega
      have hd : s.data.toList.drop i = 92 :: s.data.toList.getD (i + 1) 0 :: s.data.toList.drop (i + 2) := by rw [drop_cons (by omega), h92, drop_cons (by omega)]
      refine acode_seq ?_
      refine acode_region ?_
      refine And.intro (by first | omega | assumption | decide | (simp only [Int.toNat_natCast, dflt_sl, dflt_st, dflt_str, dflt_int, dflt_bool]; omega) | (simp <;> omega)) ?_
      refine acode_seq ?_
      refine acode_region ?_
      refine And.intro (by first | omega | assumption | decide | (simp only [Int.toNat_natCast, dflt_sl, dflt_st, dflt_str, dflt_int, dflt_bool]; omega) | (simp <;> omega)) ?_
      refine Or.inl ?_
      refine And.intro (rfl) ?_
      refine Exists.intro _ (And.intro (indexByte_k _ (s.data.toList.getD (i + 1) 0) _ (by rw [e1])) ?_)
      refine acode_seq ?_
      refine acode_region ?_
      refine acode_cond rfl (fun h31 => ?_) (fun h31 => ?_)
      · try simp only [decide_eq_true_eq] at h31
        try simp only [Int.toNat_natCast, dflt_sl, dflt_st, dflt_str, dflt_int, dflt_bool] at h31
        have hu : unc (s.data.toList.getD (i + 1) 0) = [92, 32, 10, 124].getD (Lib.indexByte [92, 115, 110, 98] (s.data.toList.getD (i + 1) 0)).toNat 0 := by unfold unc; exact if_pos h31
        refine acode_seq ?_
        refine acode_region ?_
        refine And.intro (by exact ⟨h31, Int.lt_of_toNat_lt (indexB_lt h31)⟩) ?_
        refine Or.inr (Or.inl (Exists.intro [] (Exists.intro [0, 1] (Exists.intro _ (Exists.intro _ (Exists.intro _ (Exists.intro _ (Exists.intro _ (And.intro (writeByte_o _ _ _ (by rw [hol]; omega)) (And.intro rfl (And.intro (And.intro (And.intro rfl rfl) (And.intro (And.intro rfl rfl) True.intro)) (And.intro rfl ?_))))))))))))
        refine acode_exit ?_
        refine acode_region ?_
        refine And.intro (by first | omega | assumption | decide | (simp only [Int.toNat_natCast, dflt_sl, dflt_st, dflt_str, dflt_int, dflt_bool]; omega) | (simp <;> omega)) ?_
        exact ⟨(i + 2, true, o ++ [unc (s.data.toList.getD (i + 1) 0)]), ⟨by simp only; omega, by simp; omega, by rw [← hn, hd, unescL_slash]; simp⟩, by first | omega | (simp <;> omega), le_of ⟨rfl, rfl, (ii_eq (by simp only; omega))⟩ ⟨rfl, (vec_eq (ints_push _ _ _ (by rw [hu])))⟩ rfl⟩
      · try simp only [decide_eq_false_iff_not, Int.not_le] at h31
        try simp only [Int.toNat_natCast, dflt_sl, dflt_st, dflt_str, dflt_int, dflt_bool] at h31
        have hu : unc (s.data.toList.getD (i + 1) 0) = s.data.toList.getD (i + 1) 0 := by unfold unc; exact if_neg (by omega)
        refine acode_skip ?_
        refine acode_region ?_
        refine And.intro (by first | omega | assumption | decide | (simp only [Int.toNat_natCast, dflt_sl, dflt_st, dflt_str, dflt_int, dflt_bool]; omega) | (simp <;> omega)) ?_
        refine Or.inr (Or.inl (Exists.intro [] (Exists.intro [0, 1] (Exists.intro _ (Exists.intro _ (Exists.intro _ (Exists.intro _ (Exists.intro _ (And.intro (writeByte_o _ _ _ (by rw [hol]; omega)) (And.intro rfl (And.intro (And.intro (And.intro rfl rfl) (And.intro (And.intro rfl rfl) True.intro)) (And.intro rfl ?_))))))))))))
        refine acode_region ?_
        refine And.intro (by first | omega | assumption | decide | (simp only [Int.toNat_natCast, dflt_sl, dflt_st, dflt_str, dflt_int, dflt_bool]; omega) | (simp <;> omega)) ?_
        exact ⟨(i + 2, true, o ++ [s.data.toList.getD (i + 1) 0]), ⟨by simp only; omega, by simp; omega, by rw [← hn, hd, unescL_slash, hu]; simp⟩, by first | omega | (simp <;> omega), le_of ⟨rfl, rfl, (ii_eq (by simp only; omega))⟩ ⟨rfl, (vec_eq (ints_push _ _ _ (by rw [e1])))⟩ rfl⟩
    · try simp only [decide_eq_false_iff_not, Bool.and_eq_false_iff, Int.not_lt] at h23
      try simp only [Int.toNat_natCast] at h23
      have h92 : s.data.toList.getD i 0 ≠ 92 ∨ s.data.toList.drop (i + 1) = [] := h23.elim (fun h => .inl (fun e => h (by rw [e]; rfl))) (fun h => .inr (List.drop_of_length_le (by omega)))
      refine acode_skip ?_
      refine acode_region ?_
      refine And.intro (by first | omega | assumption | decide | (simp only [Int.toNat_natCast, dflt_sl, dflt_st, dflt_str, dflt_int, dflt_bool]; omega) | (simp <;> omega)) ?_
      refine Or.inr (Or.inl (Exists.intro [] (Exists.intro [0, 1] (Exists.intro _ (Exists.intro _ (Exists.intro _ (Exists.intro _ (Exists.intro _ (And.intro (writeByte_o _ _ _ (by rw [hol]; omega)) (And.intro rfl (And.intro (And.intro (And.intro rfl rfl) (And.intro (And.intro rfl rfl) True.intro)) (And.intro rfl ?_))))))))))))
      refine acode_region ?_
      refine And.intro (by first | omega | assumption | decide | (simp only [Int.toNat_natCast, dflt_sl, dflt_st, dflt_str, dflt_int, dflt_bool]; omega) | (simp <;> omega)) ?_
      exact ⟨(i + 1, true, o ++ [s.data.toList.getD i 0]), ⟨by simp only; omega, by simp; omega, by simp only; rw [← hn, drop_cons (show i < s.data.toList.length by omega), unescL_one h92]; simp⟩, by first | omega | (simp <;> omega), le_of ⟨rfl, rfl, (ii_eq (by simp only; omega))⟩ ⟨rfl, (vec_eq (ints_push _ _ _ rfl))⟩ rfl⟩
  · try simp only [decide_eq_false_iff_not, Int.not_lt] at h9
    try simp only [Int.toNat_natCast, dflt_sl, dflt_st, dflt_str, dflt_int, dflt_bool] at h9
    refine acode_exit ?_
    refine acode_seq ?_
    refine acode_region ?_
    refine Or.inr (Or.inl (Exists.intro [] (Exists.intro [0, 1] (Exists.intro _ (Exists.intro _ (Exists.intro _ (Exists.intro _ (Exists.intro _ (And.intro (string_o _ _) (And.intro rfl (And.intro (And.intro (And.intro rfl rfl) (And.intro (And.intro rfl rfl) True.intro)) (And.intro rfl ?_))))))))))))
    refine acode_ret ?_
    refine is_eq ?_
    rw [← hn, List.drop_of_length_le (by omega)]
    simp [unescL]

theorem indexByte_v (s : ByteArray) (c : UInt8) (n k : Int) (h : n = c.toNat) (hk : Lib.indexByte s.data.toList c = k) : ACall Tryz.prog 166 [is s, ii .u8 n] (ii .i64 k) := by
  subst hk; exact indexByte_k s c n h
theorem extract_one {s : ByteArray} {i : Nat} (h : i < s.data.toList.length) : s.extract i (i + 1) = bytes [s.data.toList.getD i 0] := by
  apply ByteArray.ext
  apply Array.ext'
  rw [bytes_list, Lib.extract_data, Nat.add_sub_cancel_left, drop_cons h]
  rfl
theorem escL_snoc (m l : List UInt8) (i : Nat) (h : i < l.length) : escL m (l.take (i + 1)) = escL m (l.take i) ++ escC m (l.getD i 0) := by
  rw [← take_snoc 0 h]; simp [escL]
theorem bytes_app (l m : List UInt8) : bytes (l ++ m) = bytes l ++ bytes m := by
  apply ByteArray.ext; simp [bytes]
theorem ints_add (l m : List UInt8) (t : ByteArray) (h : t = bytes m) : intsOf (bytes l) ++ intsOf t = intsOf (bytes (l ++ m)) := by rw [h, ints_app]
theorem esc_piece {k : Int} (h0 : 0 ≤ k) (h : k < 4) : (⟨#[92]⟩ : ByteArray) ++ (⟨#[92, 115, 110, 98]⟩ : ByteArray).extract k.toNat (k + 1).toNat = bytes [92, [92, 115, 110, 98].getD k.toNat 0] := by
  have : k = 0 ∨ k = 1 ∨ k = 2 ∨ k = 3 := by omega
  rcases this with h | h | h | h <;> subst h <;> decide +kernel
theorem esc_size {k : Int} (h0 : 0 ≤ k) (h : k < 4) : ((⟨#[92]⟩ : ByteArray) ++ (⟨#[92, 115, 110, 98]⟩ : ByteArray).extract k.toNat (k + 1).toNat).size = 2 := by
  rw [esc_piece h0 h]; rfl
theorem escape_c (s m : ByteArray) (hs : s.size ≤ 1000000) : ACall Tryz.prog 194 [is s, is m] (is (bytes (escL m.data.toList s.data.toList))) := by
  have hz := size_list s
  refine acall_of (rs := [4]) Tryz.func194 rfl rfl rfl teOk rfl ?_
  refine acode_seq ?_
  refine acode_region ?_
  refine acode_seq ?_
  refine acode_region ?_
  refine acode_seq ?_
  refine acode_seq ?_
  refine acode_bld 0 5 (.int .u8) rfl ?_
  refine acode_region ?_
  refine acode_block ?_
  refine acode_loopP (fun (x : Nat × Bool) => x.1 ≤ s.size) (fun (x : Nat × Bool) => [(0, is s), (1, is m), (5, .one (.own 0 0)), (9, ii .i64 s.size), (10, ii .i64 x.1)]) (fun (x : Nat × Bool) => [(0, .box 225 [.nself x.2 0, .vec 1]), (1, .vec 5 (.int .u8) (intsOf (bytes (escL m.data.toList (s.data.toList.take x.1)))))]) 2 (fun (x : Nat × Bool) => s.size - x.1) (0, false) (Nat.zero_le _) (le_of ⟨rfl, rfl, rfl, rfl, rfl⟩ ⟨rfl, rfl⟩ rfl) ?_
  intro ⟨i, u⟩ hI0
  simp only at hI0 ⊢
  have hi := hI0
  have hol : (intsOf (bytes (escL m.data.toList (s.data.toList.take i)))).length ≤ 2 * i := by (rw [ints_len]; exact Nat.le_trans (esc_len _ _) (by rw [List.length_take]; omega))
  refine acode_seq ?_
  refine acode_region ?_
  refine acode_seq ?_
  refine acode_cond rfl (fun h11 => ?_) (fun h11 => ?_)
  · try simp only [decide_eq_true_eq] at h11
    try simp only [Int.toNat_natCast, dflt_sl, dflt_st, dflt_str, dflt_int, dflt_bool] at h11
    have hsn := escL_snoc m.data.toList s.data.toList i (by omega)
    obtain ⟨k, hk⟩ : ∃ k, Lib.indexByte [92, 32, 10, 124] (s.data.toList.getD i 0) = k := ⟨_, rfl⟩
    obtain ⟨k2, hk2⟩ : ∃ k, Lib.indexByte m.data.toList (s.data.toList.getD i 0) = k := ⟨_, rfl⟩
    have hx : (⟨#[92]⟩ : ByteArray) ++ s.extract (i : Int).toNat ((i : Int) + 1).toNat = bytes [92, s.data.toList.getD i 0] := by rw [Int.toNat_natCast, show ((i : Int) + 1).toNat = i + 1 by omega, extract_one (by omega)]; exact (bytes_app [92] [_]).symm
    have hx2 : ((⟨#[92]⟩ : ByteArray) ++ s.extract (i : Int).toNat ((i : Int) + 1).toNat).size = 2 := by rw [hx]; rfl
    refine acode_skip ?_
    refine acode_seq ?_
    refine acode_block ?_
    refine acode_seq ?_
    refine acode_region ?_
    refine acode_seq ?_
    refine acode_region ?_
    refine And.intro (by first | omega | assumption | decide | (simp only [Int.toNat_natCast, dflt_sl, dflt_st, dflt_str, dflt_int, dflt_bool]; omega) | (simp <;> omega)) ?_
    refine Or.inl ?_
    refine And.intro (rfl) ?_
    refine Exists.intro _ (And.intro (indexByte_v _ (s.data.toList.getD i 0) _ k rfl hk) ?_)
    refine acode_block ?_
    refine acode_seq ?_
    refine acode_region ?_
    refine acode_cond rfl (fun h21 => ?_) (fun h21 => ?_)
    · try simp only [decide_eq_true_eq] at h21
      try simp only [Int.toNat_natCast, dflt_sl, dflt_st, dflt_str, dflt_int, dflt_bool] at h21
      have h4 : k < 4 := Int.lt_of_toNat_lt (by have := indexB_lt (hk ▸ h21 : 0 ≤ Lib.indexByte [92, 32, 10, 124] (s.data.toList.getD i 0)); rw [hk] at this; exact this)
      have hc : escC m.data.toList (s.data.toList.getD i 0) = [92, [92, 115, 110, 98].getD k.toNat 0] := by unfold escC; rw [hk, if_pos h21]
      refine acode_region ?_
      refine And.intro (by first | omega | assumption | decide | (simp only [Int.toNat_natCast, dflt_sl, dflt_st, dflt_str, dflt_int, dflt_bool]; omega) | (simp <;> omega)) ?_
      refine And.intro (by exact ⟨h21, by omega, by show k + 1 ≤ 4; omega⟩) ?_
      refine And.intro (by rw [← ByteArray.size_append, esc_size h21 h4]; decide) ?_
      refine Or.inr (Or.inl (Exists.intro [] (Exists.intro [0, 1] (Exists.intro _ (Exists.intro _ (Exists.intro _ (Exists.intro _ (Exists.intro _ (And.intro (writeString_o _ _ _ (by rw [esc_size h21 h4]; omega)) (And.intro rfl (And.intro (And.intro (And.intro rfl rfl) (And.intro (And.intro rfl rfl) True.intro)) (And.intro rfl ?_))))))))))))
      refine acode_region ?_
      refine And.intro (by first | omega | assumption | decide | (simp only [Int.toNat_natCast, dflt_sl, dflt_st, dflt_str, dflt_int, dflt_bool]; omega) | (simp <;> omega)) ?_
      exact ⟨(i + 1, true), (by simp only; omega), by first | omega | (simp <;> omega), le_of ⟨rfl, rfl, rfl, rfl, (ii_eq (by simp only; omega))⟩ ⟨rfl, (vec_eq (by rw [hsn, hc]; exact ints_add _ _ _ (esc_piece h21 h4)))⟩ rfl⟩
    · try simp only [decide_eq_false_iff_not, Int.not_le] at h21
      try simp only [Int.toNat_natCast, dflt_sl, dflt_st, dflt_str, dflt_int, dflt_bool] at h21
      refine acode_seq ?_
      refine acode_region ?_
      refine And.intro (by first | omega | assumption | decide | (simp only [Int.toNat_natCast, dflt_sl, dflt_st, dflt_str, dflt_int, dflt_bool]; omega) | (simp <;> omega)) ?_
      refine Or.inl ?_
      refine And.intro (rfl) ?_
      refine Exists.intro _ (And.intro (indexByte_v _ (s.data.toList.getD i 0) _ k2 rfl hk2) ?_)
      refine acode_cond rfl (fun h30 => ?_) (fun h30 => ?_)
      · try simp only [decide_eq_true_eq] at h30
        try simp only [Int.toNat_natCast, dflt_sl, dflt_st, dflt_str, dflt_int, dflt_bool] at h30
        have hc : escC m.data.toList (s.data.toList.getD i 0) = [92, s.data.toList.getD i 0] := by unfold escC; rw [hk, hk2, if_neg (by omega), if_pos h30]
        refine acode_region ?_
        refine And.intro (by first | omega | assumption | decide | (simp only [Int.toNat_natCast, dflt_sl, dflt_st, dflt_str, dflt_int, dflt_bool]; omega) | (simp <;> omega)) ?_
        refine And.intro (by first | omega | assumption | decide | (simp only [Int.toNat_natCast, dflt_sl, dflt_st, dflt_str, dflt_int, dflt_bool]; omega) | (simp <;> omega)) ?_
        refine And.intro (by rw [← ByteArray.size_append, hx2]; decide) ?_
        refine Or.inr (Or.inl (Exists.intro [] (Exists.intro [0, 1] (Exists.intro _ (Exists.intro _ (Exists.intro _ (Exists.intro _ (Exists.intro _ (And.intro (writeString_o _ _ _ (by rw [hx2]; omega)) (And.intro rfl (And.intro (And.intro (And.intro rfl rfl) (And.intro (And.intro rfl rfl) True.intro)) (And.intro rfl ?_))))))))))))
        refine acode_region ?_
        refine And.intro (by first | omega | assumption | decide | (simp only [Int.toNat_natCast, dflt_sl, dflt_st, dflt_str, dflt_int, dflt_bool]; omega) | (simp <;> omega)) ?_
        exact ⟨(i + 1, true), (by simp only; omega), by first | omega | (simp <;> omega), le_of ⟨rfl, rfl, rfl, rfl, (ii_eq (by simp only; omega))⟩ ⟨rfl, (vec_eq (by rw [hsn, hc]; exact ints_add _ _ _ hx))⟩ rfl⟩
      · try simp only [decide_eq_false_iff_not, Int.not_le] at h30
        try simp only [Int.toNat_natCast, dflt_sl, dflt_st, dflt_str, dflt_int, dflt_bool] at h30
        have hc : escC m.data.toList (s.data.toList.getD i 0) = [s.data.toList.getD i 0] := by unfold escC; rw [hk, hk2, if_neg (by omega), if_neg (by omega)]
        refine acode_region ?_
        refine And.intro (by first | omega | assumption | decide | (simp only [Int.toNat_natCast, dflt_sl, dflt_st, dflt_str, dflt_int, dflt_bool]; omega) | (simp <;> omega)) ?_
        refine Or.inr (Or.inl (Exists.intro [] (Exists.intro [0, 1] (Exists.intro _ (Exists.intro _ (Exists.intro _ (Exists.intro _ (Exists.intro _ (And.intro (writeByte_o _ _ _ (by omega)) (And.intro rfl (And.intro (And.intro (And.intro rfl rfl) (And.intro (And.intro rfl rfl) True.intro)) (And.intro rfl ?_))))))))))))
        refine acode_region ?_
        refine And.intro (by first | omega | assumption | decide | (simp only [Int.toNat_natCast, dflt_sl, dflt_st, dflt_str, dflt_int, dflt_bool]; omega) | (simp <;> omega)) ?_
        exact ⟨(i + 1, true), (by simp only; omega), by first | omega | (simp <;> omega), le_of ⟨rfl, rfl, rfl, rfl, (ii_eq (by simp only; omega))⟩ ⟨rfl, (vec_eq (by rw [hsn, hc]; exact ints_push _ _ _ rfl))⟩ rfl⟩
  · try simp only [decide_eq_false_iff_not, Int.not_lt] at h11
    try simp only [Int.toNat_natCast, dflt_sl, dflt_st, dflt_str, dflt_int, dflt_bool] at h11
    refine acode_exit ?_
    refine acode_seq ?_
    refine acode_region ?_
    refine Or.inr (Or.inl (Exists.intro [] (Exists.intro [0, 1] (Exists.intro _ (Exists.intro _ (Exists.intro _ (Exists.intro _ (Exists.intro _ (And.intro (string_o _ _) (And.intro rfl (And.intro (And.intro (And.intro rfl rfl) (And.intro (And.intro rfl rfl) True.intro)) (And.intro rfl ?_))))))))))))
    refine acode_ret ?_
    refine is_eq ?_
    rw [List.take_of_length_le (by omega)]
end QQ
end Q
end Ab
end Go.Proofs.YtklhlkhlndhepaaGreatDoor
namespace Go.Proofs.YtklhlkhlndhepaaGreatDoor
open Go.RowKit
namespace Ab
set_option maxRecDepth 100000
namespace Q
namespace QQ
theorem cut1_v (w : ByteArray) (r : List UInt8) (b : Bool) (hr : restOf w.data.toList = r) (hb : Lib.hasPrefix w.data.toList [33] = b) :
    ACall Tryz.prog 163 [is w, is ⟨#[33]⟩] (.tup [(false, [.lit (.string (bytes r))]), (false, [.lit (.bool b)])]) := by
  subst hr hb; exact cutPrefix_c w ⟨#[33]⟩
theorem sign_v (r : List UInt8) (k : Int) (hk : signL r 0 = k) (hr : r.length ≤ 1000000) : ACall Tryz.prog 164 [is (bytes r)] (ii .i64 k) := by
  have := sign_c (bytes r) hr
  rw [bytes_list, hk] at this; exact this
theorem signL_lt (l : List UInt8) (n : Int) (h0 : 0 ≤ n) (h : 0 ≤ signL l n) : n ≤ signL l n ∧ signL l n < n + l.length := by
  induction hk : l.length using Nat.strongRecOn generalizing l n with
  | ind m ih =>
    match l, hk with
    | [], _ => exact absurd h (by unfold signL; decide)
    | c :: r, hk =>
      by_cases hc : c = 92
      · subst hc
        rw [signL_slash] at h ⊢
        have hl : (r.drop 1).length ≤ r.length := by rw [List.length_drop]; omega
        simp only [List.length_cons] at hk
        have := ih (r.drop 1).length (by omega) (r.drop 1) (n + 2) (by omega) h rfl
        cases r with
        | nil => exact absurd h (by show ¬ 0 ≤ (-1 : Int); decide)
        | cons d r => simp only [List.length_cons, List.drop_succ_cons, List.drop_zero] at this hk ⊢; omega
      · rw [signL_other hc] at h ⊢
        simp only [List.length_cons] at hk
        split at h
        · rename_i hs; rw [if_pos hs]; omega
        · rename_i hs
          rw [if_neg hs]
          have := ih r.length (by omega) r (n + 1) (by omega) h rfl
          omega
theorem trim_len (l p : List UInt8) : (Lib.trimPrefix l p).length ≤ l.length := by
  unfold Lib.trimPrefix; split
  · rw [List.length_drop]; omega
  · exact Nat.le_refl _
def tupT (o : Option Term) : A := .tup [(true, toL rTerm (o.getD (false, ByteArray.empty, 0, ByteArray.empty))), (false, [.lit (.bool o.isSome)])]
theorem unescape_v (s : ByteArray) (l : List UInt8) (hl : s.data.toList = l) (hs : l.length ≤ 1000000) : ACall Tryz.prog 165 [is s] (is (bytes (unescL l))) := by
  subst hl; exact unescape_c s (by rw [size_list]; exact hs)
theorem indexB_le (l : List UInt8) (c : UInt8) : -1 ≤ Lib.indexByte l c ∧ Lib.indexByte l c < l.length := by
  refine ⟨Lib.indexByte_ge l c, ?_⟩
  by_cases h : 0 ≤ Lib.indexByte l c
  · have := indexB_lt h; omega
  · omega
theorem bytes_size (l : List UInt8) : (bytes l).size = l.length := by rw [size_list, bytes_list]
theorem extract_ls (s : ByteArray) (a b : Nat) : (s.extract a b).data.toList = (s.data.toList.drop a).take (b - a) := Lib.extract_data s a b
theorem term_c (w : ByteArray) (hw : w.size ≤ 1000000) : ACall Tryz.prog 134 [is w] (tupT (termP w.data.toList)) := by
  obtain ⟨r, hr⟩ : ∃ r, restOf w.data.toList = r := ⟨_, rfl⟩
  obtain ⟨b, hb⟩ : ∃ b, Lib.hasPrefix w.data.toList [33] = b := ⟨_, rfl⟩
  obtain ⟨k, hk⟩ : ∃ k, signL r 0 = k := ⟨_, rfl⟩
  have hrl : r.length ≤ 1000000 := by rw [← hr]; exact Nat.le_trans (trim_len _ _) (by rw [← size_list]; exact hw)
  have hP : termP w.data.toList = if k < 0 then none else some (b, bytes (unescL (r.take k.toNat)), Lib.indexByte SG (r.getD k.toNat 0) + 1, bytes (unescL (r.drop (k.toNat + 1)))) := by
    unfold termP; rw [hr, hb, hk]
  have hbs := bytes_size r
  refine acall_ofc (rs := [.cell 2 117, .tmp 3]) Tryz.func134 rfl rfl rfl teOk rfl ?_
  refine acode_seq ?_
  refine acode_region ?_
  refine acode_seq ?_
  refine acode_region ?_
  refine Or.inl ?_
  refine And.intro (rfl) ?_
  refine Exists.intro _ (And.intro (cut1_v w r b hr hb) ?_)
  refine acode_seq ?_
  refine acode_region ?_
  refine Or.inl ?_
  refine And.intro (rfl) ?_
  refine Exists.intro _ (And.intro (sign_v r k hk hrl) ?_)
  refine acode_seq ?_
  refine acode_seq ?_
  refine acode_region ?_
  refine acode_cond rfl (fun h15 => ?_) (fun h15 => ?_)
  · try simp only [decide_eq_true_eq] at h15
    try simp only [Int.toNat_natCast, dflt_sl, dflt_st, dflt_str, dflt_int, dflt_bool] at h15
    refine acode_seq ?_
    refine acode_region ?_
    refine acode_ret ?_
    rw [hP, if_pos (by omega)]
    rfl
  · try simp only [decide_eq_false_iff_not, Int.not_lt] at h15
    try simp only [Int.toNat_natCast, dflt_sl, dflt_st, dflt_str, dflt_int, dflt_bool] at h15
    have hlt := signL_lt r 0 (by decide) (by omega)
    rw [hk] at hlt
    obtain ⟨i, rfl⟩ := Int.eq_ofNat_of_zero_le h15
    have hil : i < r.length := by omega
    obtain ⟨j, hj⟩ : ∃ j, Lib.indexByte SG (r.getD i 0) = j := ⟨_, rfl⟩
    have hjl := indexB_le SG (r.getD i 0)
    rw [hj] at hjl
    have hj5 : j < 5 := hjl.2
    refine acode_skip ?_
    refine acode_seq ?_
    refine acode_ord rfl ?_
    refine aord_light 0 rfl rfl rfl (by kernel_rfl) ?_
    refine aord_light 1 rfl rfl rfl (by kernel_rfl) ?_
    refine aord_light 2 rfl rfl rfl (by kernel_rfl) ?_
    refine aord_light 3 rfl rfl rfl (by kernel_rfl) ?_
    refine And.intro (by first | omega | assumption | decide | (simp only [Int.toNat_natCast, dflt_sl, dflt_st, dflt_str, dflt_int, dflt_bool]; omega) | (simp <;> omega)) ?_
    refine aord_light 5 rfl rfl rfl (by kernel_rfl) ?_
    refine aord_light 6 rfl rfl rfl (by kernel_rfl) ?_
    refine aord_light 7 rfl rfl rfl (by kernel_rfl) ?_
    refine And.intro (by first | omega | assumption | decide | (simp only [Int.toNat_natCast, dflt_sl, dflt_st, dflt_str, dflt_int, dflt_bool]; omega) | (simp <;> omega)) ?_
    refine aord_light 10 rfl rfl rfl (by kernel_rfl) ?_
    refine aord_light 11 rfl rfl rfl (by kernel_rfl) ?_
    refine aord_light 12 rfl rfl rfl (by kernel_rfl) ?_
    refine And.intro (by first | omega | assumption | decide | (simp only [Int.toNat_natCast, dflt_sl, dflt_st, dflt_str, dflt_int, dflt_bool]; omega) | (simp <;> omega)) ?_
    refine aord_light 13 rfl rfl rfl (by kernel_rfl) ?_
    refine And.intro (by first | omega | assumption | decide | (simp only [Int.toNat_natCast, dflt_sl, dflt_st, dflt_str, dflt_int, dflt_bool]; omega) | (simp <;> omega)) ?_
    refine aord_all [4] (by kernel_rfl) rfl ?_
    refine Or.inl ?_
    refine And.intro (rfl) ?_
    refine Exists.intro _ (And.intro (unescape_v _ (r.take i) (by rw [extract_ls, bytes_list, Int.toNat_natCast]; simp) (by rw [List.length_take]; omega)) ?_)
    refine aord_all [8] (by kernel_rfl) rfl ?_
    refine Or.inl ?_
    refine And.intro (rfl) ?_
    refine Exists.intro _ (And.intro (indexByte_v _ (r.getD i 0) _ j (by rw [bytes_list, Int.toNat_natCast]) hj) ?_)
    refine aord_light 9 rfl rfl rfl (by kernel_rfl) ?_
    refine And.intro (by first | omega | assumption | decide | (simp only [Int.toNat_natCast, dflt_sl, dflt_st, dflt_str, dflt_int, dflt_bool]; omega) | (simp <;> omega)) ?_
    refine aord_all [14] (by kernel_rfl) rfl ?_
    refine Or.inl ?_
    refine And.intro (rfl) ?_
    refine Exists.intro _ (And.intro (unescape_v _ (r.drop (i + 1)) (by rw [extract_ls, bytes_list, hbs, show ((i : Int) + 1).toNat = i + 1 by omega, List.take_of_length_le (by rw [List.length_drop]; simp)]) (by rw [List.length_drop]; omega)) ?_)
    refine aord_all [15] (by kernel_rfl) rfl ?_
    refine aord_all [16] (by kernel_rfl) rfl ?_
    refine aord_light 17 rfl rfl rfl (by kernel_rfl) ?_
    refine aord_done (by kernel_rfl) ?_
    refine acode_ret ?_
    rw [hP, if_neg (by omega), Int.toNat_natCast, hj]
    rfl

theorem split_v (s p : ByteArray) (ws : List ByteArray) (hw : Lib.splitB p 0 (Lib.countB s p) s = ws) (hs : s.size ≤ 1000000) (h1 : 1 ≤ p.size) : ACall Tryz.prog 101 [is s, is p] (.one (.sl .str ws)) := by
  subst hw
  exact Ab.split_c s p (by omega) h1 (by have := Lib.countB_le p h1 _ s (Nat.le_refl _); unfold maxLen; omega)
theorem split_size (p : ByteArray) : ∀ (k : Nat) (s : ByteArray), ∀ x ∈ Lib.splitB p 0 k s, x.size ≤ s.size
  | 0, s, x, hx => by rw [List.mem_singleton.1 hx]; exact Nat.le_refl _
  | k + 1, s, x, hx => by
    unfold Lib.splitB at hx
    split at hx
    · rw [List.mem_singleton.1 hx]; exact Nat.le_refl _
    · rcases List.mem_cons.1 hx with rfl | hx
      · rw [ByteArray.size_extract]; omega
      · have := split_size p k _ x hx
        rw [ByteArray.size_extract] at this; omega
theorem split_len (p s : ByteArray) (h1 : 1 ≤ p.size) : (Lib.splitB p 0 (Lib.countB s p) s).length ≤ s.size + 1 := by
  rw [Lib.splitB_all p h1 0 _ s rfl]
  have := Lib.countB_le p h1 _ s (Nat.le_refl _); omega
theorem split_ls (p s : ByteArray) : (Lib.splitB p 0 (Lib.countB s p) s).map ls = Lib.split (ls s) (ls p) := Lib.splitB_data p 0 _ s
theorem rdAll_snoc {α : Type} {f : List UInt8 → Option α} {w : List UInt8} : ∀ {l : List (List UInt8)} {a : List α}, rdAll f l = some a → rdAll f (l ++ [w]) = (f w).map fun t => a ++ [t]
  | [], a, h => by
    cases h
    show rdAll f [w] = _
    unfold rdAll rdAll
    cases f w <;> rfl
  | v :: l, a, h => by
    rw [List.cons_append]
    unfold rdAll at h ⊢
    split at h
    · rename_i t b h1 h2
      cases h
      rw [h1, rdAll_snoc h2]
      cases f w <;> rfl
    · cases h
theorem rdAll_none {α : Type} {f : List UInt8 → Option α} {w : List UInt8} : ∀ {l : List (List UInt8)}, w ∈ l → f w = none → rdAll f l = none
  | v :: l, h, hf => by
    unfold rdAll
    rcases List.mem_cons.1 h with rfl | h
    · rw [hf]
    · rw [rdAll_none h hf]; split <;> first | rfl | simp_all
def tupR (o : Option (List Term)) : A := .tup [(false, [.sl rTerm (o.getD [])]), (false, [.lit (.bool o.isSome)])]
theorem map_take_succ {α β : Type} (g : α → β) (l : List α) (d : α) (i : Nat) (h : i < l.length) : (l.take (i + 1)).map g = (l.take i).map g ++ [g (l.getD i d)] := by
  rw [← take_snoc d h, List.map_append]; rfl
theorem tupR_eq {o o' : Option (List Term)} (h : o = o') : tupR o = tupR o' := by rw [h]
theorem ls_inj {s : ByteArray} {l : List UInt8} (h : ls s = l) : s = bytes l := by rw [← h, bytes_ls]
theorem row_c (line : ByteArray) (hl : line.size ≤ 900000) : ACall Tryz.prog 102 [is line] (tupR (rowP line.data.toList)) := by
  obtain ⟨ws, hws⟩ : ∃ ws, Lib.splitB ⟨#[32]⟩ 0 (Lib.countB line ⟨#[32]⟩) line = ws := ⟨_, rfl⟩
  have hsz : ∀ x ∈ ws, x.size ≤ 1000000 := fun x hx => Nat.le_trans (split_size _ _ _ x (hws ▸ hx)) (by omega)
  have hlen : ws.length ≤ line.size + 1 := by rw [← hws]; exact split_len _ _ (by decide)
  have hsp : ws.map ls = Lib.split (ls line) [32] := by rw [← hws]; exact split_ls _ _
  refine acall_of (rs := [2, 3]) Tryz.func102 rfl rfl rfl teOk rfl ?_
  refine acode_seq ?_
  refine acode_region ?_
  refine acode_seq ?_
  refine acode_region ?_
  refine acode_seq ?_
  refine acode_seq ?_
  refine acode_region ?_
  refine acode_cond rfl (fun h10 => ?_) (fun h10 => ?_)
  · try simp only [decide_eq_true_eq] at h10
    try simp only [Int.toNat_natCast, dflt_sl, dflt_st, dflt_str, dflt_int, dflt_bool] at h10
    refine acode_seq ?_
    refine acode_region ?_
    refine acode_nilvec 2 117 rTerm rfl ?_
    refine acode_ret ?_
    exact tupR_eq (o := some []) (by rw [h10]; rfl)
  · try simp only [decide_eq_false_iff_not] at h10
    try simp only [Int.toNat_natCast, dflt_sl, dflt_st, dflt_str, dflt_int, dflt_bool] at h10
    refine acode_skip ?_
    refine acode_seq ?_
    refine acode_seq ?_
    refine acode_nilvec 4 117 rTerm rfl ?_
    refine acode_region ?_
    refine Or.inl ?_
    refine And.intro (rfl) ?_
    refine Exists.intro _ (And.intro (split_v line _ ws hws (by omega) (by decide)) ?_)
    intro l4_2
    try simp only [Int.toNat_natCast, dflt_sl, dflt_st, dflt_str, dflt_int, dflt_bool] at l4_2
    refine acode_block ?_
    refine acode_loopP (fun (x : Nat × List Term) => x.1 ≤ ws.length ∧ x.2.length = x.1 ∧ rdAll termP ((ws.take x.1).map ls) = some x.2) (fun (x : Nat × List Term) => [(4, .one (.vec 0)), (12, .one (.sl .str ws)), (13, ii .i64 ws.length), (14, ii .i64 x.1)]) (fun (x : Nat × List Term) => [(0, .vec 117 rTerm x.2)]) 1 (fun (x : Nat × List Term) => ws.length - x.1) (0, []) (⟨Nat.zero_le _, rfl, rfl⟩) (le_of ⟨rfl, rfl, rfl, rfl⟩ rfl rfl) ?_
    intro ⟨i, o⟩ hI0
    simp only at hI0 ⊢
    obtain ⟨hi, ho, hn⟩ := hI0
    refine acode_seq ?_
    refine acode_region ?_
    refine acode_seq ?_
    refine acode_cond rfl (fun h15 => ?_) (fun h15 => ?_)
    · try simp only [decide_eq_true_eq] at h15
      try simp only [Int.toNat_natCast, dflt_sl, dflt_st, dflt_str, dflt_int, dflt_bool] at h15
      refine acode_skip ?_
      refine acode_seq ?_
      refine acode_block ?_
      refine acode_seq ?_
      refine acode_region ?_
      refine And.intro (by first | omega | assumption | decide | (simp only [Int.toNat_natCast, dflt_sl, dflt_st, dflt_str, dflt_int, dflt_bool]; omega) | (simp <;> omega)) ?_
      refine acode_seq ?_
      refine acode_region ?_
      refine Or.inl ?_
      refine And.intro (rfl) ?_
      refine Exists.intro _ (And.intro (term_c _ (hsz _ (getD_mem (show i < ws.length by omega) _))) ?_)
      refine acode_seq ?_
      refine acode_seq ?_
      refine acode_region ?_
      refine acode_cond rfl (fun h24 => ?_) (fun h24 => ?_)
      · try simp only [Bool.not_eq_true'] at h24
        try simp only [Int.toNat_natCast, dflt_str] at h24
        have hno : termP (ls (ws.getD i ByteArray.empty)) = none := by cases e : termP (ls (ws.getD i ByteArray.empty)); rfl; rw [e] at h24; cases h24
        refine acode_seq ?_
        refine acode_region ?_
        refine acode_nilvec 2 117 rTerm rfl ?_
        refine acode_ret ?_
        exact tupR_eq (o := none) (by unfold rowP; rw [if_neg (fun e => h10 (ls_inj e)), ← hsp]; exact (rdAll_none (List.mem_map.2 ⟨_, getD_mem (show i < ws.length by omega) _, rfl⟩) hno).symm)
      · try simp only [Bool.not_eq_false'] at h24
        try simp only [Int.toNat_natCast, dflt_str] at h24
        obtain ⟨t, ht⟩ : ∃ t, termP (ls (ws.getD i ByteArray.empty)) = some t := Option.isSome_iff_exists.1 h24
        refine acode_skip ?_
        refine acode_region ?_
        refine And.intro (by show (_ + 1) * 48 ≤ 140737488355328; omega) ?_
        refine acode_region ?_
        refine And.intro (by first | omega | assumption | decide | (simp only [Int.toNat_natCast, dflt_sl, dflt_st, dflt_str, dflt_int, dflt_bool]; omega) | (simp <;> omega)) ?_
        exact ⟨(i + 1, o ++ [(termP (ls (ws.getD i ByteArray.empty))).getD (false, ByteArray.empty, 0, ByteArray.empty)]), ⟨by simp only; omega, by simp; omega, by simp only; rw [map_take_succ ls ws ByteArray.empty i (by omega), rdAll_snoc hn, ht]; rfl⟩, by first | omega | (simp <;> omega), le_of ⟨rfl, rfl, rfl, (ii_eq (by simp only; omega))⟩ (vec_eq rfl) rfl⟩
    · try simp only [decide_eq_false_iff_not, Int.not_lt] at h15
      try simp only [Int.toNat_natCast, dflt_sl, dflt_st, dflt_str, dflt_int, dflt_bool] at h15
      refine acode_exit ?_
      refine acode_seq ?_
      refine acode_region ?_
      refine acode_ret ?_
      have hiw : i = ws.length := by omega
      rw [hiw, List.take_length] at hn
      exact tupR_eq (o := some o) (by unfold rowP; rw [if_neg (fun e => h10 (ls_inj e)), ← hsp]; exact hn.symm)
end QQ
end Q
end Ab
end Go.Proofs.YtklhlkhlndhepaaGreatDoor
namespace Go.Proofs.YtklhlkhlndhepaaGreatDoor
open Go.RowKit
namespace Ab
set_option maxRecDepth 100000
namespace Q
namespace QQ
theorem occ_one (l : List UInt8) (c : UInt8) (i : Nat) : Lib.occAt l [c] i = true ↔ l[i]? = some c := by
  refine ⟨fun h => Lib.occAt_head rfl h, fun h => ?_⟩
  unfold Lib.occAt
  obtain ⟨hi, e⟩ := List.getElem?_eq_some_iff.1 h
  rw [List.drop_eq_getElem_cons hi, e]
  simp [List.isPrefixOf]
theorem contains_one (l : List UInt8) (c : UInt8) : Lib.contains l [c] = decide (c ∈ l) := by
  unfold Lib.contains
  refine decide_eq_decide.2 ⟨fun h => ?_, fun h => ?_⟩
  · rcases Lib.index_spec l [c] with ⟨e, _⟩ | ⟨i, _, _, h3, _⟩
    · omega
    · exact List.mem_of_getElem? ((occ_one l c i).1 h3)
  · obtain ⟨i, hi, e⟩ := List.getElem_of_mem h
    rcases Lib.index_spec l [c] with ⟨_, h2⟩ | ⟨i, h1, _⟩
    · have := h2 i (Nat.le_of_lt hi)
      rw [(occ_one l c i).2 (by rw [List.getElem?_eq_getElem hi, e])] at this
      cases this
    · omega
def blankC (c : UInt8) : Bool := decide (c = 32) || decide (c = 9)
def blankL (l : List UInt8) : Bool := decide (1 ≤ l.length) && blankC (l.getD 0 0)
def keyOk (l : List UInt8) : Bool := (((((decide (1 ≤ l.length) && decide (l.length ≤ 32)) && !blankC (l.getD 0 0)) && !decide (l.getD 0 0 = 35)) && !decide (58 ∈ l)) && !decide (10 ∈ l))
theorem emp {s : ByteArray} : s = ⟨#[]⟩ ↔ s.data.toList.length = 0 := by
  refine ⟨fun h => by rw [h]; rfl, fun h => ?_⟩
  have := List.eq_nil_of_length_eq_zero h
  rw [← bytes_ls s, show ls s = [] from this]; rfl
theorem hasPrefix_one (l : List UInt8) (c : UInt8) : Lib.hasPrefix l [c] = (decide (1 ≤ l.length) && decide (l.getD 0 0 = c)) := by
  unfold Lib.hasPrefix
  cases l with
  | nil => rfl
  | cons d l =>
    have : (c == d) = decide (d = c) := by rw [Bool.eq_iff_iff, beq_iff_eq, decide_eq_true_iff]; exact eq_comm
    simp [List.isPrefixOf, this]
theorem keyOk_prog (l : List UInt8) : keyOk l = (!(((decide (l.length = 0) || decide (32 < l.length)) || blankL l) || Lib.hasPrefix l [35]) && (!Lib.contains l [58] && !Lib.contains l [10])) := by
  rw [contains_one, contains_one, hasPrefix_one]
  unfold keyOk blankL
  by_cases h : 1 ≤ l.length
  · have h0 : ¬ l.length = 0 := by omega
    by_cases h2 : l.length ≤ 32
    · have h3 : ¬ 32 < l.length := by omega
      simp [h, h0, h2, h3, Bool.and_assoc]
    · have h3 : 32 < l.length := by omega
      simp [h2, h3]
  · have h0 : l.length = 0 := by omega
    simp [h0]
theorem blank_c (s : ByteArray) (hs : s.size ≤ 1000000000) : ACall Tryz.prog 150 [is s] (ib (blankL s.data.toList)) := by
  have hz := size_list s
  refine acall_of (rs := [2]) Tryz.func150 rfl rfl rfl teOk rfl ?_
  refine acode_seq ?_
  refine acode_region ?_
  refine acode_seq ?_
  refine acode_region ?_
  refine And.intro (fun h => trivial) ?_
  refine And.intro (fun h => ⟨⟨⟨h, trivial⟩, trivial⟩, by have h9 : ¬ s = ⟨#[]⟩ := (by simpa [gq] using h); rw [emp] at h9; omega⟩) ?_
  refine And.intro (rfl) ?_
  refine Exists.intro _ (And.intro (fun h => ⟨⟨⟨h, trivial⟩, trivial⟩, contains_c _ _ (by decide)⟩) ?_)
  refine And.intro (by exact fun h => h) ?_
  refine acode_ret ?_
  refine ib_eq ?_
  by_cases h : s.data.toList.length = 0
  · rw [decide_eq_true (emp.2 h), Bool.not_true, Bool.false_and]; unfold blankL; rw [h]; rfl
  · rw [decide_eq_false (fun e => h (emp.1 e)), show s.extract (Int.toNat 0) (Int.toNat 1) = bytes [s.data.toList.getD 0 0] from extract_one (by omega), bytes_list, contains_one]; unfold blankL blankC; rw [decide_eq_true (show 1 ≤ s.data.toList.length by omega)]; simp
theorem key_c (s : ByteArray) (hs : s.size ≤ 1000000000) : ACall Tryz.prog 151 [is s] (ib (keyOk s.data.toList)) := by
  have hz := size_list s
  refine acall_of (rs := [2]) Tryz.func151 rfl rfl rfl teOk rfl ?_
  refine acode_seq ?_
  refine acode_region ?_
  refine acode_seq ?_
  refine acode_seq ?_
  refine acode_region ?_
  refine And.intro (fun h => trivial) ?_
  refine And.intro (fun h => ⟨⟨h, trivial⟩, trivial⟩) ?_
  refine And.intro (fun h => ⟨⟨h, trivial⟩, trivial⟩) ?_
  refine And.intro (by first | (intro h; rw [h]; rfl) | (intro h; cases h)) ?_
  refine And.intro (fun h => trivial) ?_
  refine And.intro (rfl) ?_
  refine Exists.intro _ (And.intro (fun h => ⟨⟨⟨h, trivial⟩, trivial⟩, blank_c _ hs⟩) ?_)
  refine And.intro (by first | (intro h; rw [h]; rfl) | (intro h; cases h)) ?_
  refine And.intro (fun h => trivial) ?_
  refine And.intro (rfl) ?_
  refine Exists.intro _ (And.intro (fun h => ⟨⟨⟨h, trivial⟩, trivial⟩, hasPrefix_c _ _⟩) ?_)
  refine And.intro (by first | (intro h; rw [h]; rfl) | (intro h; cases h)) ?_
  refine acode_cond rfl (fun h17 => ?_) (fun h17 => ?_)
  · try simp only [decide_eq_true_eq, Bool.or_eq_true] at h17
    try simp only [Int.toNat_natCast, dflt_sl, dflt_st, dflt_str, dflt_int, dflt_bool] at h17
    refine acode_seq ?_
    refine acode_region ?_
    refine acode_ret ?_
    refine ib_eq ?_
    rw [keyOk_prog]
    rw [emp] at h17
    rcases h17 with ((h | h) | h) | h
    · simp [h]
    · rw [decide_eq_true (show 32 < s.data.toList.length by omega)]; simp
    · simp [h]
    · simp [h]
  · try simp only [decide_eq_false_iff_not, Bool.or_eq_false_iff, Int.not_lt] at h17
    try simp only [Int.toNat_natCast, dflt_sl, dflt_st, dflt_str, dflt_int, dflt_bool] at h17
    refine acode_skip ?_
    refine acode_seq ?_
    refine acode_region ?_
    refine Or.inl ?_
    refine And.intro (rfl) ?_
    refine Exists.intro _ (And.intro (contains_c _ _ (by omega)) ?_)
    refine And.intro (fun h => trivial) ?_
    refine And.intro (rfl) ?_
    refine Exists.intro _ (And.intro (fun h => ⟨⟨⟨h, trivial⟩, trivial⟩, contains_c _ _ (by omega)⟩) ?_)
    refine And.intro (fun h => ⟨⟨h, trivial⟩, trivial⟩) ?_
    refine And.intro (by exact fun h => h) ?_
    refine acode_ret ?_
    refine ib_eq ?_
    rw [keyOk_prog]
    rw [emp] at h17
    obtain ⟨⟨⟨h1, h2⟩, h3⟩, h4⟩ := h17
    simp only [h3, h4, decide_eq_false h1, decide_eq_false (show ¬ 32 < s.data.toList.length by omega)]
    rfl
end QQ
end Q
end Ab
end Go.Proofs.YtklhlkhlndhepaaGreatDoor
namespace Go.Proofs.YtklhlkhlndhepaaGreatDoor
open Go.RowKit
namespace Ab
set_option maxRecDepth 100000
namespace Q
namespace QQ
theorem index_P (f : FuncId) (l : List (Term)) (p : Term → Bool) (hp : ∀ x ∈ l, ACall Tryz.prog f [.agg (toL rTerm x)] (ib (p x))) : ACall Tryz.prog 132 [.one (.sl rTerm l), .one (.lit (.func (.func f) #[] #[]))] (ii .i64 (ixOf p l)) := by
  refine acall_of (rs := [4]) Tryz.func132 rfl rfl rfl teOk rfl ?_
  refine acode_seq ?_
  refine acode_region ?_
  refine acode_seq ?_
  refine acode_seq ?_
  refine acode_region ?_
  intro l1_1
  try simp only [Int.toNat_natCast, dflt_sl, dflt_st, dflt_str, dflt_int, dflt_bool] at l1_1
  refine acode_block ?_
  refine acode_loopP (fun (i : Nat) => i ≤ l.length ∧ (l.take i).any p = false) (fun (i : Nat) => [(0, .one (.sl rTerm l)), (1, .one (.lit (.func (.func f) #[] #[]))), (7, ii .i64 l.length), (8, ii .i64 i)]) (fun (i : Nat) => []) 0 (fun (i : Nat) => l.length - i) 0 (⟨Nat.zero_le _, rfl⟩) (le_of ⟨rfl, rfl, rfl, rfl⟩ trivial rfl) ?_
  intro i hI0
  obtain ⟨hi, hn⟩ := hI0
  refine acode_seq ?_
  refine acode_region ?_
  refine acode_seq ?_
  refine acode_cond rfl (fun h9 => ?_) (fun h9 => ?_)
  · try simp only [decide_eq_true_eq] at h9
    try simp only [Int.toNat_natCast, dflt_sl, dflt_st, dflt_str, dflt_int, dflt_bool] at h9
    refine acode_skip ?_
    refine acode_seq ?_
    refine acode_block ?_
    refine acode_seq ?_
    refine acode_region ?_
    refine acode_seq ?_
    refine acode_region ?_
    refine And.intro (by first | omega | assumption | decide | (simp only [Int.toNat_natCast, dflt_sl, dflt_st, dflt_str, dflt_int, dflt_bool]; omega) | (simp <;> omega)) ?_
    refine Or.inl ?_
    refine And.intro (rfl) ?_
    refine Exists.intro _ (And.intro (hp _ (getD_mem (show i < l.length by omega) _)) ?_)
    refine acode_cond rfl (fun h16 => ?_) (fun h16 => ?_)
    · try simp only [decide_eq_true_eq, decide_eq_false_iff_not, Bool.and_eq_true, Bool.not_eq_true', Bool.not_eq_false', Bool.or_eq_false_iff, Bool.or_eq_true, Bool.and_eq_false_iff, Int.not_lt, Int.not_le] at h16
      try simp only [Int.toNat_natCast, dflt_st, dflt_str, dflt_int, dflt_bool] at h16
      refine acode_seq ?_
      refine acode_region ?_
      refine acode_ret ?_
      exact ii_eq (ixOf_at (rTerm).dflt (by omega) hn h16).symm
    · try simp only [decide_eq_true_eq, decide_eq_false_iff_not, Bool.and_eq_true, Bool.not_eq_true', Bool.not_eq_false', Bool.or_eq_false_iff, Bool.or_eq_true, Bool.and_eq_false_iff, Int.not_lt, Int.not_le] at h16
      try simp only [Int.toNat_natCast, dflt_st, dflt_str, dflt_int, dflt_bool] at h16
      refine acode_skip ?_
      refine acode_region ?_
      refine And.intro (by first | omega | assumption | decide | (simp only [Int.toNat_natCast, dflt_sl, dflt_st, dflt_str, dflt_int, dflt_bool]; omega) | (simp <;> omega)) ?_
      exact ⟨i + 1, ⟨by omega, by rw [take_any l p (rTerm).dflt i (by omega), hn]; exact h16⟩, by first | omega | (simp <;> omega), le_of ⟨rfl, rfl, rfl, rfl⟩ trivial rfl⟩
  · try simp only [decide_eq_false_iff_not, Int.not_lt] at h9
    try simp only [Int.toNat_natCast, dflt_sl, dflt_st, dflt_str, dflt_int, dflt_bool] at h9
    refine acode_exit ?_
    refine acode_seq ?_
    refine acode_region ?_
    refine acode_ret ?_
    have e : i = l.length := by omega
    subst e
    rw [List.take_length] at hn
    exact ii_eq (ixOf_none hn).symm
theorem contains_P (f : FuncId) (l : List (Term)) (p : Term → Bool) (hp : ∀ x ∈ l, ACall Tryz.prog f [.agg (toL rTerm x)] (ib (p x))) : ACall Tryz.prog 98 [.one (.sl rTerm l), .one (.lit (.func (.func f) #[] #[]))] (ib (l.any p)) := by
  refine acall_of (rs := [4]) Tryz.func98 rfl rfl rfl teOk rfl ?_
  refine acode_seq ?_
  refine acode_region ?_
  refine acode_seq ?_
  refine acode_region ?_
  refine Or.inl ?_
  refine And.intro (rfl) ?_
  refine Exists.intro _ (And.intro (index_P f l p hp) ?_)
  refine acode_ret ?_
  exact ib_eq (ixOf_ge p l)
def goodT (t : Term) : Bool := (((keyOk t.2.1.data.toList && decide (1 ≤ t.2.2.1)) && decide (t.2.2.1 ≤ 5)) && (!decide (t.2.2.1 = 1) || decide (t.2.2.2 = ⟨#[]⟩)))
def goodR (r : List Term) : Bool := decide (r.length ≤ 20) && r.all goodT
def goodS (s : List (List Term)) : Bool := decide (s.length ≤ 20) && s.all goodR
/-- No text is too large. -/
def TxtOk (t : Term) : Prop := t.2.1.size ≤ 1000000 ∧ t.2.2.2.size ≤ 1000000
def TxtsOk (s : List (List Term)) : Prop := ∀ r ∈ s, ∀ t ∈ r, TxtOk t
theorem good1_c (t : Term) (ht : TxtOk t) : ACall Tryz.prog 168 [.agg (toL rTerm t)] (ib (goodT t)) := by
  refine acall_of (rs := [2]) Tryz.func168 rfl rfl rfl teOk rfl ?_
  refine acode_seq ?_
  refine acode_region ?_
  refine acode_seq ?_
  refine acode_region ?_
  refine Or.inl ?_
  refine And.intro (rfl) ?_
  refine Exists.intro _ (And.intro (key_c _ (Nat.le_trans ht.1 (by decide))) ?_)
  refine And.intro (fun h => trivial) ?_
  refine And.intro (fun h => ⟨⟨h, trivial⟩, trivial⟩) ?_
  refine And.intro (fun h => ⟨⟨h, trivial⟩, trivial⟩) ?_
  refine And.intro (by exact fun h => h) ?_
  refine And.intro (fun h => trivial) ?_
  refine And.intro (fun h => ⟨⟨h, trivial⟩, trivial⟩) ?_
  refine And.intro (fun h => ⟨⟨h, trivial⟩, trivial⟩) ?_
  refine And.intro (by exact fun h => h) ?_
  refine And.intro (fun h => trivial) ?_
  refine And.intro (fun h => ⟨⟨h, trivial⟩, trivial⟩) ?_
  refine And.intro (fun h => ⟨⟨h, trivial⟩, trivial⟩) ?_
  refine And.intro (fun h => ⟨⟨h, trivial⟩, trivial⟩) ?_
  refine And.intro (fun h => trivial) ?_
  refine And.intro (fun h => ⟨⟨h, trivial⟩, trivial⟩) ?_
  refine And.intro (fun h => ⟨⟨h, trivial⟩, trivial⟩) ?_
  refine And.intro (fun h => ⟨⟨⟨h, trivial⟩, trivial⟩, by first | exact fun h2 => h2 | (intro h2; rw [h, h2]; rfl) | (intro h2; cases h2) | (intro h2; simp_all [gq])⟩) ?_
  refine And.intro (by exact fun h => h) ?_
  refine acode_ret ?_
  rfl
theorem goodF_c (t : Term) (ht : TxtOk t) : ACall Tryz.prog 167 [.agg (toL rTerm t)] (ib (!goodT t)) := by
  refine acall_of (rs := [2]) Tryz.func167 rfl rfl rfl teOk rfl ?_
  refine acode_seq ?_
  refine acode_region ?_
  refine acode_seq ?_
  refine acode_region ?_
  refine Or.inl ?_
  refine And.intro (rfl) ?_
  refine Exists.intro _ (And.intro (good1_c t ht) ?_)
  refine acode_ret ?_
  rfl
theorem all_take_succ {α : Type} (l : List α) (p : α → Bool) (d : α) (i : Nat) (h : i < l.length) : (l.take (i + 1)).all p = ((l.take i).all p && p (l.getD i d)) := by
  rw [← take_snoc d h, List.all_append]; simp
theorem all_not {α : Type} {l : List α} {p : α → Bool} {i : Nat} (d : α) (h : i < l.length) (hp : p (l.getD i d) = false) : l.all p = false := by
  rw [Bool.eq_false_iff]
  intro e
  have := List.all_eq_true.1 e _ (getD_mem h d)
  rw [hp] at this; cases this
theorem goodT_iff {t : Term} : goodT t = true ↔ ((keyOk t.2.1.data.toList = true ∧ 1 ≤ t.2.2.1) ∧ t.2.2.1 ≤ 5) ∧ (¬ t.2.2.1 = 1 ∨ t.2.2.2 = ⟨#[]⟩) := by
  unfold goodT
  simp only [Bool.and_eq_true, Bool.or_eq_true, decide_eq_true_eq, Bool.not_eq_true', decide_eq_false_iff_not]
theorem any_not {r : List Term} : (r.any fun t => !goodT t) = !r.all goodT := by rw [List.not_all_eq_any_not]
theorem goodR_no {r : List Term} (h : 20 < (r.length : Int) ∨ (r.any fun t => !goodT t) = true) : goodR r = false := by
  unfold goodR
  rcases h with h | h
  · rw [decide_eq_false (by omega)]; rfl
  · rw [any_not] at h
    rw [show r.all goodT = false by simpa using h, Bool.and_false]
theorem goodR_yes {r : List Term} (h : (r.length : Int) ≤ 20 ∧ (r.any fun t => !goodT t) = false) : goodR r = true := by
  unfold goodR
  rw [any_not] at h
  rw [decide_eq_true (by omega), show r.all goodT = true by simpa using h.2]; rfl
theorem good_c (s : List (List Term)) (hs : TxtsOk s) : ACall Tryz.prog 135 [.one (.sl (.sl rTerm) s)] (ib (goodS s)) := by
  refine acall_of (rs := [2]) Tryz.func135 rfl rfl rfl teOk rfl ?_
  refine acode_seq ?_
  refine acode_region ?_
  refine acode_seq ?_
  refine acode_seq ?_
  refine acode_region ?_
  intro l1_1
  try simp only [Int.toNat_natCast, dflt_sl, dflt_st, dflt_str, dflt_int, dflt_bool] at l1_1
  refine acode_cond rfl (fun h7 => ?_) (fun h7 => ?_)
  · try simp only [decide_eq_true_eq] at h7
    try simp only [Int.toNat_natCast, dflt_sl, dflt_st, dflt_str, dflt_int, dflt_bool] at h7
    refine acode_seq ?_
    refine acode_region ?_
    refine acode_ret ?_
    refine ib_eq ?_
    unfold goodS
    rw [decide_eq_false (by omega)]
    rfl
  · try simp only [decide_eq_false_iff_not, Int.not_lt] at h7
    try simp only [Int.toNat_natCast, dflt_sl, dflt_st, dflt_str, dflt_int, dflt_bool] at h7
    refine acode_skip ?_
    refine acode_seq ?_
    refine acode_seq ?_
    refine acode_region ?_
    intro l3_1
    try simp only [Int.toNat_natCast, dflt_sl, dflt_st, dflt_str, dflt_int, dflt_bool] at l3_1
    refine acode_block ?_
    refine acode_loopP (fun (i : Nat) => i ≤ s.length ∧ (s.take i).all goodR = true) (fun (i : Nat) => [(8, .one (.sl (.sl rTerm) s)), (9, ii .i64 s.length), (10, ii .i64 i)]) (fun (i : Nat) => []) 0 (fun (i : Nat) => s.length - i) 0 (⟨Nat.zero_le _, rfl⟩) (le_of ⟨rfl, rfl, rfl⟩ trivial rfl) ?_
    intro i hI0
    obtain ⟨hi, hn⟩ := hI0
    refine acode_seq ?_
    refine acode_region ?_
    refine acode_seq ?_
    refine acode_cond rfl (fun h11 => ?_) (fun h11 => ?_)
    · try simp only [decide_eq_true_eq] at h11
      try simp only [Int.toNat_natCast, dflt_sl, dflt_st, dflt_str, dflt_int, dflt_bool] at h11
      have hm := getD_mem (show i < s.length by omega) []
      refine acode_skip ?_
      refine acode_seq ?_
      refine acode_block ?_
      refine acode_seq ?_
      refine acode_region ?_
      refine And.intro (by first | omega | assumption | decide | (simp only [Int.toNat_natCast, dflt_sl, dflt_st, dflt_str, dflt_int, dflt_bool]; omega) | (simp <;> omega)) ?_
      refine acode_seq ?_
      refine acode_region ?_
      intro l6_1
      try simp only [Int.toNat_natCast, dflt_sl] at l6_1
      refine And.intro (fun h => trivial) ?_
      refine And.intro (rfl) ?_
      refine Exists.intro _ (And.intro (fun h => ⟨⟨⟨h, trivial⟩, trivial⟩, contains_P _ _ (fun t => !goodT t) fun t ht => goodF_c t (hs _ hm t ht)⟩) ?_)
      refine And.intro (by first | (intro h; rw [h]; rfl) | (intro h; cases h)) ?_
      refine acode_cond rfl (fun h20 => ?_) (fun h20 => ?_)
      · try simp only [decide_eq_true_eq, Bool.or_eq_true] at h20
        try simp only [Int.toNat_natCast, dflt_sl] at h20
        have hg := goodR_no h20
        refine acode_seq ?_
        refine acode_region ?_
        refine acode_ret ?_
        refine ib_eq ?_
        unfold goodS
        rw [all_not [] (by omega) hg, Bool.and_false]
      · try simp only [decide_eq_false_iff_not, Bool.or_eq_false_iff, Int.not_lt] at h20
        try simp only [Int.toNat_natCast, dflt_sl] at h20
        have hg := goodR_yes h20
        refine acode_skip ?_
        refine acode_region ?_
        refine And.intro (by first | omega | assumption | decide | (simp only [Int.toNat_natCast, dflt_sl, dflt_st, dflt_str, dflt_int, dflt_bool]; omega) | (simp <;> omega)) ?_
        exact ⟨i + 1, ⟨by omega, by rw [all_take_succ s goodR [] i (by omega), hn, hg]; rfl⟩, by first | omega | (simp <;> omega), le_of ⟨rfl, rfl, rfl⟩ trivial rfl⟩
    · try simp only [decide_eq_false_iff_not, Int.not_lt] at h11
      try simp only [Int.toNat_natCast, dflt_sl, dflt_st, dflt_str, dflt_int, dflt_bool] at h11
      refine acode_exit ?_
      refine acode_seq ?_
      refine acode_region ?_
      refine acode_ret ?_
      refine ib_eq ?_
      unfold goodS
      rw [List.take_of_length_le (by omega)] at hn
      rw [hn, decide_eq_true (by omega)]
      rfl
end QQ
end Q
end Ab
end Go.Proofs.YtklhlkhlndhepaaGreatDoor
namespace Go.Proofs.YtklhlkhlndhepaaGreatDoor
open Go.RowKit
namespace Ab
set_option maxRecDepth 100000
namespace Q
namespace QQ
theorem escape_v (s m : ByteArray) (l e : List UInt8) (hm : m.data.toList = l) (he : escL l s.data.toList = e) (hs : s.size ≤ 1000000) : ACall Tryz.prog 194 [is s, is m] (is (bytes e)) := by
  subst hm he; exact escape_c s m hs
theorem sign_one {r : Int} (h : 1 ≤ r ∧ r ≤ 5) : (⟨#[63, 61, 94, 126, 60]⟩ : ByteArray).extract (r - 1).toNat r.toNat = bytes [signOf r] := by
  have : r = 1 ∨ r = 2 ∨ r = 3 ∨ r = 4 ∨ r = 5 := by omega
  rcases this with rfl | rfl | rfl | rfl | rfl <;> decide +kernel
theorem termL_len (t : Term) : (termL t).length ≤ 2 + 2 * t.2.1.size + 2 * t.2.2.2.size := by
  unfold termL
  have h1 := esc_len (moreOf true) (ls t.2.1)
  have h2 := esc_len (moreOf false) (ls t.2.2.2)
  rw [size_list, size_list]
  unfold ls at *
  simp only [List.length_append, List.length_cons]
  cases t.1 <;> simp only [if_true, Bool.false_eq_true, if_false, List.length_cons, List.length_nil] <;> omega
theorem nil_app (x : ByteArray) : bytes [] ++ x = x := by apply ByteArray.ext; simp [bytes]
theorem line_c (t : Term) (ht : TxtOk t) (hr : RelOk t) : ACall Tryz.prog 169 [.agg (toL rTerm t)] (is (bytes (termL t))) := by
  obtain ⟨e1, he1⟩ : ∃ e, escL (moreOf true) t.2.1.data.toList = e := ⟨_, rfl⟩
  obtain ⟨e2, he2⟩ : ∃ e, escL (moreOf false) t.2.2.2.data.toList = e := ⟨_, rfl⟩
  have hl1 : (bytes e1).size ≤ 2000000 := by rw [bytes_size, ← he1]; have := esc_len (moreOf true) t.2.1.data.toList; have := ht.1; rw [size_list] at this; omega
  have hl2 : (bytes e2).size ≤ 2000000 := by rw [bytes_size, ← he2]; have := esc_len (moreOf false) t.2.2.2.data.toList; have := ht.2; rw [size_list] at this; omega
  have hx := sign_one hr
  have hxs : ((⟨#[63, 61, 94, 126, 60]⟩ : ByteArray).extract (t.2.2.1 - 1).toNat t.2.2.1.toNat).size = 1 := by rw [hx]; rfl
  obtain ⟨hr1, hr2⟩ := hr
  have hT : bytes (termL t) = bytes (if t.1 then [33] else []) ++ (bytes e1 ++ bytes [signOf t.2.2.1] ++ bytes e2) := by
    unfold termL
    rw [← bytes_app, ← bytes_app, ← bytes_app, ← he1, ← he2]
    simp
  refine acall_of (rs := [2]) Tryz.func169 rfl rfl rfl teOk rfl ?_
  refine acode_seq ?_
  refine acode_region ?_
  refine acode_seq ?_
  refine acode_draw rfl (by kernel_rfl) ?_
  refine And.intro (rfl) ?_
  refine Exists.intro _ (And.intro (escape_v _ _ (moreOf true) e1 rfl he1 ht.1) ?_)
  refine And.intro (by first | omega | assumption | decide | (simp only [Int.toNat_natCast, dflt_sl, dflt_st, dflt_str, dflt_int, dflt_bool]; omega) | (simp <;> omega)) ?_
  refine And.intro (by exact ⟨by omega, by omega, by show _ ≤ (5 : Int); omega⟩) ?_
  refine And.intro (by first | omega | (simp only [ByteArray.size_append]; omega) | (unfold maxLen; (try simp only [ByteArray.size_append]); omega)) ?_
  refine And.intro (rfl) ?_
  refine Exists.intro _ (And.intro (escape_v _ _ (moreOf false) e2 rfl he2 ht.2) ?_)
  refine And.intro (by first | omega | (simp only [ByteArray.size_append]; omega) | (unfold maxLen; (try simp only [ByteArray.size_append]); omega)) ?_
  refine acode_seq ?_
  refine acode_seq ?_
  refine acode_region ?_
  refine acode_cond rfl (fun h19 => ?_) (fun h19 => ?_)
  · try simp only [decide_eq_true_eq, decide_eq_false_iff_not, Bool.and_eq_true, Bool.not_eq_true', Bool.not_eq_false', Bool.or_eq_false_iff, Bool.or_eq_true, Bool.and_eq_false_iff, Int.not_lt, Int.not_le] at h19
    try simp only [Int.toNat_natCast, dflt_sl, dflt_st, dflt_str, dflt_int, dflt_bool] at h19
    refine acode_seq ?_
    refine acode_region ?_
    refine And.intro (by unfold maxLen; simp only [ByteArray.size_append]; rw [show ByteArray.size ⟨#[33]⟩ = 1 from rfl]; omega) ?_
    refine acode_ret ?_
    refine is_eq ?_
    rw [hT, h19, hx]
    rfl
  · try simp only [decide_eq_true_eq, decide_eq_false_iff_not, Bool.and_eq_true, Bool.not_eq_true', Bool.not_eq_false', Bool.or_eq_false_iff, Bool.or_eq_true, Bool.and_eq_false_iff, Int.not_lt, Int.not_le] at h19
    try simp only [Int.toNat_natCast, dflt_sl, dflt_st, dflt_str, dflt_int, dflt_bool] at h19
    refine acode_skip ?_
    refine acode_seq ?_
    refine acode_region ?_
    refine acode_ret ?_
    refine is_eq ?_
    rw [hT, h19, hx]
    exact (nil_app _).symm

theorem join_len {sep : List UInt8} {B : Nat} : ∀ {ps : List (List UInt8)}, (∀ p ∈ ps, p.length ≤ B) → (Lib.join ps sep).length ≤ ps.length * (B + sep.length)
  | [], _ => by rw [Lib.join_nil]; simp
  | [p], h => by rw [Lib.join_one]; have := h p (by simp); simp only [List.length_cons, List.length_nil]; omega
  | p :: q :: ps, h => by
    have h1 := h p (by simp)
    have ih := join_len (sep := sep) (B := B) (ps := q :: ps) (fun p hp => h p (by simp [List.mem_cons.1 hp]))
    rw [join_two, List.length_append, List.length_append, List.length_cons, Nat.succ_mul]
    omega
theorem join_v (xs : List ByteArray) (sep : ByteArray) (ps : List (List UInt8)) (l : List UInt8) (hx : xs.map ls = ps) (hl : sep.data.toList = l) (hN : ps.length ≤ 1000000) (hlen : (Lib.join ps l).length ≤ 140737488355328) :
    ACall Tryz.prog 122 [.one (.sl .str xs), is sep] (is (bytes (Lib.join ps l))) := by
  subst hx hl
  exact join_c xs sep (by rw [List.length_map] at hN; omega) hlen
def TermsOk (r : List Term) : Prop := r.length ≤ 20 ∧ ∀ t ∈ r, TxtOk t ∧ RelOk t
theorem rowL_len {r : List Term} (h : TermsOk r) : (rowL r).length ≤ 80000100 := by
  unfold rowL
  split
  · simp
  · have := join_len (sep := [32]) (B := 4000002) (ps := r.map termL) (fun p hp => by
      obtain ⟨t, ht, rfl⟩ := List.mem_map.1 hp
      have h1 := termL_len t
      obtain ⟨⟨h2, h3⟩, _⟩ := h.2 t ht
      omega)
    rw [List.length_map] at this
    have h1 := h.1
    simp only [List.length_cons, List.length_nil] at this
    have : r.length * 4000003 ≤ 20 * 4000003 := Nat.mul_le_mul_right _ h1
    omega
theorem map_snoc {α β : Type} (f : α → β) {l : List α} {i : Nat} (d : α) (h : i < l.length) : (l.take i).map f ++ [f (l.getD i d)] = (l.take (i + 1)).map f := (map_take_succ f l d i h).symm
theorem notEmpty {α : Type} {r : List α} (h : ¬ (r.length : Int) = 0) : r.isEmpty = false := by
  cases r
  · exact absurd rfl h
  · rfl
theorem rowLine_c (r : List Term) (h : TermsOk r) : ACall Tryz.prog 136 [.one (.sl rTerm r)] (is (bytes (rowL r))) := by
  have hJ := rowL_len h
  have h20 := h.1
  refine acall_of (rs := [2]) Tryz.func136 rfl rfl rfl teOk rfl ?_
  refine acode_seq ?_
  refine acode_region ?_
  refine acode_seq ?_
  refine acode_seq ?_
  refine acode_region ?_
  intro l1_1
  try simp only [Int.toNat_natCast, dflt_sl, dflt_st, dflt_str, dflt_int, dflt_bool] at l1_1
  refine acode_cond rfl (fun h8 => ?_) (fun h8 => ?_)
  · try simp only [decide_eq_true_eq] at h8
    try simp only [Int.toNat_natCast, dflt_sl, dflt_st, dflt_str, dflt_int, dflt_bool] at h8
    refine acode_seq ?_
    refine acode_region ?_
    refine acode_ret ?_
    refine is_eq ?_
    rw [List.eq_nil_of_length_eq_zero (show r.length = 0 by omega)]
    rfl
  · try simp only [decide_eq_false_iff_not] at h8
    try simp only [Int.toNat_natCast, dflt_sl, dflt_st, dflt_str, dflt_int, dflt_bool] at h8
    have hN := notEmpty h8
    refine acode_skip ?_
    refine acode_seq ?_
    refine acode_region ?_
    refine acode_seq ?_
    refine acode_seq ?_
    refine acode_nilvec 3 9 .str rfl ?_
    refine acode_region ?_
    intro l4_1
    try simp only [Int.toNat_natCast, dflt_sl, dflt_st, dflt_str, dflt_int, dflt_bool] at l4_1
    refine acode_block ?_
    refine acode_loopP (fun (i : Nat) => i ≤ r.length) (fun (i : Nat) => [(3, .one (.vec 0)), (9, .one (.sl rTerm r)), (10, ii .i64 r.length), (11, ii .i64 i)]) (fun (i : Nat) => [(0, .vec 9 .str ((r.take i).map fun t => bytes (termL t)))]) 1 (fun (i : Nat) => r.length - i) 0 (Nat.zero_le _) (le_of ⟨rfl, rfl, rfl, rfl⟩ rfl rfl) ?_
    intro i hI0
    have hi := hI0
    refine acode_seq ?_
    refine acode_region ?_
    refine acode_seq ?_
    refine acode_cond rfl (fun h12 => ?_) (fun h12 => ?_)
    · try simp only [decide_eq_true_eq] at h12
      try simp only [Int.toNat_natCast, dflt_sl, dflt_st, dflt_str, dflt_int, dflt_bool] at h12
      have hlt : i < r.length := by omega
      have hm := h.2 _ (getD_mem hlt (false, ByteArray.empty, 0, ByteArray.empty))
      refine acode_skip ?_
      refine acode_seq ?_
      refine acode_block ?_
      refine acode_seq ?_
      refine acode_region ?_
      refine And.intro (by first | omega | assumption | decide | (simp only [Int.toNat_natCast, dflt_sl, dflt_st, dflt_str, dflt_int, dflt_bool]; omega) | (simp <;> omega)) ?_
      refine acode_region ?_
      refine Or.inl ?_
      refine And.intro (rfl) ?_
      refine Exists.intro _ (And.intro (line_c _ hm.1 hm.2) ?_)
      refine And.intro (by simp only [List.length_map, List.length_take]; show (_ + 1) * 16 ≤ 140737488355328; omega) ?_
      refine acode_region ?_
      refine And.intro (by first | omega | assumption | decide | (simp only [Int.toNat_natCast, dflt_sl, dflt_st, dflt_str, dflt_int, dflt_bool]; omega) | (simp <;> omega)) ?_
      exact ⟨i + 1, by omega, by first | omega | (simp <;> omega), le_of ⟨rfl, rfl, rfl, (ii_eq (by omega))⟩ (vec_eq (map_snoc (fun t => bytes (termL t)) (false, ByteArray.empty, 0, ByteArray.empty) hlt)) rfl⟩
    · try simp only [decide_eq_false_iff_not, Int.not_lt] at h12
      try simp only [Int.toNat_natCast, dflt_sl, dflt_st, dflt_str, dflt_int, dflt_bool] at h12
      refine acode_exit ?_
      refine acode_seq ?_
      refine acode_region ?_
      refine Or.inl ?_
      refine And.intro (rfl) ?_
      refine Exists.intro _ (And.intro (join_v _ _ (r.map termL) [32] (by rw [List.take_of_length_le (by omega), List.map_map]; exact List.map_congr_left fun t _ => bytes_list _) rfl (by rw [List.length_map]; omega) (by unfold rowL at hJ; rw [hN] at hJ; exact Nat.le_trans hJ (by decide))) ?_)
      refine acode_ret ?_
      refine is_eq ?_
      unfold rowL
      rw [hN]
      rfl

theorem good_ok {s : List (List Term)} (hs : TxtsOk s) (hg : goodS s = true) : s.length ≤ 20 ∧ ∀ r ∈ s, TermsOk r := by
  unfold goodS at hg
  simp only [Bool.and_eq_true, decide_eq_true_eq] at hg
  refine ⟨hg.1, fun r hr => ?_⟩
  have h := List.all_eq_true.1 hg.2 r hr
  unfold goodR at h
  simp only [Bool.and_eq_true, decide_eq_true_eq] at h
  refine ⟨h.1, fun t ht => ⟨hs r hr t ht, ?_⟩⟩
  have h2 := goodT_iff.1 (List.all_eq_true.1 h.2 t ht)
  exact ⟨h2.1.1.2, h2.1.2⟩
theorem selL_len {s : List (List Term)} (h : s.length ≤ 20 ∧ ∀ r ∈ s, TermsOk r) : (selL s).length ≤ 1600003000 := by
  unfold selL
  split
  · simp
  · have := join_len (sep := [32, 124, 32]) (B := 80000100) (ps := s.map rowL) (fun p hp => by
      obtain ⟨r, hr, rfl⟩ := List.mem_map.1 hp
      exact rowL_len (h.2 r hr))
    rw [List.length_map] at this
    have h1 := h.1
    simp only [List.length_cons, List.length_nil] at this
    have : s.length * 80000103 ≤ 20 * 80000103 := Nat.mul_le_mul_right _ h1
    omega
def errForm : C := .lit (.iface 93 (.int .i64 2))
def printA (s : List (List Term)) : A := if goodS s then .tup [(false, [.lit (.string (bytes (selL s)))]), (false, [.lit .nilIface])] else .tup [(false, [.lit (.string ⟨#[]⟩)]), (false, [errForm])]
theorem print_c (s : List (List Term)) (hs : TxtsOk s) : ACall Tryz.prog 103 [.one (.sl (.sl rTerm) s)] (printA s) := by
  refine acall_of (rs := [2, 3]) Tryz.func103 rfl rfl rfl teOk rfl ?_
  refine acode_seq ?_
  refine acode_region ?_
  refine acode_seq ?_
  refine acode_seq ?_
  refine acode_region ?_
  refine Or.inl ?_
  refine And.intro (rfl) ?_
  refine Exists.intro _ (And.intro (good_c s hs) ?_)
  refine acode_cond rfl (fun h9 => ?_) (fun h9 => ?_)
  · try simp only [Bool.not_eq_true'] at h9
    try simp only [Int.toNat_natCast, dflt_sl, dflt_st, dflt_str, dflt_int, dflt_bool] at h9
    refine acode_seq ?_
    refine acode_region ?_
    refine acode_ret ?_
    unfold printA
    rw [if_neg (by rw [h9]; decide)]
    rfl
  · try simp only [Bool.not_eq_false'] at h9
    try simp only [Int.toNat_natCast, dflt_sl, dflt_st, dflt_str, dflt_int, dflt_bool] at h9
    have hok := good_ok hs h9
    have hJ := selL_len hok
    have h20 := hok.1
    refine acode_skip ?_
    refine acode_seq ?_
    refine acode_seq ?_
    refine acode_region ?_
    intro l3_1
    try simp only [Int.toNat_natCast, dflt_sl, dflt_st, dflt_str, dflt_int, dflt_bool] at l3_1
    refine acode_cond rfl (fun h13 => ?_) (fun h13 => ?_)
    · try simp only [decide_eq_true_eq] at h13
      try simp only [Int.toNat_natCast, dflt_sl, dflt_st, dflt_str, dflt_int, dflt_bool] at h13
      refine acode_seq ?_
      refine acode_region ?_
      refine acode_ret ?_
      unfold printA
      rw [if_pos h9, List.eq_nil_of_length_eq_zero (show s.length = 0 by omega)]
      rfl
    · try simp only [decide_eq_false_iff_not] at h13
      try simp only [Int.toNat_natCast, dflt_sl, dflt_st, dflt_str, dflt_int, dflt_bool] at h13
      have hN := notEmpty h13
      refine acode_skip ?_
      refine acode_seq ?_
      refine acode_region ?_
      refine acode_seq ?_
      refine acode_seq ?_
      refine acode_nilvec 4 9 .str rfl ?_
      refine acode_region ?_
      intro l6_1
      try simp only [Int.toNat_natCast, dflt_sl, dflt_st, dflt_str, dflt_int, dflt_bool] at l6_1
      refine acode_block ?_
      refine acode_loopP (fun (i : Nat) => i ≤ s.length) (fun (i : Nat) => [(4, .one (.vec 0)), (14, .one (.sl (.sl rTerm) s)), (15, ii .i64 s.length), (16, ii .i64 i)]) (fun (i : Nat) => [(0, .vec 9 .str ((s.take i).map fun r => bytes (rowL r)))]) 1 (fun (i : Nat) => s.length - i) 0 (Nat.zero_le _) (le_of ⟨rfl, rfl, rfl, rfl⟩ rfl rfl) ?_
      intro i hI0
      have hi := hI0
      refine acode_seq ?_
      refine acode_region ?_
      refine acode_seq ?_
      refine acode_cond rfl (fun h17 => ?_) (fun h17 => ?_)
      · try simp only [decide_eq_true_eq] at h17
        try simp only [Int.toNat_natCast, dflt_sl, dflt_st, dflt_str, dflt_int, dflt_bool] at h17
        have hlt : i < s.length := by omega
        have hm := hok.2 _ (getD_mem hlt [])
        refine acode_skip ?_
        refine acode_seq ?_
        refine acode_block ?_
        refine acode_seq ?_
        refine acode_region ?_
        refine And.intro (by first | omega | assumption | decide | (simp only [Int.toNat_natCast, dflt_sl, dflt_st, dflt_str, dflt_int, dflt_bool]; omega) | (simp <;> omega)) ?_
        refine acode_region ?_
        refine Or.inl ?_
        refine And.intro (rfl) ?_
        refine Exists.intro _ (And.intro (rowLine_c _ hm) ?_)
        refine And.intro (by simp only [List.length_map, List.length_take]; show (_ + 1) * 16 ≤ 140737488355328; omega) ?_
        refine acode_region ?_
        refine And.intro (by first | omega | assumption | decide | (simp only [Int.toNat_natCast, dflt_sl, dflt_st, dflt_str, dflt_int, dflt_bool]; omega) | (simp <;> omega)) ?_
        exact ⟨i + 1, by omega, by first | omega | (simp <;> omega), le_of ⟨rfl, rfl, rfl, (ii_eq (by omega))⟩ (vec_eq (map_snoc (fun r => bytes (rowL r)) [] hlt)) rfl⟩
      · try simp only [decide_eq_false_iff_not, Int.not_lt] at h17
        try simp only [Int.toNat_natCast, dflt_sl, dflt_st, dflt_str, dflt_int, dflt_bool] at h17
        refine acode_exit ?_
        refine acode_seq ?_
        refine acode_region ?_
        refine Or.inl ?_
        refine And.intro (rfl) ?_
        refine Exists.intro _ (And.intro (join_v _ _ (s.map rowL) [32, 124, 32] (by rw [List.take_of_length_le (by omega), List.map_map]; exact List.map_congr_left fun t _ => bytes_list _) rfl (by rw [List.length_map]; omega) (by unfold selL at hJ; rw [hN] at hJ; exact Nat.le_trans hJ (by decide))) ?_)
        refine acode_ret ?_
        unfold printA selL
        rw [if_pos h9, hN]
        rfl
end QQ
end Q
end Ab
end Go.Proofs.YtklhlkhlndhepaaGreatDoor
namespace Go.Proofs.YtklhlkhlndhepaaGreatDoor
open Go.RowKit
namespace Ab
set_option maxRecDepth 100000
namespace Q
namespace QQ
theorem print_yes {s : List (List Term)} (hs : TxtsOk s) (hg : goodS s = true) : ACall Tryz.prog 103 [.one (.sl (.sl rTerm) s)] (.tup [(false, [.lit (.string (bytes (selL s)))]), (false, [.lit .nilIface])]) := by
  have := print_c s hs; unfold printA at this; rw [if_pos hg] at this; exact this
theorem print_no {s : List (List Term)} (hs : TxtsOk s) (hg : goodS s = false) : ACall Tryz.prog 103 [.one (.sl (.sl rTerm) s)] (.tup [(false, [.lit (.string ⟨#[]⟩)]), (false, [errForm])]) := by
  have := print_c s hs; unfold printA at this; rw [if_neg (by rw [hg]; decide)] at this; exact this
theorem unesc_len : ∀ (n : Nat) (l : List UInt8), l.length ≤ n → (unescL l).length ≤ l.length
  | _, [], _ => Nat.le_refl _
  | 0, _ :: _, h => by simp at h
  | n + 1, c :: r, h => by
    simp only [List.length_cons] at h
    by_cases hc : c = 92
    · subst hc
      cases r with
      | nil => exact Nat.le_refl _
      | cons d r =>
        rw [unescL_slash]
        simp only [List.length_cons] at h ⊢
        have := unesc_len n r (by omega); omega
    · rw [unescL_other hc]
      simp only [List.length_cons]
      have := unesc_len n r (by omega); omega
theorem termP_len {w : List UInt8} {t : Term} (h : termP w = some t) : t.2.1.size ≤ w.length ∧ t.2.2.2.size ≤ w.length := by
  unfold termP at h
  split at h
  · cases h
  · cases h
    have hr : (restOf w).length ≤ w.length := trim_len _ _
    refine ⟨?_, ?_⟩
    · rw [bytes_size]
      refine Nat.le_trans (unesc_len _ _ (Nat.le_refl _)) ?_
      rw [List.length_take]; omega
    · rw [bytes_size]
      refine Nat.le_trans (unesc_len _ _ (Nat.le_refl _)) ?_
      rw [List.length_drop]; omega
theorem rdAll_mem {α : Type} {f : List UInt8 → Option α} : ∀ {l : List (List UInt8)} {a : List α}, rdAll f l = some a → ∀ t ∈ a, ∃ w ∈ l, f w = some t
  | [], a, h, t, ht => by cases h; cases ht
  | v :: l, a, h, t, ht => by
    unfold rdAll at h
    split at h
    · rename_i x b h1 h2
      cases h
      rcases List.mem_cons.1 ht with rfl | ht
      · exact ⟨v, by simp, h1⟩
      · obtain ⟨w, h3, h4⟩ := rdAll_mem h2 t ht
        exact ⟨w, by simp [h3], h4⟩
    · cases h
theorem split_mem {s sep w : List UInt8} (h : w ∈ Lib.split s sep) : w.length ≤ s.length := by
  have : Lib.split s sep = (Lib.splitB (bytes sep) 0 (Lib.countB (bytes s) (bytes sep)) (bytes s)).map ls := by rw [split_ls]; unfold ls; rw [bytes_list, bytes_list]
  rw [this] at h
  obtain ⟨x, hx, rfl⟩ := List.mem_map.1 h
  have := split_size _ _ _ x hx
  rw [bytes_size, size_list] at this
  exact this
theorem rowP_len {l : List UInt8} {r : List Term} (h : rowP l = some r) : ∀ t ∈ r, t.2.1.size ≤ l.length ∧ t.2.2.2.size ≤ l.length := by
  intro t ht
  unfold rowP at h
  split at h
  · cases h; cases ht
  · obtain ⟨w, hw, h2⟩ := rdAll_mem h t ht
    have := split_mem hw
    have := termP_len h2
    omega
theorem selP_len {l : List UInt8} {s : List (List Term)} (h : selP l = some s) : ∀ r ∈ s, ∀ t ∈ r, t.2.1.size ≤ l.length ∧ t.2.2.2.size ≤ l.length := by
  intro r hr t ht
  unfold selP at h
  split at h
  · cases h; cases hr
  · obtain ⟨w, hw, h2⟩ := rdAll_mem h r hr
    have := split_mem hw
    have := rowP_len h2 t ht
    omega
def parseL (l : List UInt8) : Option (List (List Term)) := match selP l with
  | some s => if goodS s && decide (selL s = l) then some s else none
  | none => none
def parseA (o : Option (List (List Term))) : A := match o with
  | some s => .tup [(false, [.sl (.sl rTerm) s]), (false, [.lit .nilIface])]
  | none => .tup [(false, [.sl (.sl rTerm) []]), (false, [errForm])]
theorem parseA_eq {o o' : Option (List (List Term))} (h : o = o') : parseA o = parseA o' := by rw [h]
theorem parse_c (line : ByteArray) (hl : line.size ≤ 900000) : ACall Tryz.prog 63 [is line] (parseA (parseL line.data.toList)) := by
  have hz := size_list line
  obtain ⟨ws, hws⟩ : ∃ ws, Lib.splitB ⟨#[32, 124, 32]⟩ 0 (Lib.countB line ⟨#[32, 124, 32]⟩) line = ws := ⟨_, rfl⟩
  have hsz : ∀ x ∈ ws, x.size ≤ 900000 := fun x hx => Nat.le_trans (split_size _ _ _ x (hws ▸ hx)) (by omega)
  have hlen : ws.length ≤ line.size + 1 := by rw [← hws]; exact split_len _ _ (by decide)
  have hsp : ws.map ls = Lib.split (ls line) [32, 124, 32] := by rw [← hws]; exact split_ls _ _
  refine acall_of (rs := [2, 3]) Tryz.func63 rfl rfl rfl teOk rfl ?_
  refine acode_seq ?_
  refine acode_region ?_
  refine acode_seq ?_
  refine acode_region ?_
  refine acode_seq ?_
  refine acode_seq ?_
  refine acode_region ?_
  refine acode_cond rfl (fun h12 => ?_) (fun h12 => ?_)
  · try simp only [decide_eq_true_eq] at h12
    try simp only [Int.toNat_natCast, dflt_sl, dflt_st, dflt_str, dflt_int, dflt_bool] at h12
    refine acode_seq ?_
    refine acode_region ?_
    refine acode_nilvec 2 116 (.sl rTerm) rfl ?_
    refine acode_ret ?_
    exact parseA_eq (o := some []) (by rw [h12]; rfl)
  · try simp only [decide_eq_false_iff_not] at h12
    try simp only [Int.toNat_natCast, dflt_sl, dflt_st, dflt_str, dflt_int, dflt_bool] at h12
    refine acode_skip ?_
    refine acode_seq ?_
    refine acode_seq ?_
    refine acode_nilvec 4 116 (.sl rTerm) rfl ?_
    refine acode_region ?_
    refine Or.inl ?_
    refine And.intro (rfl) ?_
    refine Exists.intro _ (And.intro (split_v line _ ws hws (by omega) (by decide)) ?_)
    intro l4_2
    try simp only [Int.toNat_natCast, dflt_sl, dflt_st, dflt_str, dflt_int, dflt_bool] at l4_2
    refine acode_block ?_
    refine acode_loopP (fun (x : Nat × List (List Term)) => x.1 ≤ ws.length ∧ x.2.length = x.1 ∧ rdAll rowP ((ws.take x.1).map ls) = some x.2) (fun (x : Nat × List (List Term)) => [(0, is line), (4, .one (.vec 0)), (14, .one (.sl .str ws)), (15, ii .i64 ws.length), (16, ii .i64 x.1)]) (fun (x : Nat × List (List Term)) => [(0, .vec 116 (.sl rTerm) x.2)]) 1 (fun (x : Nat × List (List Term)) => ws.length - x.1) (0, []) (⟨Nat.zero_le _, rfl, rfl⟩) (le_of ⟨rfl, rfl, rfl, rfl, rfl⟩ rfl rfl) ?_
    intro ⟨i, o⟩ hI0
    simp only at hI0 ⊢
    obtain ⟨hi, ho, hn⟩ := hI0
    refine acode_seq ?_
    refine acode_region ?_
    refine acode_seq ?_
    refine acode_cond rfl (fun h17 => ?_) (fun h17 => ?_)
    · try simp only [decide_eq_true_eq] at h17
      try simp only [Int.toNat_natCast, dflt_sl, dflt_st, dflt_str, dflt_int, dflt_bool] at h17
      refine acode_skip ?_
      refine acode_seq ?_
      refine acode_block ?_
      refine acode_seq ?_
      refine acode_region ?_
      refine And.intro (by first | omega | assumption | decide | (simp only [Int.toNat_natCast, dflt_sl, dflt_st, dflt_str, dflt_int, dflt_bool]; omega) | (simp <;> omega)) ?_
      refine acode_seq ?_
      refine acode_region ?_
      refine Or.inl ?_
      refine And.intro (rfl) ?_
      refine Exists.intro _ (And.intro (row_c _ (hsz _ (getD_mem (show i < ws.length by omega) _))) ?_)
      refine acode_seq ?_
      refine acode_seq ?_
      refine acode_region ?_
      refine acode_cond rfl (fun h26 => ?_) (fun h26 => ?_)
      · try simp only [Bool.not_eq_true'] at h26
        try simp only [Int.toNat_natCast, dflt_str] at h26
        have hno : rowP (ls (ws.getD i ByteArray.empty)) = none := by cases e : rowP (ls (ws.getD i ByteArray.empty)); rfl; rw [e] at h26; cases h26
        refine acode_seq ?_
        refine acode_region ?_
        refine acode_nilvec 2 116 (.sl rTerm) rfl ?_
        refine acode_ret ?_
        exact parseA_eq (o := none) (by unfold parseL; rw [show selP line.data.toList = none from by unfold selP; rw [if_neg (fun e => h12 (ls_inj e)), ← show ws.map ls = _ from hsp]; exact rdAll_none (List.mem_map.2 ⟨_, getD_mem (show i < ws.length by omega) _, rfl⟩) hno])
      · try simp only [Bool.not_eq_false'] at h26
        try simp only [Int.toNat_natCast, dflt_str] at h26
        obtain ⟨t, ht⟩ : ∃ t, rowP (ls (ws.getD i ByteArray.empty)) = some t := Option.isSome_iff_exists.1 h26
        refine acode_skip ?_
        refine acode_region ?_
        refine And.intro (by show (_ + 1) * 24 ≤ 140737488355328; omega) ?_
        refine acode_region ?_
        refine And.intro (by first | omega | assumption | decide | (simp only [Int.toNat_natCast, dflt_sl, dflt_st, dflt_str, dflt_int, dflt_bool]; omega) | (simp <;> omega)) ?_
        exact ⟨(i + 1, o ++ [(rowP (ls (ws.getD i ByteArray.empty))).getD []]), ⟨by simp only; omega, by simp; omega, by simp only; rw [map_take_succ ls ws ByteArray.empty i (by omega), rdAll_snoc hn, ht]; rfl⟩, by first | omega | (simp <;> omega), le_of ⟨rfl, rfl, rfl, rfl, (ii_eq (by simp only; omega))⟩ (vec_eq rfl) rfl⟩
    · try simp only [decide_eq_false_iff_not, Int.not_lt] at h17
      try simp only [Int.toNat_natCast, dflt_sl, dflt_st, dflt_str, dflt_int, dflt_bool] at h17
      have hiw : i = ws.length := by omega
      rw [hiw, List.take_length, hsp] at hn
      have hsel : selP (ls line) = some o := by unfold selP; rw [if_neg (fun e => h12 (ls_inj e))]; exact hn
      have hT : TxtsOk o := fun r hr t ht => by have := selP_len hsel r hr t ht; unfold TxtOk; unfold ls at this; omega
      refine acode_exit ?_
      refine acode_seq ?_
      refine acode_seq ?_
      cases hg : goodS o
      · refine acode_region ?_
        refine Or.inl ?_
        refine And.intro (rfl) ?_
        refine Exists.intro _ (And.intro (print_no hT hg) ?_)
        refine acode_seq ?_
        refine acode_region ?_
        refine And.intro (fun h => trivial) ?_
        refine And.intro (fun h => trivial) ?_
        refine And.intro (fun h => ⟨⟨h, trivial⟩, ⟨h, trivial⟩, trivial⟩) ?_
        refine And.intro (by first | (intro h; rw [h]; rfl) | (intro h; cases h)) ?_
        refine acode_cond rfl (fun h44 => ?_) (fun h44 => ?_)
        · try simp only [decide_eq_false_iff_not, Bool.not_eq_true', Bool.or_eq_true] at h44
          try simp only [Int.toNat_natCast, dflt_sl, dflt_st, dflt_str, dflt_int, dflt_bool] at h44
          refine acode_seq ?_
          refine acode_region ?_
          refine acode_nilvec 2 116 (.sl rTerm) rfl ?_
          refine acode_ret ?_
          exact parseA_eq (o := none) (by unfold parseL; rw [show selP line.data.toList = _ from hsel]; simp only [hg]; rfl)
        · try simp only [decide_eq_true_eq, Bool.not_eq_false', Bool.or_eq_false_iff] at h44
          try simp only [Int.toNat_natCast, dflt_sl, dflt_st, dflt_str, dflt_int, dflt_bool] at h44
          refine acode_skip ?_
          refine acode_seq ?_
          refine acode_region ?_
          refine acode_ret ?_
          exact absurd h44.1 (by decide)
      · refine acode_region ?_
        refine Or.inl ?_
        refine And.intro (rfl) ?_
        refine Exists.intro _ (And.intro (print_yes hT hg) ?_)
        refine acode_seq ?_
        refine acode_region ?_
        refine And.intro (fun h => trivial) ?_
        refine And.intro (fun h => trivial) ?_
        refine And.intro (fun h => ⟨⟨h, trivial⟩, ⟨h, trivial⟩, trivial⟩) ?_
        refine And.intro (by first | (intro h; rw [h]; rfl) | (intro h; cases h)) ?_
        refine acode_cond rfl (fun h44 => ?_) (fun h44 => ?_)
        · try simp only [decide_eq_false_iff_not, Bool.not_eq_true', Bool.or_eq_true] at h44
          try simp only [Int.toNat_natCast, dflt_sl, dflt_st, dflt_str, dflt_int, dflt_bool] at h44
          refine acode_seq ?_
          refine acode_region ?_
          refine acode_nilvec 2 116 (.sl rTerm) rfl ?_
          refine acode_ret ?_
          exact parseA_eq (o := none) (by unfold parseL; rw [show selP line.data.toList = _ from hsel]; simp only [hg]; rw [decide_eq_false (fun e => h44.elim (fun e => by cases e) (fun e2 => e2 (by rw [e]; exact bytes_ls line)))]; rfl)
        · try simp only [decide_eq_true_eq, Bool.not_eq_false', Bool.or_eq_false_iff] at h44
          try simp only [Int.toNat_natCast, dflt_sl, dflt_st, dflt_str, dflt_int, dflt_bool] at h44
          refine acode_skip ?_
          refine acode_seq ?_
          refine acode_region ?_
          refine acode_ret ?_
          exact parseA_eq (o := some o) (by unfold parseL; rw [show selP line.data.toList = _ from hsel]; simp only [hg]; rw [decide_eq_true (by rw [← h44.2, bytes_list])]; rfl)
end QQ
end Q
end Ab
end Go.Proofs.YtklhlkhlndhepaaGreatDoor
namespace Go.Proofs.YtklhlkhlndhepaaGreatDoor
open Go.RowKit
namespace Ab
set_option maxRecDepth 100000
namespace Q
namespace QQ
def signC (c : UInt8) : Bool := ((((decide (c = 33) || decide (c = 63)) || decide (c = 61)) || decide (c = 94)) || decide (c = 126)) || decide (c = 60)
def escX (k : Bool) (c : UInt8) : List UInt8 := if c = 92 then [92, 92] else if c = 32 then [92, 115] else if c = 10 then [92, 110] else if c = 124 then [92, 98] else if (k && signC c) = true then [92, c] else [c]
/-- What stands of a row, terms ahead of the k-th. -/
def rowTo (r : List Term) (k : Nat) : List UInt8 := if r.isEmpty then [97, 108, 108] else Lib.join ((r.map termL).take k) [32]
def selTo (s : List (List Term)) (i : Nat) : List UInt8 := Lib.join ((s.map rowL).take i) [32, 124, 32]
end QQ
end Q
end Ab
end Go.Proofs.YtklhlkhlndhepaaGreatDoor
namespace Go.Proofs.YtklhlkhlndhepaaGreatDoor
open Go.RowKit
namespace Ab
set_option maxRecDepth 100000

namespace Q
namespace QQ
/-- The text of what was written; none if it is none's. -/
def readL : List UInt8 → Option (List UInt8)
  | [] => some []
  | 92 :: r => match r with
    | [] => none
    | c :: r => (readL r).map (unc c :: ·)
  | c :: r => (readL r).map (c :: ·)
/-- A word's term, and whether it is one. -/
def wordV (w : List UInt8) : Term × Bool :=
  if signL (restOf w) 0 < 0 then (((false, ByteArray.empty, 0, ByteArray.empty) : Term), false) else
    ((Lib.hasPrefix w [33], bytes ((readL ((restOf w).take (signL (restOf w) 0).toNat)).getD []), Lib.indexByte SG ((restOf w).getD (signL (restOf w) 0).toNat 0) + 1, bytes ((readL ((restOf w).drop ((signL (restOf w) 0).toNat + 1))).getD [])),
     (readL ((restOf w).take (signL (restOf w) 0).toNat)).isSome && (readL ((restOf w).drop ((signL (restOf w) 0).toNat + 1))).isSome)
/-- A word more. -/
def stepW (s : List (List Term)) (w : List UInt8) : Option (List (List Term)) :=
  if w = [124] then some (s ++ [[]]) else if w = [97, 108, 108] then some s else if (wordV w).2 then some (s.set (s.length - 1) (s.getD (s.length - 1) [] ++ [(wordV w).1])) else none
def runP (s : List (List Term)) (w : List UInt8) : List UInt8 → Option (List (List Term))
  | [] => stepW s w
  | c :: r => if c = 32 then (match stepW s w with | some s' => runP s' [] r | none => none) else runP s (w ++ [c]) r
def refParse (l : List UInt8) : Option (List (List Term)) := if l = [110, 111, 110, 101] then some [] else match runP [[]] [] l with
  | some s => if goodS s && decide (selL s = l) then some s else none
  | none => none

def foldT (s : List (List Term)) : List (List UInt8) → Option (List (List Term))
  | [] => some s
  | w :: r => match stepW s w with
    | some s' => foldT s' r
    | none => none
def tokR (r : List Term) : List (List UInt8) := if r.isEmpty then [[97, 108, 108]] else r.map termL
def toks : List (List Term) → List (List UInt8)
  | [] => []
  | r :: s => match s with
    | [] => tokR r
    | _ :: _ => tokR r ++ [124] :: toks s
end QQ
end Q
end Ab
end Go.Proofs.YtklhlkhlndhepaaGreatDoor
namespace Go.Proofs.YtklhlkhlndhepaaGreatDoor
open Go.RowKit
namespace Ab
set_option maxRecDepth 100000
namespace Q
namespace QQ
def readA (o : Option (List UInt8)) : A := .tup [(false, [.lit (.string (bytes (o.getD [])))]), (false, [.lit (.bool o.isSome)])]
def uncX (c : UInt8) : UInt8 := if c = 115 then 32 else if c = 110 then 10 else if c = 98 then 124 else c
def wordA (v : Term × Bool) : A := .tup [(true, toL rTerm v.1), (false, [.lit (.bool v.2)])]
end QQ
end Q
end Ab
end Go.Proofs.YtklhlkhlndhepaaGreatDoor
namespace Go.Proofs.YtklhlkhlndhepaaGreatDoor
open Go.RowKit
namespace Ab
set_option maxRecDepth 100000
namespace Q
namespace QQ
def refParseA (o : Option (List (List Term))) : A := .tup [(false, [.sl (.sl rTerm) (o.getD [])]), (false, [.lit (.bool o.isSome)])]
structure PInv (l : List UInt8) (i : Nat) (s : List (List Term)) (w : List UInt8) : Prop where
  b0 : i ≤ l.length + 1
  s1 : 1 ≤ s.length
  s2 : s.length ≤ i + 1
  wl : w.length ≤ i
  rl : ∀ r ∈ s, r.length ≤ i
  tx : TxtsOk s
  run : i ≤ l.length → runP [[]] [] l = runP s w (l.drop i)
  fin : i = l.length + 1 → runP [[]] [] l = some s
theorem PInv.bad {l : List UInt8} {i : Nat} {s : List (List Term)} {w : List UInt8} (h : PInv l i s w) (hi : i ≤ l.length) (hc : i < l.length → l.getD i 0 = 32) (hs : stepW s w = none) : runP [[]] [] l = none := by
  rw [h.run hi]
  by_cases e : i < l.length
  · rw [drop_cons e, runP, if_pos (hc e), hs]
  · rw [List.drop_of_length_le (by omega), runP, hs]
end QQ
end Q
end Ab
end Go.Proofs.YtklhlkhlndhepaaGreatDoor
namespace Go.Proofs.YtklhlkhlndhepaaGreatDoor
open Go.RowKit
namespace Ab
set_option maxRecDepth 100000
namespace Q
namespace QQ
def bsOf (l : List UInt8) : ByteArray := bytes l
def aliveS : List (List Term) := [[(false, ⟨#[65]⟩, 2, ⟨#[120]⟩), (true, ⟨#[66]⟩, 1, ⟨#[]⟩)], [(false, ⟨#[67]⟩, 4, ⟨#[121]⟩)]]
theorem alive_parse : parseL [65, 61, 120, 32, 33, 66, 63, 32, 124, 32, 67, 126, 121] = some aliveS := by decide +kernel
theorem alive_p : ACall Tryz.prog 63 [is ⟨#[65, 61, 120, 32, 33, 66, 63, 32, 124, 32, 67, 126, 121]⟩] (parseA (some aliveS)) := by
  rw [← alive_parse]; exact parse_c _ (by decide)
theorem alive_1 : selMatches aliveS [(⟨#[65]⟩, ⟨#[120]⟩)] = true := by decide +kernel
theorem alive_2 : selMatches aliveS [(⟨#[66]⟩, ⟨#[]⟩), (⟨#[65]⟩, ⟨#[120]⟩)] = false := by decide +kernel
theorem alive_3 : selMatches aliveS [(⟨#[66]⟩, ⟨#[]⟩), (⟨#[67]⟩, ⟨#[120, 121, 122]⟩)] = true := by decide +kernel
theorem acall_arg {P : Program} {f : FuncId} {xs ys : List A} {r : A} (h : ∀ ok ρ w vs, RepAs ok ρ w xs vs → RepAs ok ρ w ys vs) (hc : ACall P f ys r) : ACall P f xs r :=
  ⟨hc.1, fun ok w vs hg hv => hc.2 ok w vs hg (h _ _ _ _ hv)⟩
theorem selM_v (s : List (List Term)) (l : List Fld) (b : Bool) (hb : selMatches s l = b) (hl : FldsOk l) : ACall Tryz.prog 60 [.one (.sl (.sl rTerm) s), .one (.full rFld l)] (ib b) := by
  subst hb
  refine acall_arg (fun ok ρ w vs h => ?_) (selMatches_c s l hl)
  obtain ⟨v, r, rfl, h1, v2, r2, rfl, h2, h3⟩ := h
  exact ⟨v, _, rfl, h1, v2, r2, rfl, h2.1, h3⟩
theorem alive_c : ACall Tryz.prog 27 [] (ib true) := by
  refine acall_of (rs := [0]) Tryz.func27 rfl rfl rfl teOk rfl ?_
  refine acode_seq ?_
  refine acode_region ?_
  refine acode_seq ?_
  refine acode_region ?_
  refine Or.inl ?_
  refine And.intro (rfl) ?_
  refine Exists.intro _ (And.intro (alive_p) ?_)
  refine acode_seq ?_
  refine acode_region ?_
  refine And.intro (fun h => trivial) ?_
  refine And.intro (fun h => ⟨⟨h, trivial⟩, trivial⟩) ?_
  refine And.intro (fun h => ⟨⟨h, trivial⟩, trivial⟩) ?_
  refine And.intro (by exact fun h => h) ?_
  refine And.intro (fun h => trivial) ?_
  refine And.intro (fun h => trivial) ?_
  refine And.intro (fun h => ⟨⟨h, trivial⟩, trivial⟩) ?_
  refine And.intro (rfl) ?_
  refine Exists.intro _ (And.intro (fun h => ⟨⟨⟨h, trivial⟩, ⟨h, trivial⟩, trivial⟩, selM_v _ _ true alive_1 ⟨by decide, by decide⟩⟩) ?_)
  refine And.intro (by exact fun h => h) ?_
  refine And.intro (fun h => trivial) ?_
  refine And.intro (fun h => trivial) ?_
  refine And.intro (fun h => trivial) ?_
  refine And.intro (fun h => ⟨⟨h, trivial⟩, ⟨h, trivial⟩, trivial⟩) ?_
  refine And.intro (rfl) ?_
  refine Exists.intro _ (And.intro (fun h => ⟨⟨⟨h, trivial⟩, ⟨h, trivial⟩, trivial⟩, selM_v _ _ false alive_2 ⟨by decide, by decide⟩⟩) ?_)
  refine And.intro (fun h => ⟨⟨h, trivial⟩, trivial⟩) ?_
  refine And.intro (by exact fun h => h) ?_
  refine And.intro (fun h => trivial) ?_
  refine And.intro (fun h => trivial) ?_
  refine And.intro (fun h => trivial) ?_
  refine And.intro (fun h => ⟨⟨h, trivial⟩, ⟨h, trivial⟩, trivial⟩) ?_
  refine And.intro (rfl) ?_
  refine Exists.intro _ (And.intro (fun h => ⟨⟨⟨h, trivial⟩, ⟨h, trivial⟩, trivial⟩, selM_v _ _ true alive_3 ⟨by decide, by decide⟩⟩) ?_)
  refine And.intro (by exact fun h => h) ?_
  refine acode_ret ?_
  exact ib_eq rfl

theorem begins_occ (s w : ByteArray) (n : Nat) (h : n ≤ s.size) : begins s w n = Lib.occAt (ls s) (ls w) n := by
  unfold begins
  have h1 := size_list s
  have h2 := size_list w
  by_cases hr : n + w.size ≤ s.size
  · rw [decide_eq_true hr, Bool.true_and, Lib.occAt_iff_take _ _ _ (by unfold ls; omega)]
    rw [Bool.eq_iff_iff, decide_eq_true_iff, beq_iff_eq]
    have e : (s.extract n (n + w.size)).data.toList = ((ls s).drop n).take (ls w).length := by
      rw [extract_ls, Nat.add_sub_cancel_left, h2]
    rw [← e]
    refine ⟨fun h => by rw [h], fun h => ?_⟩
    have h5 := congrArg bytes h
    rw [show bytes (s.extract n (n + w.size)).data.toList = _ from bytes_ls _, bytes_ls] at h5
    exact h5
  · rw [decide_eq_false hr, Bool.false_and]
    refine (Bool.eq_false_iff.2 fun e => ?_).symm
    rcases Lib.occAt_room e with h3 | h3
    · unfold ls at h3; omega
    · unfold ls at h3; rw [h3] at h2; simp only [List.length_nil] at h2; omega
theorem contains_begins (s w : ByteArray) : Lib.contains (ls s) (ls w) = (List.range (s.size + 1)).any (begins s w) := by
  have h1 := size_list s
  unfold Lib.contains
  rw [Bool.eq_iff_iff, decide_eq_true_iff, List.any_eq_true]
  refine ⟨fun h => ?_, fun ⟨n, hn, h⟩ => ?_⟩
  · rcases Lib.index_spec (ls s) (ls w) with ⟨e, _⟩ | ⟨i, _, h2, h3, _⟩
    · omega
    · exact ⟨i, List.mem_range.2 (by unfold ls at h2; omega), by rw [begins_occ s w i (by unfold ls at h2; omega)]; exact h3⟩
  · have hn := List.mem_range.1 hn
    rw [begins_occ s w n (by omega)] at h
    rcases Lib.index_spec (ls s) (ls w) with ⟨_, h2⟩ | ⟨i, h2, _⟩
    · have := h2 n (by unfold ls; omega)
      rw [h] at this; cases this
    · omega
theorem ofB_okV (t : Term) (v : ByteArray) (h : bad t = false) : ofB t v = okV t v := by
  unfold bad at h
  simp only [Bool.or_eq_false_iff, decide_eq_false_iff_not] at h
  have hr : t.2.2.1 = 1 ∨ t.2.2.1 = 2 ∨ t.2.2.1 = 3 ∨ t.2.2.1 = 4 ∨ t.2.2.1 = 5 := by omega
  unfold ofB okV ok0
  rcases hr with h | h | h | h | h
  · simp [h]
  · simp [h]
  · have := begins_occ v t.2.2.2 0 (Nat.zero_le _)
    simp [h, this, Lib.occAt, Lib.hasPrefix]
  · have := contains_begins v t.2.2.2
    unfold ls at this
    simp [h, this]
  · simp [h]
theorem termM_eq (t : Term) (l : List Fld) : termMatches t l = refMatches t l := by
  unfold termMatches refMatches
  cases h : bad t
  · have : (fun f : Fld => decide (f.1 = t.2.1) && ofB t f.2) = okF t := by
      funext f; unfold okF; rw [ofB_okV t f.2 h]
    rw [this]
  · rfl
theorem selM_eq (s : List (List Term)) (l : List Fld) : selMatches s l = refAll s l := by
  unfold selMatches refAll
  congr 1
  funext r
  rw [List.all_eq_not_any_not]
  congr 2
  funext t
  rw [termM_eq]
theorem large_ok {s : List (List Term)} (h : largeB s = false) : SelOk s ∧ TxtsOk s := by
  unfold largeB at h
  simp only [Bool.or_eq_false_iff, decide_eq_false_iff_not] at h
  have hr : ∀ r ∈ s, bigR r = false := fun r hr => by simpa using List.any_eq_false.1 h.2 r hr
  have ht : ∀ r ∈ s, r.length ≤ 24 ∧ ∀ t ∈ r, t.2.1.size ≤ 100 ∧ t.2.2.2.size ≤ 500 := fun r hm => by
    have := hr r hm
    unfold bigR at this
    simp only [Bool.or_eq_false_iff, decide_eq_false_iff_not] at this
    refine ⟨by omega, fun t ht => ?_⟩
    have h2 : bigT t = false := by simpa using List.any_eq_false.1 this.2 t ht
    unfold bigT at h2
    simp only [Bool.or_eq_false_iff, decide_eq_false_iff_not] at h2
    omega
  refine ⟨⟨by omega, fun r hm => ⟨by have := (ht r hm).1; omega, fun t h => (ht r hm).2 t h⟩⟩, fun r hm t h => ?_⟩
  have := (ht r hm).2 t h
  exact ⟨by omega, by omega⟩
end QQ
end Q
end Ab
end Go.Proofs.YtklhlkhlndhepaaGreatDoor
namespace Go.Proofs.YtklhlkhlndhepaaGreatDoor
open Go.RowKit
namespace Ab
set_option maxRecDepth 100000
namespace Q
def idsL (p : List Fld → Bool) (l : List Stz) : List Int := (l.filter fun x => p x.2).map (·.1)
theorem idsL_snoc {p : List Fld → Bool} {l : List Stz} {i : Nat} (h : i < l.length) : idsL p (l.take (i + 1)) = idsL p (l.take i) ++ if p (l.getD i ((0 : Int), ([] : List Fld))).2 then [(l.getD i ((0 : Int), ([] : List Fld))).1] else [] := by
  unfold idsL
  rw [← take_snoc ((0 : Int), ([] : List Fld)) h, List.filter_append, List.map_append]
  generalize l.getD i ((0 : Int), ([] : List Fld)) = x
  cases hk : p x.2
  · simp [hk]
  · simp [hk]
theorem idsL_le (p : List Fld → Bool) (l : List Stz) : (idsL p l).length ≤ l.length := by
  unfold idsL
  rw [List.length_map]
  exact List.length_filter_le _ _
theorem ints_c (a b : List Int) : ACall Tryz.prog 31 [.one (.sl (.int .i64) a), .one (.sl (.int .i64) b)] (ib (decide (a = b))) := by
  refine acall_of (rs := [4]) Tryz.func31 rfl rfl rfl teOk rfl ?_
  refine acode_seq ?_
  refine acode_region ?_
  refine acode_seq ?_
  refine acode_seq ?_
  refine acode_region ?_
  intro l1_1
  try simp only [Int.toNat_natCast, dflt_sl, dflt_st, dflt_str, dflt_int, dflt_bool] at l1_1
  intro l1_3
  try simp only [Int.toNat_natCast, dflt_sl, dflt_st, dflt_str, dflt_int, dflt_bool] at l1_3
  refine acode_cond rfl (fun h10 => ?_) (fun h10 => ?_)
  · try simp only [decide_eq_false_iff_not, Bool.not_eq_true'] at h10
    try simp only [Int.toNat_natCast, dflt_sl, dflt_st, dflt_str, dflt_int, dflt_bool] at h10
    refine acode_seq ?_
    refine acode_region ?_
    refine acode_ret ?_
    exact ib_eq (decide_eq_false (fun e => by rw [e] at h10; omega)).symm
  · try simp only [decide_eq_true_eq, Bool.not_eq_false'] at h10
    try simp only [Int.toNat_natCast, dflt_sl, dflt_st, dflt_str, dflt_int, dflt_bool] at h10
    refine acode_skip ?_
    refine acode_seq ?_
    refine acode_seq ?_
    refine acode_region ?_
    intro l3_1
    try simp only [Int.toNat_natCast, dflt_sl, dflt_st, dflt_str, dflt_int, dflt_bool] at l3_1
    refine acode_block ?_
    refine acode_loopP (fun (i : Nat) => i ≤ a.length ∧ a.take i = b.take i) (fun (i : Nat) => [(0, .one (.sl (.int .i64) a)), (1, .one (.sl (.int .i64) b)), (12, ii .i64 a.length), (13, ii .i64 i)]) (fun (i : Nat) => []) 0 (fun (i : Nat) => a.length - i) 0 (⟨Nat.zero_le _, by simp⟩) (le_of ⟨rfl, rfl, rfl, rfl⟩ trivial rfl) ?_
    intro i hI0
    obtain ⟨hi, ht⟩ := hI0
    refine acode_seq ?_
    refine acode_region ?_
    refine acode_seq ?_
    refine acode_cond rfl (fun h14 => ?_) (fun h14 => ?_)
    · try simp only [decide_eq_true_eq] at h14
      try simp only [Int.toNat_natCast, dflt_sl, dflt_st, dflt_str, dflt_int, dflt_bool] at h14
      have hla : i < a.length := by omega
      have hlb : i < b.length := by omega
      refine acode_skip ?_
      refine acode_seq ?_
      refine acode_block ?_
      refine acode_seq ?_
      refine acode_region ?_
      refine acode_seq ?_
      refine acode_draw rfl (by kernel_rfl) ?_
      refine And.intro (by first | omega | assumption | decide | (simp only [Int.toNat_natCast, dflt_sl, dflt_st, dflt_str, dflt_int, dflt_bool]; omega) | (simp <;> omega)) ?_
      refine And.intro (by first | omega | assumption | decide | (simp only [Int.toNat_natCast, dflt_sl, dflt_st, dflt_str, dflt_int, dflt_bool]; omega) | (simp <;> omega)) ?_
      refine acode_cond rfl (fun h24 => ?_) (fun h24 => ?_)
      · try simp only [decide_eq_false_iff_not, Bool.not_eq_true'] at h24
        try simp only [Int.toNat_natCast, dflt_int] at h24
        refine acode_seq ?_
        refine acode_region ?_
        refine acode_ret ?_
        exact ib_eq (decide_eq_false (ne_at (i := i) 0 h24)).symm
      · try simp only [decide_eq_true_eq, Bool.not_eq_false'] at h24
        try simp only [Int.toNat_natCast, dflt_int] at h24
        refine acode_skip ?_
        refine acode_region ?_
        refine And.intro (by first | omega | assumption | decide | (simp only [Int.toNat_natCast, dflt_sl, dflt_st, dflt_str, dflt_int, dflt_bool]; omega) | (simp <;> omega)) ?_
        exact ⟨i + 1, ⟨by omega, list_ext_take 0 hla hlb ht h24⟩, by first | omega | (simp <;> omega), le_of ⟨rfl, rfl, rfl, (ii_eq (by omega))⟩ trivial rfl⟩
    · try simp only [decide_eq_false_iff_not, Int.not_lt] at h14
      try simp only [Int.toNat_natCast, dflt_sl, dflt_st, dflt_str, dflt_int, dflt_bool] at h14
      refine acode_exit ?_
      refine acode_seq ?_
      refine acode_region ?_
      refine acode_ret ?_
      exact ib_eq (decide_eq_true (by rw [List.take_of_length_le (by omega), List.take_of_length_le (by omega)] at ht; exact ht)).symm
theorem stz_small {es : List Ent} (h : ∀ e ∈ es, SmallF e.1.2.2 ∧ e.1.2.2.length ≤ 40) : ∀ x ∈ stzL es, FldsOk x.2 := by
  intro x hx
  obtain ⟨e, he, rfl⟩ := List.mem_map.1 hx
  have := h e (List.mem_filter.1 he).1
  exact fldsOk_of this.1 this.2
theorem find_c {k : Nat} (s : List (List Term)) (es : List Ent) (n m : Int) (hl : es.length ≤ 1000000) (hf : ∀ e ∈ es, SmallF e.1.2.2 ∧ e.1.2.2.length ≤ 40) : ACall Tryz.prog 24 [.one (.sl (.sl rTerm) s), .one (.adk k (rLst k) (es, n, m))] (.one (.sl (.int .i64) (idsL (QQ.selMatches s) (stzL es)))) := by
  have hsl := stzL_le es
  have hsm := stz_small hf
  refine acall_of (rs := [4]) Tryz.func24 rfl rfl rfl teOk rfl ?_
  refine acode_seq ?_
  refine acode_region ?_
  refine acode_seq ?_
  refine acode_region ?_
  refine acode_seq ?_
  refine acode_seq ?_
  refine acode_nilvec 5 3 (.int .i64) rfl ?_
  refine acode_region ?_
  refine Or.inl ?_
  refine And.intro (rfl) ?_
  refine Exists.intro _ (And.intro (stanzasL_c es n m hl (fun e he => Nat.le_trans (hf e he).2 (by decide))) ?_)
  intro l2_2
  try simp only [Int.toNat_natCast, dflt_sl, dflt_st, dflt_str, dflt_int, dflt_bool] at l2_2
  refine acode_block ?_
  refine acode_loopP (fun (i : Nat) => i ≤ (stzL es).length) (fun (i : Nat) => [(0, .one (.sl (.sl rTerm) s)), (5, .one (.vec 0)), (9, .one (.sl rStz (stzL es))), (10, ii .i64 (stzL es).length), (11, ii .i64 i)]) (fun (i : Nat) => [(0, .vec 3 (.int .i64) (idsL (QQ.selMatches s) ((stzL es).take i)))]) 1 (fun (i : Nat) => (stzL es).length - i) 0 (Nat.zero_le _) (le_of ⟨rfl, rfl, rfl, rfl, rfl⟩ rfl rfl) ?_
  intro i hI0
  refine acode_seq ?_
  refine acode_region ?_
  refine acode_seq ?_
  refine acode_cond rfl (fun h12 => ?_) (fun h12 => ?_)
  · try simp only [decide_eq_true_eq] at h12
    try simp only [Int.toNat_natCast, dflt_sl, dflt_st, dflt_str, dflt_int, dflt_bool] at h12
    have hil : i < (stzL es).length := (by omega)
    have hsn := idsL_snoc (p := QQ.selMatches s) hil
    have hil2 := idsL_le (QQ.selMatches s) ((stzL es).take i)
    rw [List.length_take] at hil2
    refine acode_skip ?_
    refine acode_seq ?_
    refine acode_block ?_
    refine acode_seq ?_
    refine acode_region ?_
    refine And.intro (by first | omega | assumption | decide | (simp only [Int.toNat_natCast, dflt_sl, dflt_st, dflt_str, dflt_int, dflt_bool]; omega) | (simp <;> omega)) ?_
    refine acode_seq ?_
    refine acode_region ?_
    refine Or.inl ?_
    refine And.intro (rfl) ?_
    refine Exists.intro _ (And.intro (QQ.selMatches_c s _ (hsm _ (getD_mem hil ((0 : Int), ([] : List Fld))))) ?_)
    refine acode_cond rfl (fun h18 => ?_) (fun h18 => ?_)
    · try simp only [decide_eq_true_eq, decide_eq_false_iff_not, Bool.and_eq_true, Bool.not_eq_true', Bool.not_eq_false', Bool.or_eq_false_iff, Bool.or_eq_true, Bool.and_eq_false_iff, Int.not_lt, Int.not_le] at h18
      try simp only [Int.toNat_natCast, dflt_sl, dflt_st, dflt_int] at h18
      rw [h18, if_pos rfl] at hsn
      refine acode_region ?_
      refine And.intro (by exact app_le (show (idsL (QQ.selMatches s) ((stzL es).take i)).length + 1 ≤ 1000000000 by omega) (by decide)) ?_
      refine acode_region ?_
      refine And.intro (by first | omega | assumption | decide | (simp only [Int.toNat_natCast, dflt_sl, dflt_st, dflt_str, dflt_int, dflt_bool]; omega) | (simp <;> omega)) ?_
      exact ⟨i + 1, by omega, by first | omega | (simp <;> omega), le_of ⟨rfl, rfl, rfl, rfl, (ii_eq (by omega))⟩ (vec_eq (by rw [hsn]; try exact rfl)) rfl⟩
    · try simp only [decide_eq_true_eq, decide_eq_false_iff_not, Bool.and_eq_true, Bool.not_eq_true', Bool.not_eq_false', Bool.or_eq_false_iff, Bool.or_eq_true, Bool.and_eq_false_iff, Int.not_lt, Int.not_le] at h18
      try simp only [Int.toNat_natCast, dflt_sl, dflt_st, dflt_int] at h18
      rw [h18, if_neg Bool.false_ne_true, List.append_nil] at hsn
      refine acode_skip ?_
      refine acode_region ?_
      refine And.intro (by first | omega | assumption | decide | (simp only [Int.toNat_natCast, dflt_sl, dflt_st, dflt_str, dflt_int, dflt_bool]; omega) | (simp <;> omega)) ?_
      exact ⟨i + 1, by omega, by first | omega | (simp <;> omega), le_of ⟨rfl, rfl, rfl, rfl, (ii_eq (by omega))⟩ (vec_eq (by rw [hsn]; try exact rfl)) rfl⟩
  · try simp only [decide_eq_false_iff_not, Int.not_lt] at h12
    try simp only [Int.toNat_natCast, dflt_sl, dflt_st, dflt_str, dflt_int, dflt_bool] at h12
    refine acode_exit ?_
    refine acode_seq ?_
    refine acode_region ?_
    refine acode_ret ?_
    rw [List.take_of_length_le (by omega)]
    exact rfl
theorem findN_c (s : List (List Term)) : ACall Tryz.prog 24 [.one (.sl (.sl rTerm) s), .one (.lit (.pointer none))] (.one (.sl (.int .i64) [])) := by
  refine acall_of (rs := [4]) Tryz.func24 rfl rfl rfl teOk rfl ?_
  refine acode_seq ?_
  refine acode_region ?_
  refine acode_seq ?_
  refine acode_region ?_
  refine acode_seq ?_
  refine acode_seq ?_
  refine acode_nilvec 5 3 (.int .i64) rfl ?_
  refine acode_region ?_
  refine Or.inl ?_
  refine And.intro (rfl) ?_
  refine Exists.intro _ (And.intro (stanzasN_c) ?_)
  intro l2_2
  try simp only [Int.toNat_natCast, dflt_sl, dflt_st, dflt_str, dflt_int, dflt_bool] at l2_2
  refine acode_block ?_
  refine acode_loopP (fun (i : Nat) => i = 0) (fun (i : Nat) => [(0, .one (.sl (.sl rTerm) s)), (5, .one (.vec 0)), (9, .one (.sl rStz [])), (10, ii .i64 0), (11, ii .i64 0)]) (fun (i : Nat) => [(0, .vec 3 (.int .i64) [])]) 1 (fun (i : Nat) => 0) 0 (rfl) (le_of ⟨rfl, rfl, rfl, rfl, rfl⟩ rfl rfl) ?_
  intro i hI0
  refine acode_seq ?_
  refine acode_region ?_
  refine acode_seq ?_
  refine acode_cond rfl (fun h12 => ?_) (fun h12 => ?_)
  · try simp only [decide_eq_true_eq] at h12
    try simp only [Int.toNat_natCast, dflt_sl, dflt_st, dflt_str, dflt_int, dflt_bool] at h12
    simp at h12
  · try simp only [decide_eq_false_iff_not, Int.not_lt] at h12
    try simp only [Int.toNat_natCast, dflt_sl, dflt_st, dflt_str, dflt_int, dflt_bool] at h12
    refine acode_exit ?_
    refine acode_seq ?_
    refine acode_region ?_
    refine acode_ret ?_
    exact rfl
theorem refFind_c (s : List (List Term)) (hs : QQ.SelOk s) (es : List Ent) (n : Int) (hl : es.length ≤ 1000000) (hf : ∀ e ∈ es, SmallF e.1.2.2 ∧ e.1.2.2.length ≤ 40) : ACall Tryz.prog 32 [.one (.sl (.sl rTerm) s), .agg (toL rRL (es, n))] (.one (.sl (.int .i64) (idsL (QQ.refAll s) (stzL es)))) := by
  have hsl := stzL_le es
  have hsm := stz_small hf
  refine acall_of (rs := [4]) Tryz.func32 rfl rfl rfl teOk rfl ?_
  refine acode_seq ?_
  refine acode_region ?_
  refine acode_seq ?_
  refine acode_region ?_
  refine acode_seq ?_
  refine acode_region ?_
  refine Or.inl ?_
  refine And.intro (rfl) ?_
  refine Exists.intro _ (And.intro (refStz_c es n hl) ?_)
  refine acode_seq ?_
  refine acode_seq ?_
  refine acode_nilvec 5 3 (.int .i64) rfl ?_
  refine acode_region ?_
  refine acode_block ?_
  refine acode_loopP (fun (i : Nat) => i ≤ (stzL es).length) (fun (i : Nat) => [(0, .one (.sl (.sl rTerm) s)), (5, .one (.vec 1)), (6, .one (.sl rStz (stzL es))), (7, ii .i64 i)]) (fun (i : Nat) => [(1, .vec 3 (.int .i64) (idsL (QQ.refAll s) ((stzL es).take i)))]) 2 (fun (i : Nat) => (stzL es).length - i) 0 (Nat.zero_le _) (le_of ⟨rfl, rfl, rfl, rfl⟩ rfl rfl) ?_
  intro i hI0
  refine acode_seq ?_
  refine acode_seq ?_
  refine acode_region ?_
  intro l4_2
  try simp only [Int.toNat_natCast, dflt_sl, dflt_st, dflt_str, dflt_int, dflt_bool] at l4_2
  refine acode_cond rfl (fun h13 => ?_) (fun h13 => ?_)
  · try simp only [decide_eq_true_eq] at h13
    try simp only [Int.toNat_natCast, dflt_sl, dflt_st, dflt_str, dflt_int, dflt_bool] at h13
    have hil : i < (stzL es).length := (by omega)
    have hsn := idsL_snoc (p := QQ.refAll s) hil
    have hil2 := idsL_le (QQ.refAll s) ((stzL es).take i)
    rw [List.length_take] at hil2
    refine acode_skip ?_
    refine acode_seq ?_
    refine acode_block ?_
    refine acode_seq ?_
    refine acode_region ?_
    refine And.intro (by first | omega | assumption | decide | (simp only [Int.toNat_natCast, dflt_sl, dflt_st, dflt_str, dflt_int, dflt_bool]; omega) | (simp <;> omega)) ?_
    refine Or.inl ?_
    refine And.intro (rfl) ?_
    refine Exists.intro _ (And.intro (QQ.all_c s _ hs (hsm _ (getD_mem hil ((0 : Int), ([] : List Fld))))) ?_)
    refine acode_cond rfl (fun h22 => ?_) (fun h22 => ?_)
    · try simp only [decide_eq_true_eq, decide_eq_false_iff_not, Bool.and_eq_true, Bool.not_eq_true', Bool.not_eq_false', Bool.or_eq_false_iff, Bool.or_eq_true, Bool.and_eq_false_iff, Int.not_lt, Int.not_le] at h22
      try simp only [Int.toNat_natCast, dflt_sl, dflt_st, dflt_int] at h22
      rw [h22, if_pos rfl] at hsn
      refine acode_region ?_
      refine And.intro (by first | omega | assumption | decide | (simp only [Int.toNat_natCast, dflt_sl, dflt_st, dflt_str, dflt_int, dflt_bool]; omega) | (simp <;> omega)) ?_
      refine And.intro (by exact app_le (show (idsL (QQ.refAll s) ((stzL es).take i)).length + 1 ≤ 1000000000 by omega) (by decide)) ?_
      refine acode_region ?_
      refine And.intro (by first | omega | assumption | decide | (simp only [Int.toNat_natCast, dflt_sl, dflt_st, dflt_str, dflt_int, dflt_bool]; omega) | (simp <;> omega)) ?_
      exact ⟨i + 1, by omega, by first | omega | (simp <;> omega), le_of ⟨rfl, rfl, rfl, (ii_eq (by omega))⟩ (vec_eq (by rw [hsn]; try exact rfl)) rfl⟩
    · try simp only [decide_eq_true_eq, decide_eq_false_iff_not, Bool.and_eq_true, Bool.not_eq_true', Bool.not_eq_false', Bool.or_eq_false_iff, Bool.or_eq_true, Bool.and_eq_false_iff, Int.not_lt, Int.not_le] at h22
      try simp only [Int.toNat_natCast, dflt_sl, dflt_st, dflt_int] at h22
      rw [h22, if_neg Bool.false_ne_true, List.append_nil] at hsn
      refine acode_skip ?_
      refine acode_region ?_
      refine And.intro (by first | omega | assumption | decide | (simp only [Int.toNat_natCast, dflt_sl, dflt_st, dflt_str, dflt_int, dflt_bool]; omega) | (simp <;> omega)) ?_
      exact ⟨i + 1, by omega, by first | omega | (simp <;> omega), le_of ⟨rfl, rfl, rfl, (ii_eq (by omega))⟩ (vec_eq (by rw [hsn]; try exact rfl)) rfl⟩
  · try simp only [decide_eq_false_iff_not, Int.not_lt] at h13
    try simp only [Int.toNat_natCast, dflt_sl, dflt_st, dflt_str, dflt_int, dflt_bool] at h13
    refine acode_exit ?_
    refine acode_seq ?_
    refine acode_region ?_
    refine acode_ret ?_
    rw [List.take_of_length_le (by omega)]
    exact rfl
end Q
end Ab
end Go.Proofs.YtklhlkhlndhepaaGreatDoor
namespace Go.Proofs.YtklhlkhlndhepaaGreatDoor
open Go.RowKit
namespace Ab
set_option maxRecDepth 100000
namespace Q
theorem numI_mem : ∀ (l : List Itm) (n : Int) (e : Ent), e ∈ numI n l → e.1 ∈ l
  | [], _, _, h => by cases h
  | x :: r, n, e, h => by
    unfold numI at h
    split at h
    · rcases List.mem_cons.1 h with h | h
      · rw [h]; exact List.mem_cons_self
      · exact List.mem_cons_of_mem _ (numI_mem r _ e h)
    · rcases List.mem_cons.1 h with h | h
      · rw [h]; exact List.mem_cons_self
      · exact List.mem_cons_of_mem _ (numI_mem r _ e h)
theorem num_small {s : ByteArray} {l : List Itm} (hp : parseS s = .inr l) : ∀ e ∈ numI 1 l, SmallF e.1.2.2 ∧ e.1.2.2.length ≤ 40 := fun e he => items_small hp _ (numI_mem l 1 e he)
theorem find_same (s : List (List Term)) (l : List Stz) : idsL (QQ.selMatches s) l = idsL (QQ.refAll s) l := by
  unfold idsL
  congr 2
  funext x
  rw [QQ.selM_eq]
theorem finds_big (t : ByteArray) (s : List (List Term)) (hbig : 3000 < t.size) : ACall Tryz.prog 5 [is t, .one (.sl (.sl rTerm) s)] (ib true) := by
  refine acall_of (rs := [4]) Tryz.func5 rfl rfl rfl teOk rfl ?_
  refine acode_seq ?_
  refine acode_region ?_
  refine acode_seq ?_
  refine acode_seq ?_
  refine acode_region ?_
  refine Or.inl ?_
  refine And.intro (rfl) ?_
  refine Exists.intro _ (And.intro (QQ.alive_c) ?_)
  refine acode_cond rfl (fun h12 => ?_) (fun h12 => ?_)
  · try simp only [Bool.not_eq_true'] at h12
    try simp only [Int.toNat_natCast, dflt_sl, dflt_st, dflt_str, dflt_int, dflt_bool] at h12
    cases h12
  · try simp only [Bool.not_eq_false'] at h12
    try simp only [Int.toNat_natCast, dflt_sl, dflt_st, dflt_str, dflt_int, dflt_bool] at h12
    refine acode_skip ?_
    refine acode_seq ?_
    refine acode_seq ?_
    refine acode_region ?_
    refine Or.inl ?_
    refine And.intro (rfl) ?_
    refine Exists.intro _ (And.intro (QQ.large_c s) ?_)
    refine And.intro (fun h => trivial) ?_
    refine And.intro (fun h => ⟨⟨h, trivial⟩, trivial⟩) ?_
    refine And.intro (fun h => ⟨⟨h, trivial⟩, trivial⟩) ?_
    refine And.intro (by first | (intro h; rw [h]; rfl) | (intro h; cases h)) ?_
    refine acode_cond rfl (fun h19 => ?_) (fun h19 => ?_)
    · try simp only [decide_eq_true_eq, Bool.or_eq_true] at h19
      try simp only [Int.toNat_natCast, dflt_sl, dflt_st, dflt_str, dflt_int, dflt_bool] at h19
      refine acode_seq ?_
      refine acode_region ?_
      refine acode_ret ?_
      rfl
    · try simp only [decide_eq_false_iff_not, Bool.or_eq_false_iff, Int.not_lt] at h19
      try simp only [Int.toNat_natCast, dflt_sl, dflt_st, dflt_str, dflt_int, dflt_bool] at h19
      have h19 := h19.2
      omega
theorem finds_err (t : ByteArray) (s : List (List Term)) (hts : t.size ≤ 60000) {at_ n : Int} (hp : parseS t = .inl (at_, n)) : ACall Tryz.prog 5 [is t, .one (.sl (.sl rTerm) s)] (ib true) := by
  have hne := parse_ne hp
  refine acall_of (rs := [4]) Tryz.func5 rfl rfl rfl teOk rfl ?_
  refine acode_seq ?_
  refine acode_region ?_
  refine acode_seq ?_
  refine acode_seq ?_
  refine acode_region ?_
  refine Or.inl ?_
  refine And.intro (rfl) ?_
  refine Exists.intro _ (And.intro (QQ.alive_c) ?_)
  refine acode_cond rfl (fun h12 => ?_) (fun h12 => ?_)
  · try simp only [Bool.not_eq_true'] at h12
    try simp only [Int.toNat_natCast, dflt_sl, dflt_st, dflt_str, dflt_int, dflt_bool] at h12
    cases h12
  · try simp only [Bool.not_eq_false'] at h12
    try simp only [Int.toNat_natCast, dflt_sl, dflt_st, dflt_str, dflt_int, dflt_bool] at h12
    refine acode_skip ?_
    refine acode_seq ?_
    refine acode_seq ?_
    refine acode_region ?_
    refine Or.inl ?_
    refine And.intro (rfl) ?_
    refine Exists.intro _ (And.intro (QQ.large_c s) ?_)
    refine And.intro (fun h => trivial) ?_
    refine And.intro (fun h => ⟨⟨h, trivial⟩, trivial⟩) ?_
    refine And.intro (fun h => ⟨⟨h, trivial⟩, trivial⟩) ?_
    refine And.intro (by first | (intro h; rw [h]; rfl) | (intro h; cases h)) ?_
    refine acode_cond rfl (fun h19 => ?_) (fun h19 => ?_)
    · try simp only [decide_eq_true_eq, Bool.or_eq_true] at h19
      try simp only [Int.toNat_natCast, dflt_sl, dflt_st, dflt_str, dflt_int, dflt_bool] at h19
      refine acode_seq ?_
      refine acode_region ?_
      refine acode_ret ?_
      rfl
    · try simp only [decide_eq_false_iff_not, Bool.or_eq_false_iff, Int.not_lt] at h19
      try simp only [Int.toNat_natCast, dflt_sl, dflt_st, dflt_str, dflt_int, dflt_bool] at h19
      refine acode_skip ?_
      refine acode_seq ?_
      refine acode_region ?_
      refine Or.inl ?_
      refine And.intro (rfl) ?_
      refine Exists.intro _ (And.intro (of_err t hts hp) ?_)
      refine acode_seq ?_
      refine acode_region ?_
      refine Or.inl ?_
      refine And.intro (rfl) ?_
      refine Exists.intro _ (And.intro (refOf_err t hts hp) ?_)
      refine acode_seq ?_
      refine acode_seq ?_
      refine acode_region ?_
      refine And.intro (fun h => trivial) ?_
      refine And.intro (fun h => ⟨⟨h, trivial⟩, trivial⟩) ?_
      refine And.intro (by first | (intro h; rw [h]; rfl) | (intro h; cases h)) ?_
      refine acode_cond rfl (fun h36 => ?_) (fun h36 => ?_)
      · try simp only [decide_eq_false_iff_not, Bool.not_eq_true', Bool.or_eq_true] at h36
        try simp only [Int.toNat_natCast, dflt_sl, dflt_st, dflt_str, dflt_int, dflt_bool] at h36
        refine acode_seq ?_
        refine acode_region ?_
        refine And.intro (fun h => trivial) ?_
        refine And.intro (fun h => ⟨⟨h, trivial⟩, trivial⟩) ?_
        refine And.intro (by exact fun h => h) ?_
        refine acode_ret ?_
        exact ib_eq (by simp [hne])
      · try simp only [decide_eq_true_eq, Bool.not_eq_false', Bool.or_eq_false_iff] at h36
        try simp only [Int.toNat_natCast, dflt_sl, dflt_st, dflt_str, dflt_int, dflt_bool] at h36
        simp at h36
theorem finds_ok (t : ByteArray) (s : List (List Term)) (hts : t.size ≤ 60000) {l : List Itm} (hp : parseS t = .inr l) : ACall Tryz.prog 5 [is t, .one (.sl (.sl rTerm) s)] (ib true) := by
  obtain ⟨hl1, hl2⟩ := items_flds hts hp
  have hsm := num_small hp
  have hln : (numI 1 l).length ≤ 1000000 := by rw [numI_len]; exact hl1
  refine acall_of (rs := [4]) Tryz.func5 rfl rfl rfl teOk rfl ?_
  refine acode_seq ?_
  refine acode_region ?_
  refine acode_seq ?_
  refine acode_seq ?_
  refine acode_region ?_
  refine Or.inl ?_
  refine And.intro (rfl) ?_
  refine Exists.intro _ (And.intro (QQ.alive_c) ?_)
  refine acode_cond rfl (fun h12 => ?_) (fun h12 => ?_)
  · try simp only [Bool.not_eq_true'] at h12
    try simp only [Int.toNat_natCast, dflt_sl, dflt_st, dflt_str, dflt_int, dflt_bool] at h12
    cases h12
  · try simp only [Bool.not_eq_false'] at h12
    try simp only [Int.toNat_natCast, dflt_sl, dflt_st, dflt_str, dflt_int, dflt_bool] at h12
    refine acode_skip ?_
    refine acode_seq ?_
    refine acode_seq ?_
    refine acode_region ?_
    refine Or.inl ?_
    refine And.intro (rfl) ?_
    refine Exists.intro _ (And.intro (QQ.large_c s) ?_)
    refine And.intro (fun h => trivial) ?_
    refine And.intro (fun h => ⟨⟨h, trivial⟩, trivial⟩) ?_
    refine And.intro (fun h => ⟨⟨h, trivial⟩, trivial⟩) ?_
    refine And.intro (by first | (intro h; rw [h]; rfl) | (intro h; cases h)) ?_
    refine acode_cond rfl (fun h19 => ?_) (fun h19 => ?_)
    · try simp only [decide_eq_true_eq, Bool.or_eq_true] at h19
      try simp only [Int.toNat_natCast, dflt_sl, dflt_st, dflt_str, dflt_int, dflt_bool] at h19
      refine acode_seq ?_
      refine acode_region ?_
      refine acode_ret ?_
      rfl
    · try simp only [decide_eq_false_iff_not, Bool.or_eq_false_iff, Int.not_lt] at h19
      try simp only [Int.toNat_natCast, dflt_sl, dflt_st, dflt_str, dflt_int, dflt_bool] at h19
      obtain ⟨hs, _⟩ := QQ.large_ok h19.1
      refine acode_skip ?_
      refine acode_seq ?_
      refine acode_region ?_
      refine Or.inr (Or.inl (Exists.intro [] (Exists.intro [] (Exists.intro _ (Exists.intro _ (Exists.intro _ (Exists.intro _ (Exists.intro _ (And.intro (of_ok t hts hp) (And.intro rfl (And.intro True.intro (And.intro rfl ?_))))))))))))
      refine acode_seq ?_
      refine acode_region ?_
      refine Or.inl ?_
      refine And.intro (rfl) ?_
      refine Exists.intro _ (And.intro (refOf_ok t hts hp) ?_)
      refine acode_seq ?_
      refine acode_seq ?_
      refine acode_region ?_
      refine And.intro (fun h => trivial) ?_
      refine And.intro (fun h => ⟨⟨h, trivial⟩, trivial⟩) ?_
      refine And.intro (by first | (intro h; rw [h]; rfl) | (intro h; cases h)) ?_
      refine acode_cond rfl (fun h36 => ?_) (fun h36 => ?_)
      · try simp only [decide_eq_false_iff_not, Bool.not_eq_true', Bool.or_eq_true] at h36
        try simp only [Int.toNat_natCast, dflt_sl, dflt_st, dflt_str, dflt_int, dflt_bool] at h36
        simp at h36
      · try simp only [decide_eq_true_eq, Bool.not_eq_false', Bool.or_eq_false_iff] at h36
        try simp only [Int.toNat_natCast, dflt_sl, dflt_st, dflt_str, dflt_int, dflt_bool] at h36
        refine acode_skip ?_
        refine acode_seq ?_
        refine acode_region ?_
        refine Or.inl ?_
        refine And.intro (rfl) ?_
        refine Exists.intro _ (And.intro (QQ.program_c s hs) ?_)
        refine acode_seq ?_
        refine acode_draw rfl (by kernel_rfl) ?_
        refine And.intro (rfl) ?_
        refine Exists.intro _ (And.intro (find_c s (numI 1 l) (1 + (cntR l : Int)) (cntR l) hln hsm) ?_)
        refine And.intro (rfl) ?_
        refine Exists.intro _ (And.intro (refFind_c s hs (numI 1 l) (1 + (cntR l : Int)) hln hsm) ?_)
        refine And.intro (rfl) ?_
        refine Exists.intro _ (And.intro (ints_c _ _) ?_)
        refine And.intro (fun h => trivial) ?_
        refine And.intro (rfl) ?_
        refine Exists.intro _ (And.intro (fun h => ⟨⟨⟨h, trivial⟩, trivial⟩, findN_c s⟩) ?_)
        refine And.intro (fun h => ⟨⟨h, trivial⟩, trivial⟩) ?_
        refine And.intro (fun h => ⟨⟨h, trivial⟩, trivial⟩) ?_
        refine And.intro (by exact fun h => h) ?_
        refine acode_ret ?_
        exact ib_eq (by rw [find_same]; simp)
theorem QueryFinds_c (t : ByteArray) (s : List (List Term)) : ACall Tryz.prog 5 [is t, .one (.sl (.sl rTerm) s)] (ib true) := by
  by_cases hbig : 3000 < t.size
  · exact finds_big t s hbig
  · have hts : t.size ≤ 60000 := by omega
    cases hp : parseS t with
    | inl e => exact finds_err t s hts (at_ := e.1) (n := e.2) hp
    | inr l => exact finds_ok t s hts hp
end Q
end Ab
end Go.Proofs.YtklhlkhlndhepaaGreatDoor
namespace Go.Proofs.YtklhlkhlndhepaaGreatDoor
open Go.RowKit
namespace Ab
set_option maxRecDepth 100000
theorem o_str : Opens Tryz.prog 9 .str := opens_str Tryz.underlying9 (by kernel_rfl)
theorem o_int : Opens Tryz.prog 3 (.int .i64) := opens_int Tryz.underlying3 (by kernel_rfl)
theorem o_bool : Opens Tryz.prog 4 .bool := opens_bool Tryz.underlying4 (by kernel_rfl)
theorem o_term : Opens Tryz.prog 108 (.st .bool (.st .str (.st (.int .i64) .str))) :=
  opens_st Tryz.underlying108 (by kernel_rfl) (.cons rfl o_bool (.cons rfl o_str (.cons rfl o_int (.one rfl o_str))))
theorem o_terms1 : Opens Tryz.prog 106 (.sl (.st .bool (.st .str (.st (.int .i64) .str)))) := opens_sl (by decide) Tryz.underlying106 (by kernel_rfl) o_term
theorem o_terms : Opens Tryz.prog 38 (.sl (.sl (.st .bool (.st .str (.st (.int .i64) .str))))) := opens_sl (by decide) Tryz.underlying38 (by kernel_rfl) o_terms1
theorem open_terms {H : Type} {enc : TypeId × Value → H} {W : World} {base : Nat} {v : Value} {d : DataW H} {p : List MemPlace} (hv : Value.okWide Tryz.prog W .any base 38 v) (h : DataW.Trod enc Tryz.prog W 0 (fun _ => true) true 38 v d p) :
    ∃ xs, (C.sl (.sl (.st .bool (.st .str (.st (.int .i64) .str)))) xs).rep AllOk noNames W v := open_sl Tryz.underlying38 o_terms hv h
/-- The library's variable holds some number. -/
theorem globAt {W : World} (h : W.ShapedOpen Tryz.prog) : GlobAt AllOk W := by
  have hc : GlobCell W := cell_of_shapedOpen_int (g := 0) (t := 3) (zero := #[.int .i64 0]) h (of_decide_eq_true (by kernel_rfl)) (by kernel_rfl) rfl (by kernel_rfl) (by kernel_rfl) Tryz.underlying3
  refine ⟨trivial, ?_, hc⟩
  obtain ⟨m, hm⟩ := hc
  rcases Nat.lt_or_ge 0 W.heap.size with h1 | h1
  · exact h1
  · exfalso
    simp only [World.cell?, Array.getElem?_eq_none h1] at hm
    cases hm
end Ab
end Go.Proofs.YtklhlkhlndhepaaGreatDoor
namespace Go.Proofs.YtklhlkhlndhepaaGreatDoor
open Go.RowKit
namespace Ab
set_option maxRecDepth 100000
end Ab
end Go.Proofs.YtklhlkhlndhepaaGreatDoor
