/-
  The texts of this proof, joined: abstract values, the library, the functions of the program and what they compute (part 5). No condition.
-/
import Derived.WalkSpells
import Derived.Shelf.Vars
import Derived.KernelRfl
import Derived.LaidHandle
import Derived.LaidSub
import Derived.LaidMore
import Derived.Lay
import Derived.FnData
import Derived.Test.YtpfkncffaanjcaaGreatDoorK1
import Derived.Test.YtpfkncffaanjcaaGreatDoorK2
import Derived.Test.YtpfkncffaanjcaaGreatDoorK3
import Derived.Test.YtpfkncffaanjcaaGreatDoorK4
namespace Go.Proofs.YtpfkncffaanjcaaGreatDoor
open Go.RowKit
namespace Ab
set_option maxRecDepth 100000
namespace Q
theorem errCell {ok : Oks} {w : World} (h : GlobAt ok w) : w.cell? ⟨0,0,none⟩ = some (.iface 239 (.agg #[.pointer (some ⟨3 + 1,34,none⟩)])):=h.2.2.2
theorem as_hit' {n0 : Nat} (e t : Addr) (old : Value) (w : World) (hg : w.cell? ⟨0,0,none⟩ = some (.iface 239 (.agg #[.pointer (some ⟨3 + 1,34,none⟩)]))) (ht : w.cell? t = some old) (hf : w.frozen? t = false) (h0 : n0 ≤ t.block) (h1 : n0 ≤ w.heap.size) :
    Calls Tryz.prog 121 #[.iface 93 (.pointer (some e)),.iface 193 (.pointer (some t))] w fun ev w'=>ev = .returned (.bool true) ∧ Below n0 w w' ∧ w'.cell? t = some (.pointer (some e)):=by
  have htl : t.block < w.heap.size:=by
    rcases Nat.lt_or_ge t.block w.heap.size with h|h
    · exact h
    · simp [World.cell?,Array.getElem?_eq_none h] at ht
  refine (As.as_hit e t old w hg ht hf).mono ?_
  rintro ev w' ⟨rfl,rfl⟩
  have hb:=((((Below.refl n0 w).alloc h1 (.cells #[.pointer (some t)] 193)).alloc (by simp;omega) (.cells #[.pointer (some ⟨3 + 1,193,none⟩),.pointer (some ⟨w.heap.size,0,none⟩),.int .u64 150] 222)).alloc (by simp;omega) (.cells #[.pointer (some ⟨3 + 1,193,none⟩),.pointer (some ⟨w.heap.size,0,none⟩),.int .u64 150] 222)).alloc (by simp;omega) (.cells #[.pointer (some e)] 93);refine ⟨rfl,hb.setCell h0 _,World.cell?_setCell_same _ _ _ (u:=old) ?_⟩;rw [World.cell?_alloc_lt _ _ t (by simp;omega),World.cell?_alloc_lt _ _ t (by simp;omega),World.cell?_alloc_lt _ _ t (by simp;omega),World.cell?_alloc_lt _ _ t htl];exact ht
theorem as_miss' {n0 : Nat} (v : Value) (t : Addr) (old : Value) (w : World) (hg : w.cell? ⟨0,0,none⟩ = some (.iface 239 (.agg #[.pointer (some ⟨3 + 1,34,none⟩)]))) (ht : w.cell? t = some old) (hf : w.frozen? t = false) (h1 : n0 ≤ w.heap.size) :
    Calls Tryz.prog 121 #[.iface 59 v,.iface 193 (.pointer (some t))] w fun ev w'=>ev = .returned (.bool false) ∧ Below n0 w w':=by
  refine (As.as_miss v t old w hg ht hf).mono ?_
  rintro ev w' ⟨rfl,rfl⟩
  exact ⟨rfl,(((Below.refl n0 w).alloc h1 _).alloc (by simp;omega) _).alloc (by simp;omega) _⟩
set_option maxHeartbeats 4000000 in
theorem bareN_calls (v : Value) (w : World) (hg : w.cell? ⟨0,0,none⟩ = some (.iface 239 (.agg #[.pointer (some ⟨3 + 1,34,none⟩)]))) (hlt : 0 < w.heap.size) :
    Calls Tryz.prog 86 #[.iface 59 v] w fun e w'=>e = .returned (.iface 59 v) ∧ Below w.heap.size w w':=by
  have hgA : (w.alloc (.cells #[.pointer none] 93)).cell? ⟨0,0,none⟩ = some (.iface 239 (.agg #[.pointer (some ⟨3 + 1,34,none⟩)])):=by
    rw [World.cell?_alloc_lt _ _ ⟨0,0,none⟩ hlt];exact hg
  have htA : (w.alloc (.cells #[.pointer none] 93)).cell? ⟨w.heap.size,0,none⟩ = some (.pointer none):=by simp
  have hfA : (w.alloc (.cells #[.pointer none] 93)).frozen? ⟨w.heap.size,0,none⟩ = false:=by simp
  have hbA : Below w.heap.size w (w.alloc (.cells #[.pointer none] 93)):=(Below.refl _ w).alloc (Nat.le_refl _) _
  go_enter Tryz.func86,Tryz.ntmps86
  go_wp2_with (go_at_call 121;refine (as_miss' (n0:=w.heap.size) v _ _ _ hgA htA hfA (by simp)).mono ?_;rintro e w' ⟨rfl,hb⟩)
  go_ret
  exact ⟨rfl,hbA.trans hb⟩
set_option maxHeartbeats 4000000 in
theorem bareF_calls (b off : Nat) (x : Value) (w : World) (hg : w.cell? ⟨0,0,none⟩ = some (.iface 239 (.agg #[.pointer (some ⟨3 + 1,34,none⟩)]))) (hlt : 0 < w.heap.size) (hx : w.cell? ⟨b,off + 1,none⟩ = some x) :
    Calls Tryz.prog 86 #[.iface 93 (.pointer (some ⟨b,off,none⟩))] w fun e w'=>e = .returned x ∧ Below w.heap.size w w':=by
  have hgA : (w.alloc (.cells #[.pointer none] 93)).cell? ⟨0,0,none⟩ = some (.iface 239 (.agg #[.pointer (some ⟨3 + 1,34,none⟩)])):=by
    rw [World.cell?_alloc_lt _ _ ⟨0,0,none⟩ hlt];exact hg
  have htA : (w.alloc (.cells #[.pointer none] 93)).cell? ⟨w.heap.size,0,none⟩ = some (.pointer none):=by simp
  have hfA : (w.alloc (.cells #[.pointer none] 93)).frozen? ⟨w.heap.size,0,none⟩ = false:=by simp
  have hbA : Below w.heap.size w (w.alloc (.cells #[.pointer none] 93)):=(Below.refl _ w).alloc (Nat.le_refl _) _
  go_enter Tryz.func86,Tryz.ntmps86
  go_wp2_with (go_at_call 121;refine (as_hit' (n0:=w.heap.size) ⟨b,off,none⟩ _ _ _ hgA htA hfA (by simp) (by simp)).mono ?_;rintro e w' ⟨rfl,hb,hc⟩;have hx2 : w'.cell? ⟨b,off + 1,none⟩ = some x:=cell_later (hbA.trans hb) hx)
  go_ret
  exact ⟨rfl,hbA.trans hb⟩
theorem bareN_c (n : Int) : qU Tryz.prog 86 [.one (errN n)] (.one (errN n)):=by
  refine ⟨⟨_,Tryz.func86,rfl,rfl⟩,fun ok w vs hg hvs=>?_⟩;obtain ⟨v,t,rfl,hv,ht⟩:=hvs;rw [show t = [] from ht,show v = _ from hv];exact (bareN_calls (.int .i64 n) w (errCell hg) (Nat.lt_of_lt_of_le (by decide) hg.2.1)).mono fun e w' ⟨he,hb⟩=>⟨_,he,hb,rfl⟩
theorem bareF_c (a n : Int) : qU Tryz.prog 86 [.one (errF a n)] (.one (errN n)):=by
  refine ⟨⟨_,Tryz.func86,rfl,rfl⟩,fun ok w vs hg hvs=>?_⟩;obtain ⟨v,t,rfl,⟨u,rfl,b,off,cs,rfl,_,hlt,hc,hr⟩,ht⟩:=hvs;obtain ⟨c,d,rfl,h1,h2⟩:=hr;rw [show t = [] from ht];have hx : w.cell? ⟨b,off + 1,none⟩ = some (.iface 59 (.int .i64 n)):=by
    rw [hc.2 1 (by decide),show c = _ from h1,show d = _ from h2.1];rfl
  exact (bareF_calls b off _ w (errCell hg) (Nat.lt_of_lt_of_le (by decide) hg.2.1) hx).mono fun e w' ⟨he,hb⟩=>⟨_,he,hb,rfl⟩
end Q
end Ab
end Go.Proofs.YtpfkncffaanjcaaGreatDoor
namespace Go.Proofs.YtpfkncffaanjcaaGreatDoor
open Go.RowKit
namespace Ab
set_option maxRecDepth 100000
abbrev rItm3 : Rd Itm:=rItm.kd 3
namespace Q
end Q
end Ab
end Go.Proofs.YtpfkncffaanjcaaGreatDoor
namespace Go.Proofs.YtpfkncffaanjcaaGreatDoor
open Go.RowKit
namespace Ab
set_option maxRecDepth 100000
namespace Q
def al0 : List Ent:=[((3,⟨#[65,58,32,49,10]⟩,[(⟨#[65]⟩,⟨#[49]⟩)]),1)]
def alF : List Fld:=[(⟨#[66]⟩,⟨#[50]⟩)]
def al1 : List Ent:=insE al0 0 (itmOf alF,2)
structure SeenI (es : List Ent) (n : Int) (i : Nat) (sn : List Bool) : Prop where
  le : i ≤ (stzL es).length
  len : sn.length = n.toNat
  seen : ∀ k : Nat,sn.getD k false = true → ∃ j,j < i ∧ ((stzL es).getD j ((0 : Int),([] : List Fld))).1 = k
theorem SeenI.next {es : List Ent} {n : Int} {i : Nat} {sn : List Bool} (h : SeenI es n i sn) (hi : i < (stzL es).length) (hp : 0 < ((stzL es).getD i ((0 : Int),([] : List Fld))).1) : SeenI es n (i + 1) (sn.set (((stzL es).getD i ((0 : Int),([] : List Fld))).1).toNat true):=by
  refine ⟨hi,by rw [List.length_set];exact h.len,fun k hk=>?_⟩
  by_cases e : (((stzL es).getD i ((0 : Int),([] : List Fld))).1).toNat = k
  · exact ⟨i,Nat.lt_succ_self _,by omega⟩
  · rw [List.getD_eq_getElem?_getD,List.getElem?_set_ne e,← List.getD_eq_getElem?_getD] at hk;obtain ⟨j,hj,h2⟩:=h.seen k hk;exact ⟨j,by omega,h2⟩
theorem lsvec_eq {L M : Lst} (h : M = L) : some (Ob.vec 111 rEnt L.1) = some (Ob.vec 111 rEnt M.1):=by rw [h]
abbrev rStz3 : Rd Stz:=rStz.kd 3
def goodA (x : Edt) : C:=if x.1 = 2 then (if 0 < x.2.2.length then errN 2 else .lit .nilIface) else if x.1 = 1 ∨ x.1 = 3 then chkA x.2.2 else errN 2
theorem goodA_cases (x : Edt) : (goodN x = 0 ∧ goodA x = .lit .nilIface) ∨ (∃ n,n ≠ 0 ∧ goodN x = n ∧ goodA x = errN n) ∨ ∃ a n,n ≠ 0 ∧ goodN x = n ∧ goodA x = errF a n:=by
  unfold goodN goodA
  by_cases h2 : x.1 = 2
  · simp only [if_pos h2]
    by_cases h3 : 0 < x.2.2.length
    · simp only [if_pos h3];exact .inr (.inl ⟨2,by decide,rfl,rfl⟩)
    · simp only [if_neg h3];exact .inl ⟨trivial,trivial⟩
  · simp only [if_neg h2]
    by_cases h3 : x.1 = 1 ∨ x.1 = 3
    · simp only [if_pos h3]
      by_cases hc : (chkR x.2.2).2 = 0
      · exact .inl ⟨hc,(chk_good hc).2.2⟩
      · obtain ⟨e,he,hs⟩:=chk_bad hc;rcases hs with ⟨n,hn,rfl,hr⟩|⟨i,n,hn,rfl,hr⟩
        · exact .inr (.inl ⟨n,hn,by rw [hr],he⟩)
        · exact .inr (.inr ⟨i,n,hn,by rw [hr],he⟩)
    · simp only [if_neg h3];exact .inr (.inl ⟨2,by decide,rfl,rfl⟩)
theorem goodA_2 {x : Edt} (h : x.1 = 2) (h3 : 0 < x.2.2.length) : goodA x = errN 2:=by unfold goodA;rw [if_pos h,if_pos h3]
theorem goodA_20 {x : Edt} (h : x.1 = 2) (h3 : ¬ 0 < x.2.2.length) : goodA x = .lit .nilIface:=by unfold goodA;rw [if_pos h,if_neg h3]
theorem goodA_13 {x : Edt} (h : x.1 = 1 ∨ x.1 = 3) : goodA x = chkA x.2.2:=by unfold goodA;rw [if_neg (by omega),if_pos h]
theorem goodA_no {x : Edt} (h : x.1 ≠ 2) (h3 : ¬ (x.1 = 1 ∨ x.1 = 3)) : goodA x = errN 2:=by unfold goodA;rw [if_neg h,if_neg h3]
theorem chkA_cases (l : List Fld) : chkA l = .lit .nilIface ∨ (∃ n,chkA l = errN n) ∨ ∃ a n,chkA l = errF a n:=by
  unfold chkA;split
  · exact .inl rfl
  · split
    · exact .inr (.inl ⟨_,rfl⟩)
    · exact .inr (.inr ⟨_,_,rfl⟩)
theorem good_c {κ : Nat} (x : Edt) (hf : yA x.2.2) : qU Tryz.prog 81 [.agg (toL (rEdk κ) x)] (.one (goodA x)):=by
  refine qT (rs:=[2]) Tryz.func81 rfl rfl rfl teOk rfl ?_;refine qC ?_;refine qB ?_;refine qC ?_;refine qC ?_;refine qB ?_;refine qN ?_;refine qC ?_;refine qB ?_;refine qK rfl (fun h5=>?_) (fun h5=>?_)
  ·try simp only [decide_eq_true_eq] at h5
   try simp only [zds] at h5
   refine qC ?_;refine qC ?_;refine qB ?_;intro l3_2
   try simp only [zds] at l3_2
   refine qK rfl (fun h10=>?_) (fun h10=>?_)
   ·try simp only [decide_eq_true_eq] at h10
    try simp only [zds] at h10
    refine qC ?_;refine qB ?_;refine qL ?_;rw [goodA_2 h5 (by omega)];rfl
   ·try simp only [decide_eq_false_iff_not,Int.not_lt] at h10
    try simp only [zds] at h10
    refine qM ?_;refine qC ?_;refine qB ?_;refine qL ?_;rw [goodA_20 h5 (by omega)];rfl
  ·try simp only [decide_eq_false_iff_not] at h5
   try simp only [zds] at h5
   refine qC ?_;refine qC ?_;refine qB ?_;refine qK rfl (fun h12=>?_) (fun h12=>?_)
   ·try simp only [decide_eq_true_eq] at h12
    try simp only [zds] at h12
    refine qM ?_;refine qK rfl (fun h12=>?_) (fun h12=>?_)
    ·try simp only [decide_eq_true_eq] at h12
     try simp only [zds] at h12
     refine qC ?_;have hk:=pcheck_c (κ:=κ) x.2.2 hf ; rcases chkA_cases x.2.2 with hA|⟨n,hA⟩|⟨a,n,hA⟩ <;> rw [hA] at hk
     ·refine qB ?_;refine Or.inl ?_;refine zai (rfl) ?_;refine zei _ (zai (hk) ?_);refine qL ?_;rw [goodA_13 (by omega),hA];rfl
     ·refine qB ?_;refine Or.inl ?_;refine zai (rfl) ?_;refine zei _ (zai (hk) ?_);refine qL ?_;rw [goodA_13 (by omega),hA];rfl
     ·refine qB ?_;refine Or.inl ?_;refine zai (rfl) ?_;refine zei _ (zai (hk) ?_);refine qL ?_;rw [goodA_13 (by omega),hA];rfl
    ·try simp only [decide_eq_false_iff_not] at h12
     try simp only [zds] at h12
     omega
   ·try simp only [decide_eq_false_iff_not] at h12
    try simp only [zds] at h12
    refine qB ?_;refine qK rfl (fun h12=>?_) (fun h12=>?_)
    ·try simp only [decide_eq_true_eq] at h12
     try simp only [zds] at h12
     refine qC ?_;have hk:=pcheck_c (κ:=κ) x.2.2 hf ; rcases chkA_cases x.2.2 with hA|⟨n,hA⟩|⟨a,n,hA⟩ <;> rw [hA] at hk
     ·refine qB ?_;refine Or.inl ?_;refine zai (rfl) ?_;refine zei _ (zai (hk) ?_);refine qL ?_;rw [goodA_13 (by omega),hA];rfl
     ·refine qB ?_;refine Or.inl ?_;refine zai (rfl) ?_;refine zei _ (zai (hk) ?_);refine qL ?_;rw [goodA_13 (by omega),hA];rfl
     ·refine qB ?_;refine Or.inl ?_;refine zai (rfl) ?_;refine zei _ (zai (hk) ?_);refine qL ?_;rw [goodA_13 (by omega),hA];rfl
    ·try simp only [decide_eq_false_iff_not] at h12
     try simp only [zds] at h12
     skip
     refine qM ?_;refine qC ?_;refine qB ?_;refine qL ?_;rw [goodA_no (by omega) (by omega)];rfl
theorem faultN_c (i n : Int) : qU Tryz.prog 53 [ii .i64 i,.one (errN n)] (.one (errF i n)):=by
  refine qT (rs:=[4]) Tryz.func53 rfl rfl rfl teOk rfl ?_;refine qC ?_;refine qB ?_;refine qC ?_;refine qB ?_;refine Or.inl ?_;refine zai (rfl) ?_;refine zei _ (zai (bareN_c n) ?_);refine qL ?_;rfl
theorem faultF_c (i a n : Int) : qU Tryz.prog 53 [ii .i64 i,.one (errF a n)] (.one (errF i n)):=by
  refine qT (rs:=[4]) Tryz.func53 rfl rfl rfl teOk rfl ?_;refine qC ?_;refine qB ?_;refine qC ?_;refine qB ?_;refine Or.inl ?_;refine zai (rfl) ?_;refine zei _ (zai (bareF_c a n) ?_);refine qL ?_;rfl
def erB (p : Int × Int) : C:=if p.2 = 0 then .lit .nilIface else if p.1 = -9 then errN p.2 else errF p.1 p.2
theorem erB_z : erB (-9,0) = .lit .nilIface:=rfl
theorem erB_n {n : Int} (h : n ≠ 0) : erB (-9,n) = errN n:=by unfold erB;rw [if_neg h,if_pos rfl]
theorem erB_f {i : Nat} {n : Int} (h : n ≠ 0) : erB ((i : Int),n) = errF i n:=by unfold erB;rw [if_neg h,if_neg (show ¬ (i : Int) = -9 by omega)]
theorem check_c9 {κ κ' : Nat} (s : List Edt) (hf : ∀ e ∈ s,yA e.2.2) (hl : s.length ≤ 1000000) : qU Tryz.prog 50 [.one (.slk κ (rEdk κ') s)] (.one (erB (chkB s))):=by
  refine qT (rs:=[2]) Tryz.func50 rfl rfl rfl teOk rfl ?_;refine qC ?_;refine qB ?_;refine qC ?_;refine qC ?_;refine qB ?_;intro l1_1
  try simp only [zds] at l1_1
  refine zai (fun h=>trivial) ?_;refine zai (fun h=>⟨⟨h,trivial⟩,trivial⟩) ?_;refine zai (fun h=>⟨⟨h,trivial⟩,trivial⟩) ?_;refine zai (by first|(intro h;rw [h];rfl)|(intro h;cases h)) ?_;refine qK rfl (fun h13=>?_) (fun h13=>?_)
  ·try simp only [decide_eq_true_eq,Bool.or_eq_true] at h13
   try simp only [zds] at h13
   refine qC ?_;refine qB ?_;refine qL ?_;rw [chkB_rng (by omega),erB_n (by decide)];rfl
  ·try simp only [decide_eq_false_iff_not,Bool.or_eq_false_iff,Int.not_lt] at h13
   try simp only [zds] at h13
   refine qM ?_;refine qC ?_;refine qC ?_;refine qB ?_;intro l3_1
   try simp only [zds] at l3_1
   refine qN ?_;refine yP (fun (i : Nat)=>i ≤ s.length ∧ ∀ e ∈ s.take i,goodN e = 0) (fun (i : Nat)=>[(15,.one (.slk κ (rEdk κ') s)),(16,ii .i64 s.length),(17,ii .i64 i)]) (fun (i : Nat)=>[]) 0 (fun (i : Nat)=>s.length - i) 0 (⟨Nat.zero_le _,by simp⟩) (qV ⟨rfl,rfl,rfl⟩ trivial rfl) ?_;intro i hI0;obtain ⟨hi,hall⟩:=hI0;refine qC ?_;refine qB ?_;refine qC ?_;refine qK rfl (fun h18=>?_) (fun h18=>?_)
   ·try simp only [decide_eq_true_eq] at h18
    try simp only [zds] at h18
    have hlt : i < s.length:=(by omega);have hm:=hf _ (xK hlt ((0 : Int),(0 : Int),([] : List Fld)));have hg:=good_c (κ:=κ') (s.getD i ((0 : Int),(0 : Int),([] : List Fld))) hm;refine qM ?_;refine qC ?_;refine qN ?_;refine qC ?_;refine qB ?_;refine zai (by first|omega|assumption|decide|(simp only [zds];omega)|(simp <;> omega)) ?_;refine qC ?_;rcases goodA_cases (s.getD i ((0 : Int),(0 : Int),([] : List Fld))) with ⟨hz,hA⟩|⟨n,hn,hz,hA⟩|⟨a,n,hn,hz,hA⟩ <;> rw [hA] at hg
    ·refine qB ?_;refine Or.inl ?_;refine zai (rfl) ?_;refine zei _ (zai (hg) ?_);refine qC ?_;refine qB ?_;refine qK rfl (fun h25=>?_) (fun h25=>?_)
     ·try simp only [Bool.not_eq_true'] at h25
      try simp only [zds] at h25
      cases h25
     ·try simp only [Bool.not_eq_false'] at h25
      try simp only [zds] at h25
      refine qM ?_;refine qB ?_;refine zai (by first|omega|assumption|decide|(simp only [zds];omega)|(simp <;> omega)) ?_;exact ⟨i + 1,⟨by omega,take_good hlt hall hz⟩,by first|omega|(simp <;> omega),qV ⟨rfl,rfl,(ii_eq (by omega))⟩ trivial rfl⟩
    ·refine qB ?_;refine Or.inl ?_;refine zai (rfl) ?_;refine zei _ (zai (hg) ?_);refine qC ?_;refine qB ?_;refine qK rfl (fun h25=>?_) (fun h25=>?_)
     ·skip
      refine qC ?_;refine qB ?_;refine Or.inl ?_;refine zai (rfl) ?_;refine zei _ (zai (faultN_c i n) ?_);refine qL ?_;rw [chkB_at (by omega) hlt hall (by rw [hz];exact hn),hz,erB_f hn];rfl
     ·try simp only [zbq] at h25
      try simp only [zds] at h25
      cases h25
    ·refine qB ?_;refine Or.inl ?_;refine zai (rfl) ?_;refine zei _ (zai (hg) ?_);refine qC ?_;refine qB ?_;refine qK rfl (fun h25=>?_) (fun h25=>?_)
     ·skip
      refine qC ?_;refine qB ?_;refine Or.inl ?_;refine zai (rfl) ?_;refine zei _ (zai (faultF_c i a n) ?_);refine qL ?_;rw [chkB_at (by omega) hlt hall (by rw [hz];exact hn),hz,erB_f hn];rfl
     ·try simp only [zbq] at h25
      try simp only [zds] at h25
      cases h25
   ·try simp only [decide_eq_false_iff_not,Int.not_lt] at h18
    try simp only [zds] at h18
    refine xI ?_;refine qC ?_;refine qB ?_;refine qL ?_;rw [List.take_of_length_le (by omega)] at hall;rw [chkB_no (by omega) hall,erB_z];rfl
theorem oneRep_z {κ : Nat} (L L' : Lst) (id : Int) (f : List Fld) (h : qR Tryz.prog 83 [.one (.own 0 0),ii .i64 id,.one (.slk κ rFld f)] (lsO L) 2 (.one (.lit .nilIface)) (lsO L') 2) : qR Tryz.prog 52 [.one (.own 0 0),.agg (toL (rEdk κ) ((1 : Int),id,f))] (lsO L) 2 (.tup [(false,[.lit (.int .i64 0)]),(false,[.lit .nilIface])]) (lsO L') 2:=by
  refine qP (rs:=[4,5]) Tryz.func52 rfl rfl rfl teOk (by decide) rfl ?_;refine qC ?_;refine qB ?_;refine qC ?_;refine qC ?_;refine qB ?_;refine qN ?_;refine qC ?_;refine qB ?_;refine qK rfl (fun h8=>?_) (fun h8=>?_)
  ·try simp only [decide_eq_true_eq] at h8
   try simp only [zds] at h8
   refine qC ?_;refine qB ?_;refine Or.inr (Or.inl (zei [] (zei [0,1] (zei _ (zei _ (zei _ (zei _ (zei _ (zai (h) (zai rfl (zai (zai (zai rfl rfl) (zai (zai rfl rfl) True.intro)) (zai rfl ?_))))))))))));refine qL ?_;exact ⟨rfl,⟨rfl,rfl⟩,rfl⟩
  ·try simp only [decide_eq_false_iff_not] at h8
   try simp only [zds] at h8
   simp at h8
theorem oneDel_z {κ : Nat} (L L' : Lst) (id : Int) (f : List Fld) (h : qR Tryz.prog 84 [.one (.own 0 0),ii .i64 id] (lsO L) 2 (.one (.lit .nilIface)) (lsO L') 2) : qR Tryz.prog 52 [.one (.own 0 0),.agg (toL (rEdk κ) ((2 : Int),id,f))] (lsO L) 2 (.tup [(false,[.lit (.int .i64 0)]),(false,[.lit .nilIface])]) (lsO L') 2:=by
  refine qP (rs:=[4,5]) Tryz.func52 rfl rfl rfl teOk (by decide) rfl ?_;refine qC ?_;refine qB ?_;refine qC ?_;refine qC ?_;refine qB ?_;refine qN ?_;refine qC ?_;refine qB ?_;refine qK rfl (fun h8=>?_) (fun h8=>?_)
  ·try simp only [decide_eq_true_eq] at h8
   try simp only [zds] at h8
   simp at h8
  ·try simp only [decide_eq_false_iff_not] at h8
   try simp only [zds] at h8
   refine qC ?_;refine qB ?_;refine qK rfl (fun h16=>?_) (fun h16=>?_)
   ·try simp only [decide_eq_true_eq] at h16
    try simp only [zds] at h16
    refine qC ?_;refine qB ?_;refine Or.inr (Or.inl (zei [] (zei [0,1] (zei _ (zei _ (zei _ (zei _ (zei _ (zai (h) (zai rfl (zai (zai (zai rfl rfl) (zai (zai rfl rfl) True.intro)) (zai rfl ?_))))))))))));refine qL ?_;exact ⟨rfl,⟨rfl,rfl⟩,rfl⟩
   ·try simp only [decide_eq_false_iff_not] at h16
    try simp only [zds] at h16
    simp at h16
theorem oneIns_z {κ : Nat} (L L' : Lst) (k id m : Int) (f : List Fld) (h1 : k ≠ 1) (h2 : k ≠ 2) (h : qR Tryz.prog 85 [.one (.own 0 0),ii .i64 id,.one (.slk κ rFld f)] (lsO L) 2 (.tup [(false,[.lit (.int .i64 m)]),(false,[.lit .nilIface])]) (lsO L') 2) : qR Tryz.prog 52 [.one (.own 0 0),.agg (toL (rEdk κ) (k,id,f))] (lsO L) 2 (.tup [(false,[.lit (.int .i64 m)]),(false,[.lit .nilIface])]) (lsO L') 2:=by
  refine qP (rs:=[4,5]) Tryz.func52 rfl rfl rfl teOk (by decide) rfl ?_;refine qC ?_;refine qB ?_;refine qC ?_;refine qC ?_;refine qB ?_;refine qN ?_;refine qC ?_;refine qB ?_;refine qK rfl (fun h8=>?_) (fun h8=>?_)
  ·try simp only [decide_eq_true_eq] at h8
   try simp only [zds] at h8
   exact absurd h8 h1
  ·try simp only [decide_eq_false_iff_not] at h8
   try simp only [zds] at h8
   refine qC ?_;refine qB ?_;refine qK rfl (fun h16=>?_) (fun h16=>?_)
   ·try simp only [decide_eq_true_eq] at h16
    try simp only [zds] at h16
    exact absurd h16 h2
   ·try simp only [decide_eq_false_iff_not] at h16
    try simp only [zds] at h16
    refine qM ?_;refine qC ?_;refine qB ?_;refine Or.inr (Or.inl (zei [] (zei [0,1] (zei _ (zei _ (zei _ (zei _ (zei _ (zai (h) (zai rfl (zai (zai (zai rfl rfl) (zai (zai rfl rfl) True.intro)) (zai rfl ?_))))))))))));refine qL ?_;exact ⟨rfl,⟨rfl,rfl⟩,rfl⟩
theorem oneRep_n {κ : Nat} (L L' : Lst) (k9 : Int) (id : Int) (f : List Fld) (h : qR Tryz.prog 83 [.one (.own 0 0),ii .i64 id,.one (.slk κ rFld f)] (lsO L) 2 (.one (errN k9)) (lsO L') 2) : qR Tryz.prog 52 [.one (.own 0 0),.agg (toL (rEdk κ) ((1 : Int),id,f))] (lsO L) 2 (.tup [(false,[.lit (.int .i64 0)]),(false,[errN k9])]) (lsO L') 2:=by
  refine qP (rs:=[4,5]) Tryz.func52 rfl rfl rfl teOk (by decide) rfl ?_;refine qC ?_;refine qB ?_;refine qC ?_;refine qC ?_;refine qB ?_;refine qN ?_;refine qC ?_;refine qB ?_;refine qK rfl (fun h8=>?_) (fun h8=>?_)
  ·try simp only [decide_eq_true_eq] at h8
   try simp only [zds] at h8
   refine qC ?_;refine qB ?_;refine Or.inr (Or.inl (zei [] (zei [0,1] (zei _ (zei _ (zei _ (zei _ (zei _ (zai (h) (zai rfl (zai (zai (zai rfl rfl) (zai (zai rfl rfl) True.intro)) (zai rfl ?_))))))))))));refine qL ?_;exact ⟨rfl,⟨rfl,rfl⟩,rfl⟩
  ·try simp only [decide_eq_false_iff_not] at h8
   try simp only [zds] at h8
   simp at h8
theorem oneDel_n {κ : Nat} (L L' : Lst) (k9 : Int) (id : Int) (f : List Fld) (h : qR Tryz.prog 84 [.one (.own 0 0),ii .i64 id] (lsO L) 2 (.one (errN k9)) (lsO L') 2) : qR Tryz.prog 52 [.one (.own 0 0),.agg (toL (rEdk κ) ((2 : Int),id,f))] (lsO L) 2 (.tup [(false,[.lit (.int .i64 0)]),(false,[errN k9])]) (lsO L') 2:=by
  refine qP (rs:=[4,5]) Tryz.func52 rfl rfl rfl teOk (by decide) rfl ?_;refine qC ?_;refine qB ?_;refine qC ?_;refine qC ?_;refine qB ?_;refine qN ?_;refine qC ?_;refine qB ?_;refine qK rfl (fun h8=>?_) (fun h8=>?_)
  ·try simp only [decide_eq_true_eq] at h8
   try simp only [zds] at h8
   simp at h8
  ·try simp only [decide_eq_false_iff_not] at h8
   try simp only [zds] at h8
   refine qC ?_;refine qB ?_;refine qK rfl (fun h16=>?_) (fun h16=>?_)
   ·try simp only [decide_eq_true_eq] at h16
    try simp only [zds] at h16
    refine qC ?_;refine qB ?_;refine Or.inr (Or.inl (zei [] (zei [0,1] (zei _ (zei _ (zei _ (zei _ (zei _ (zai (h) (zai rfl (zai (zai (zai rfl rfl) (zai (zai rfl rfl) True.intro)) (zai rfl ?_))))))))))));refine qL ?_;exact ⟨rfl,⟨rfl,rfl⟩,rfl⟩
   ·try simp only [decide_eq_false_iff_not] at h16
    try simp only [zds] at h16
    simp at h16
theorem oneIns_n {κ : Nat} (L L' : Lst) (k9 : Int) (k id m : Int) (f : List Fld) (h1 : k ≠ 1) (h2 : k ≠ 2) (h : qR Tryz.prog 85 [.one (.own 0 0),ii .i64 id,.one (.slk κ rFld f)] (lsO L) 2 (.tup [(false,[.lit (.int .i64 m)]),(false,[errN k9])]) (lsO L') 2) : qR Tryz.prog 52 [.one (.own 0 0),.agg (toL (rEdk κ) (k,id,f))] (lsO L) 2 (.tup [(false,[.lit (.int .i64 m)]),(false,[errN k9])]) (lsO L') 2:=by
  refine qP (rs:=[4,5]) Tryz.func52 rfl rfl rfl teOk (by decide) rfl ?_;refine qC ?_;refine qB ?_;refine qC ?_;refine qC ?_;refine qB ?_;refine qN ?_;refine qC ?_;refine qB ?_;refine qK rfl (fun h8=>?_) (fun h8=>?_)
  ·try simp only [decide_eq_true_eq] at h8
   try simp only [zds] at h8
   exact absurd h8 h1
  ·try simp only [decide_eq_false_iff_not] at h8
   try simp only [zds] at h8
   refine qC ?_;refine qB ?_;refine qK rfl (fun h16=>?_) (fun h16=>?_)
   ·try simp only [decide_eq_true_eq] at h16
    try simp only [zds] at h16
    exact absurd h16 h2
   ·try simp only [decide_eq_false_iff_not] at h16
    try simp only [zds] at h16
    refine qM ?_;refine qC ?_;refine qB ?_;refine Or.inr (Or.inl (zei [] (zei [0,1] (zei _ (zei _ (zei _ (zei _ (zei _ (zai (h) (zai rfl (zai (zai (zai rfl rfl) (zai (zai rfl rfl) True.intro)) (zai rfl ?_))))))))))));refine qL ?_;exact ⟨rfl,⟨rfl,rfl⟩,rfl⟩
theorem oneRep_f {κ : Nat} (L L' : Lst) (a9 k9 : Int) (id : Int) (f : List Fld) (h : qR Tryz.prog 83 [.one (.own 0 0),ii .i64 id,.one (.slk κ rFld f)] (lsO L) 2 (.one (errF a9 k9)) (lsO L') 2) : qR Tryz.prog 52 [.one (.own 0 0),.agg (toL (rEdk κ) ((1 : Int),id,f))] (lsO L) 2 (.tup [(false,[.lit (.int .i64 0)]),(false,[errF a9 k9])]) (lsO L') 2:=by
  refine qP (rs:=[4,5]) Tryz.func52 rfl rfl rfl teOk (by decide) rfl ?_;refine qC ?_;refine qB ?_;refine qC ?_;refine qC ?_;refine qB ?_;refine qN ?_;refine qC ?_;refine qB ?_;refine qK rfl (fun h8=>?_) (fun h8=>?_)
  ·try simp only [decide_eq_true_eq] at h8
   try simp only [zds] at h8
   refine qC ?_;refine qB ?_;refine Or.inr (Or.inl (zei [] (zei [0,1] (zei _ (zei _ (zei _ (zei _ (zei _ (zai (h) (zai rfl (zai (zai (zai rfl rfl) (zai (zai rfl rfl) True.intro)) (zai rfl ?_))))))))))));refine qL ?_;exact ⟨rfl,⟨rfl,rfl⟩,rfl⟩
  ·try simp only [decide_eq_false_iff_not] at h8
   try simp only [zds] at h8
   simp at h8
theorem oneIns_f {κ : Nat} (L L' : Lst) (a9 k9 : Int) (k id m : Int) (f : List Fld) (h1 : k ≠ 1) (h2 : k ≠ 2) (h : qR Tryz.prog 85 [.one (.own 0 0),ii .i64 id,.one (.slk κ rFld f)] (lsO L) 2 (.tup [(false,[.lit (.int .i64 m)]),(false,[errF a9 k9])]) (lsO L') 2) : qR Tryz.prog 52 [.one (.own 0 0),.agg (toL (rEdk κ) (k,id,f))] (lsO L) 2 (.tup [(false,[.lit (.int .i64 m)]),(false,[errF a9 k9])]) (lsO L') 2:=by
  refine qP (rs:=[4,5]) Tryz.func52 rfl rfl rfl teOk (by decide) rfl ?_;refine qC ?_;refine qB ?_;refine qC ?_;refine qC ?_;refine qB ?_;refine qN ?_;refine qC ?_;refine qB ?_;refine qK rfl (fun h8=>?_) (fun h8=>?_)
  ·try simp only [decide_eq_true_eq] at h8
   try simp only [zds] at h8
   exact absurd h8 h1
  ·try simp only [decide_eq_false_iff_not] at h8
   try simp only [zds] at h8
   refine qC ?_;refine qB ?_;refine qK rfl (fun h16=>?_) (fun h16=>?_)
   ·try simp only [decide_eq_true_eq] at h16
    try simp only [zds] at h16
    exact absurd h16 h2
   ·try simp only [decide_eq_false_iff_not] at h16
    try simp only [zds] at h16
    refine qM ?_;refine qC ?_;refine qB ?_;refine Or.inr (Or.inl (zei [] (zei [0,1] (zei _ (zei _ (zei _ (zei _ (zei _ (zai (h) (zai rfl (zai (zai (zai rfl rfl) (zai (zai rfl rfl) True.intro)) (zai rfl ?_))))))))))));refine qL ?_;exact ⟨rfl,⟨rfl,rfl⟩,rfl⟩
theorem one_cases {κ c : Nat} {L : Lst} (h : LOk c L) (hc : c ≤ 200000) (e : Edt) (hf : yA e.2.2) :
    (oneN L e = 0 ∧ qR Tryz.prog 52 [.one (.own 0 0),.agg (toL (rEdk κ) e)] (lsO L) 2 (.tup [(false,[.lit (.int .i64 (newN L e))]),(false,[.lit .nilIface])]) (lsO (doL L e)) 2) ∨
    (∃ k9,k9 ≠ 0 ∧ oneN L e = k9 ∧ qR Tryz.prog 52 [.one (.own 0 0),.agg (toL (rEdk κ) e)] (lsO L) 2 (.tup [(false,[.lit (.int .i64 0)]),(false,[errN k9])]) (lsO L) 2) ∨
    (∃ a9 k9,k9 ≠ 0 ∧ oneN L e = k9 ∧ qR Tryz.prog 52 [.one (.own 0 0),.agg (toL (rEdk κ) e)] (lsO L) 2 (.tup [(false,[.lit (.int .i64 0)]),(false,[errF a9 k9])]) (lsO L) 2):=by
  obtain ⟨es,n,m⟩:=L;obtain ⟨k,id,f⟩:=e;have hmany:=h.many;have hnx:=h.next;have hln:=h.len;have hids:=ids_len es;have hil:=List.length_filter_le live es;simp only at hmany hnx hln hf;unfold newN oneN doL;simp only
  by_cases h1 : k = 1
  · subst h1;simp only [if_pos,true_or]
    by_cases h0 : atE es id < 0
    · simp only [if_pos h0];exact .inr (.inl ⟨7,by decide,rfl,oneRep_n _ _ 7 id f (lRep_no es n m id f h0)⟩)
    · simp only [if_neg h0]
      by_cases hck : (chkR f).2 ≠ 0
      · have hb:=lRep_bad (κ:=κ) es n m id f (by omega) hf hck;rcases chk_shape hck with ⟨k9,g1,g2,g3,g4⟩|⟨a9,k9,g1,g2,g3,g4⟩
        · rw [g1] at hb;exact .inr (.inl ⟨k9,g2,g4.symm,oneRep_n _ _ k9 id f hb⟩)
        · rw [g1] at hb;exact .inr (.inr ⟨a9,k9,g2,g4.symm,oneRep_f _ _ a9 k9 id f hb⟩)
      · have hck' : (chkR f).2 = 0:=Classical.not_not.1 hck;simp only [if_neg hck];obtain ⟨i,hi,he,_,_⟩:=at_lt h0;rw [he,Int.toNat_natCast];exact .inl ⟨hck',oneRep_z _ _ id f (lRep_ok es n m id f i hi he hf hck')⟩
  · by_cases h2 : k = 2
    · subst h2;simp only [if_neg (show ¬ (2 : Int) = 1 by decide),if_pos,or_true]
      by_cases h0 : atE es id < 0
      · simp only [if_pos h0];exact .inr (.inl ⟨7,by decide,rfl,oneDel_n _ _ 7 id f (lDel_no es n m id h0)⟩)
      · simp only [if_neg h0];obtain ⟨i,hi,he,_,_⟩:=at_lt h0;rw [he,Int.toNat_natCast];exact .inl ⟨trivial,oneDel_z _ _ id f (lDel_ok es n m id i hi he (by omega) (by omega))⟩
    · simp only [if_neg h1,if_neg h2,if_neg (show ¬ (k = 1 ∨ k = 2) from fun h=>h.elim h1 h2)]
      by_cases h0 : atE es id < 0 ∧ id ≠ 0
      · simp only [if_pos h0];exact .inr (.inl ⟨7,by decide,rfl,oneIns_n _ _ 7 k id 0 f h1 h2 (lIns_no es n m id f h0.1 h0.2)⟩)
      · simp only [if_neg h0]
        by_cases hck : (chkR f).2 ≠ 0
        · have hb:=lIns_bad (κ:=κ) es n m id f h0 hf hck;simp only [if_pos hck];rcases chk_shape hck with ⟨k9,g1,g2,g3,g4⟩|⟨a9,k9,g1,g2,g3,g4⟩
          · rw [g1] at hb;exact .inr (.inl ⟨k9,g2,g4.symm,oneIns_n _ _ k9 k id 0 f h1 h2 hb⟩)
          · rw [g1] at hb;exact .inr (.inr ⟨a9,k9,g2,g4.symm,oneIns_f _ _ a9 k9 k id 0 f h1 h2 hb⟩)
        · have hck' : (chkR f).2 = 0:=Classical.not_not.1 hck;simp only [if_neg hck]
          by_cases h4 : 400 ≤ m
          · simp only [if_pos h4];exact .inr (.inl ⟨11,by decide,rfl,oneIns_n _ _ 11 k id 0 f h1 h2 (lIns_full es n m id f h0 hf hck' h4)⟩)
          · simp only [if_neg h4];obtain ⟨j,hj,hje⟩ : ∃ j : Nat,j ≤ es.length ∧ atE es id + 1 = (j : Int):=by
              rcases at_cases es id with ⟨h1,_⟩|⟨i,h1,h2,_⟩
              · exact ⟨0,Nat.zero_le _,by omega⟩
              · exact ⟨i + 1,by omega,by omega⟩
            rw [hje,Int.toNat_natCast];exact .inl ⟨trivial,oneIns_z _ _ k id n f h1 h2 (lIns_ok es n m id f j hj h0 hje hf hck' (by omega) (by omega) (by omega))⟩
theorem doN_c {κ κ' k : Nat} (L : Lst) (s : List Edt) (hf : ∀ e ∈ s,yA e.2.2) (hl : s.length ≤ 1000000) (n : Int) (hn : n ≠ 0) (h : chkB s = (-9,n)) : qU Tryz.prog 13 [.one (.adk k (rLst k) L),.one (.slk κ (rEdk κ') s)] (.tup [(false,[.lit (.pointer none)]),(false,[.lit (.slice none 0 0)]),(false,[errN n])]):=by
  have hk:=check_c9 (κ:=κ) (κ':=κ') s hf hl;rw [h,erB_n hn] at hk;refine qT (rs:=[4,5,6]) Tryz.func13 rfl rfl rfl teOk rfl ?_;refine qC ?_;refine qB ?_;refine qC ?_;refine qC ?_;refine qB ?_;refine Or.inl ?_;refine zai (rfl) ?_;refine zei _ (zai (hk) ?_);refine qC ?_;refine qB ?_;refine qK rfl (fun h17=>?_) (fun h17=>?_)
  ·skip
   refine qC ?_;refine qB ?_;refine qL ?_;rfl
  ·try simp only [zbq] at h17
   try simp only [zds] at h17
   simp at h17
theorem doF_c {κ κ' k : Nat} (L : Lst) (s : List Edt) (hf : ∀ e ∈ s,yA e.2.2) (hl : s.length ≤ 1000000) (i : Nat) (n : Int) (hn : n ≠ 0) (h : chkB s = ((i : Int),n)) : qU Tryz.prog 13 [.one (.adk k (rLst k) L),.one (.slk κ (rEdk κ') s)] (.tup [(false,[.lit (.pointer none)]),(false,[.lit (.slice none 0 0)]),(false,[errF i n])]):=by
  have hk:=check_c9 (κ:=κ) (κ':=κ') s hf hl;rw [h,erB_f hn] at hk;refine qT (rs:=[4,5,6]) Tryz.func13 rfl rfl rfl teOk rfl ?_;refine qC ?_;refine qB ?_;refine qC ?_;refine qC ?_;refine qB ?_;refine Or.inl ?_;refine zai (rfl) ?_;refine zei _ (zai (hk) ?_);refine qC ?_;refine qB ?_;refine qK rfl (fun h17=>?_) (fun h17=>?_)
  ·skip
   refine qC ?_;refine qB ?_;refine qL ?_;rfl
  ·try simp only [zbq] at h17
   try simp only [zds] at h17
   simp at h17
theorem lsbox0_eq {L M : Lst} (h : M = L) : some (Ob.box 116 [.vec 0,.lit (.int .i64 L.2.1),.lit (.int .i64 L.2.2)]) = some (Ob.box 116 [.vec 0,.lit (.int .i64 M.2.1),.lit (.int .i64 M.2.2)]):=by rw [h]
theorem took {c : Nat} {L : Lst} {s : List Edt} (h : LOk c L) (hf : ∀ e ∈ s,yA e.2.2) {i : Nat} (hi : i < s.length) : LOk (c + i) (xC L s i) ∧ yA (s.getD i ((0 : Int),(0 : Int),([] : List Fld))).2.2:=⟨plays_ok h hf i (by omega),hf _ (xK hi ((0 : Int),(0 : Int),([] : List Fld)))⟩
theorem doBad_c {κ κ' k c : Nat} (L : Lst) (s : List Edt) (hL : LOk c L) (hc : c + s.length ≤ 200000) (hf : ∀ e ∈ s,yA e.2.2) (h : (chkB s).2 = 0) (q : Nat) (hq : q < s.length) (hb : oneN (xC L s q) (s.getD q ((0 : Int),(0 : Int),([] : List Fld))) ≠ 0) (ht : ∀ j,j < q → oneN (xC L s j) (s.getD j ((0 : Int),(0 : Int),([] : List Fld))) = 0) :
    qU Tryz.prog 13 [.one (.adk k (rLst k) L),.one (.slk κ (rEdk κ') s)] (.tup [(false,[.lit (.pointer none)]),(false,[.lit (.slice none 0 0)]),(false,[errF q (oneN (xC L s q) (s.getD q ((0 : Int),(0 : Int),([] : List Fld))))])]):=by
  obtain ⟨hln,hgd⟩:=chkB_zero h;have hk:=check_c9 (κ:=κ) (κ':=κ') s hf (by omega);rw [chkB_good h,erB_z] at hk;have hlen:=hL.len;have hcp:=copyL_o (k:=k) L.1 L.2.1 L.2.2 (by omega);refine qT (rs:=[4,5,6]) Tryz.func13 rfl rfl rfl teOk rfl ?_;refine qC ?_;refine qB ?_;refine qC ?_;refine qC ?_;refine qB ?_;refine Or.inl ?_;refine zai (rfl) ?_;refine zei _ (zai (hk) ?_);refine qC ?_;refine qB ?_;refine qK rfl (fun h17=>?_) (fun h17=>?_)
  ·try simp only [Bool.not_eq_true'] at h17
   try simp only [zds] at h17
   cases h17
  ·try simp only [Bool.not_eq_false'] at h17
   try simp only [zds] at h17
   refine qM ?_;refine qC ?_;refine qB ?_;refine Or.inr (Or.inl (zei [] (zei [] (zei _ (zei _ (zei _ (zei _ (zei _ (zai (hcp) (zai rfl (zai True.intro (zai rfl ?_))))))))))));refine qC ?_;refine qB ?_;refine qC ?_;refine qC ?_;refine acode_nilvec 9 3 (.int .i64) rfl ?_;refine qB ?_;intro l6_1
   try simp only [zds] at l6_1
   refine qN ?_;refine yP (fun (i : Nat)=>i ≤ q) (fun (i : Nat)=>[(8,.one (.own 1 0)),(9,.one (.vec 2)),(21,.one (.slk κ (rEdk κ') s)),(22,ii .i64 s.length),(23,ii .i64 i)]) (fun (i : Nat)=>[(0,.vec 111 rEnt (xC L s i).1),(1,.box 116 [.vec 0,.lit (.int .i64 (xC L s i).2.1),.lit (.int .i64 (xC L s i).2.2)]),(2,.vec 3 (.int .i64) (idsT L s i))]) 3 (fun (i : Nat)=>q - i) 0 (Nat.zero_le _) (qV ⟨rfl,rfl,rfl,rfl,rfl⟩ ⟨rfl,rfl,rfl⟩ rfl) ?_;intro i hI0;refine qC ?_;refine qB ?_;refine qC ?_;refine qK rfl (fun h24=>?_) (fun h24=>?_)
   ·try simp only [decide_eq_true_eq] at h24
    try simp only [zds] at h24
    have hil : i < s.length:=(by omega);obtain ⟨hLi,hfe⟩:=took hL hf hil;have hsn:=plays_snoc L hil;have hin:=idsT_snoc L s i;have hilen:=idsT_len L s i;refine qM ?_;refine qC ?_;refine qN ?_;refine qC ?_;refine qB ?_;refine zai (by first|omega|assumption|decide|(simp only [zds];omega)|(simp <;> omega)) ?_;refine qC ?_;rcases one_cases (κ:=κ') hLi (by omega) (s.getD i ((0 : Int),(0 : Int),([] : List Fld))) hfe with ⟨hz,ho⟩|⟨n,hn,hz,ho⟩|⟨a,n,hn,hz,ho⟩
    ·refine qB ?_;refine Or.inr (Or.inl (zei [] (zei [1,0] (zei _ (zei _ (zei _ (zei _ (zei _ (zai (ho) (zai rfl (zai (zai (zai rfl rfl) (zai (zai rfl rfl) True.intro)) (zai rfl ?_))))))))))));refine qC ?_;refine qC ?_;refine qB ?_;refine qK rfl (fun h35=>?_) (fun h35=>?_)
     ·try simp only [Bool.not_eq_true'] at h35
      try simp only [zds] at h35
      cases h35
     ·try simp only [Bool.not_eq_false'] at h35
      try simp only [zds] at h35
      have hlt : i < q:=(by rcases Nat.lt_or_ge i q with h1|h1;exact h1;have e1 : i = q:=(by omega);rw [e1] at hz;exact absurd hz hb);refine qM ?_;refine qC ?_;refine qB ?_;refine qK rfl (fun h40=>?_) (fun h40=>?_)
      ·try simp only [decide_eq_true_eq] at h40
       try simp only [zds] at h40
       refine qB ?_;refine zai (by first|exact qQ (by first|omega|(simp only [List.length_cons,List.length_nil];omega)|(simp;omega)) (by decide)|omega|assumption|decide|(simp only [zds];omega)|(simp <;> omega)) ?_;refine qB ?_;refine zai (by first|omega|assumption|decide|(simp only [zds];omega)|(simp <;> omega)) ?_;exact ⟨i + 1,by omega,by first|omega|(simp <;> omega),qV ⟨rfl,rfl,rfl,rfl,(ii_eq (by omega))⟩ ⟨(lsvec_eq hsn),(lsbox0_eq hsn),(yN (by rw [hin,if_pos (by omega)];try exact rfl))⟩ rfl⟩
      ·try simp only [decide_eq_false_iff_not,Int.not_lt] at h40
       try simp only [zds] at h40
       refine qM ?_;refine qB ?_;refine zai (by first|omega|assumption|decide|(simp only [zds];omega)|(simp <;> omega)) ?_;exact ⟨i + 1,by omega,by first|omega|(simp <;> omega),qV ⟨rfl,rfl,rfl,rfl,(ii_eq (by omega))⟩ ⟨(lsvec_eq hsn),(lsbox0_eq hsn),(yN (by rw [hin,if_neg (by omega),List.append_nil]))⟩ rfl⟩
    ·refine qB ?_;refine Or.inr (Or.inl (zei [] (zei [1,0] (zei _ (zei _ (zei _ (zei _ (zei _ (zai (ho) (zai rfl (zai (zai (zai rfl rfl) (zai (zai rfl rfl) True.intro)) (zai rfl ?_))))))))))));refine qC ?_;refine qC ?_;refine qB ?_;refine qK rfl (fun h35=>?_) (fun h35=>?_)
     ·skip
      have hiq : i = q:=(by rcases Nat.lt_or_ge i q with h1|h1;exact absurd ((ht i h1).symm.trans hz) (by omega);omega);subst hiq;refine qC ?_;refine qB ?_;refine Or.inl ?_;refine zai (rfl) ?_;refine zei _ (zai (faultN_c i n) ?_);refine qL ?_;rw [hz];exact rfl
     ·try simp only [zbq] at h35
      try simp only [zds] at h35
      simp at h35
    ·refine qB ?_;refine Or.inr (Or.inl (zei [] (zei [1,0] (zei _ (zei _ (zei _ (zei _ (zei _ (zai (ho) (zai rfl (zai (zai (zai rfl rfl) (zai (zai rfl rfl) True.intro)) (zai rfl ?_))))))))))));refine qC ?_;refine qC ?_;refine qB ?_;refine qK rfl (fun h35=>?_) (fun h35=>?_)
     ·skip
      have hiq : i = q:=(by rcases Nat.lt_or_ge i q with h1|h1;exact absurd ((ht i h1).symm.trans hz) (by omega);omega);subst hiq;refine qC ?_;refine qB ?_;refine Or.inl ?_;refine zai (rfl) ?_;refine zei _ (zai (faultF_c i a n) ?_);refine qL ?_;rw [hz];exact rfl
     ·try simp only [zbq] at h35
      try simp only [zds] at h35
      simp at h35
   ·try simp only [decide_eq_false_iff_not,Int.not_lt] at h24
    try simp only [zds] at h24
    omega
theorem doOk_o {κ κ' k c : Nat} (L : Lst) (s : List Edt) (hL : LOk c L) (hc : c + s.length ≤ 200000) (hf : ∀ e ∈ s,yA e.2.2) (h : (chkB s).2 = 0) (ht : ∀ j,j < s.length → oneN (xC L s j) (s.getD j ((0 : Int),(0 : Int),([] : List Fld))) = 0) :
    qR Tryz.prog 13 [.one (.adk k (rLst k) L),.one (.slk κ (rEdk κ') s)] [] 0 (.tup [(false,[.own 1 0]),(false,[.sl (.int .i64) (idsT L s s.length)]),(false,[.lit .nilIface])]) [(1,.box 116 [.vec 0,.lit (.int .i64 (xC L s s.length).2.1),.lit (.int .i64 (xC L s s.length).2.2)]),(0,.vec 111 rEnt (xC L s s.length).1)] 2:=by
  obtain ⟨hln,hgd⟩:=chkB_zero h;have hk:=check_c9 (κ:=κ) (κ':=κ') s hf (by omega);rw [chkB_good h,erB_z] at hk;have hlen:=hL.len;have hcp:=copyL_o (k:=k) L.1 L.2.1 L.2.2 (by omega);refine qP (rs:=[4,5,6]) Tryz.func13 rfl rfl rfl teOk (by decide) rfl ?_;refine qC ?_;refine qB ?_;refine qC ?_;refine qC ?_;refine qB ?_;refine Or.inl ?_;refine zai (rfl) ?_;refine zei _ (zai (hk) ?_);refine qC ?_;refine qB ?_;refine qK rfl (fun h17=>?_) (fun h17=>?_)
  ·try simp only [Bool.not_eq_true'] at h17
   try simp only [zds] at h17
   cases h17
  ·try simp only [Bool.not_eq_false'] at h17
   try simp only [zds] at h17
   refine qM ?_;refine qC ?_;refine qB ?_;refine Or.inr (Or.inl (zei [] (zei [] (zei _ (zei _ (zei _ (zei _ (zei _ (zai (hcp) (zai rfl (zai True.intro (zai rfl ?_))))))))))));refine qC ?_;refine qB ?_;refine qC ?_;refine qC ?_;refine acode_nilvec 9 3 (.int .i64) rfl ?_;refine qB ?_;intro l6_1
   try simp only [zds] at l6_1
   refine qN ?_;refine yP (fun (i : Nat)=>i ≤ s.length) (fun (i : Nat)=>[(8,.one (.own 1 0)),(9,.one (.vec 2)),(21,.one (.slk κ (rEdk κ') s)),(22,ii .i64 s.length),(23,ii .i64 i)]) (fun (i : Nat)=>[(0,.vec 111 rEnt (xC L s i).1),(1,.box 116 [.vec 0,.lit (.int .i64 (xC L s i).2.1),.lit (.int .i64 (xC L s i).2.2)]),(2,.vec 3 (.int .i64) (idsT L s i))]) 3 (fun (i : Nat)=>s.length - i) 0 (Nat.zero_le _) (qV ⟨rfl,rfl,rfl,rfl,rfl⟩ ⟨rfl,rfl,rfl⟩ rfl) ?_;intro i hI0;refine qC ?_;refine qB ?_;refine qC ?_;refine qK rfl (fun h24=>?_) (fun h24=>?_)
   ·try simp only [decide_eq_true_eq] at h24
    try simp only [zds] at h24
    have hil : i < s.length:=(by omega);obtain ⟨hLi,hfe⟩:=took hL hf hil;have hsn:=plays_snoc L hil;have hin:=idsT_snoc L s i;have hilen:=idsT_len L s i;refine qM ?_;refine qC ?_;refine qN ?_;refine qC ?_;refine qB ?_;refine zai (by first|omega|assumption|decide|(simp only [zds];omega)|(simp <;> omega)) ?_;refine qC ?_;rcases one_cases (κ:=κ') hLi (by omega) (s.getD i ((0 : Int),(0 : Int),([] : List Fld))) hfe with ⟨hz,ho⟩|⟨n,hn,hz,ho⟩|⟨a,n,hn,hz,ho⟩
    ·refine qB ?_;refine Or.inr (Or.inl (zei [] (zei [1,0] (zei _ (zei _ (zei _ (zei _ (zei _ (zai (ho) (zai rfl (zai (zai (zai rfl rfl) (zai (zai rfl rfl) True.intro)) (zai rfl ?_))))))))))));refine qC ?_;refine qC ?_;refine qB ?_;refine qK rfl (fun h35=>?_) (fun h35=>?_)
     ·try simp only [Bool.not_eq_true'] at h35
      try simp only [zds] at h35
      cases h35
     ·try simp only [Bool.not_eq_false'] at h35
      try simp only [zds] at h35
      refine qM ?_;refine qC ?_;refine qB ?_;refine qK rfl (fun h40=>?_) (fun h40=>?_)
      ·try simp only [decide_eq_true_eq] at h40
       try simp only [zds] at h40
       refine qB ?_;refine zai (by first|exact qQ (by first|omega|(simp only [List.length_cons,List.length_nil];omega)|(simp;omega)) (by decide)|omega|assumption|decide|(simp only [zds];omega)|(simp <;> omega)) ?_;refine qB ?_;refine zai (by first|omega|assumption|decide|(simp only [zds];omega)|(simp <;> omega)) ?_;exact ⟨i + 1,by omega,by first|omega|(simp <;> omega),qV ⟨rfl,rfl,rfl,rfl,(ii_eq (by omega))⟩ ⟨(lsvec_eq hsn),(lsbox0_eq hsn),(yN (by rw [hin,if_pos (by omega)];try exact rfl))⟩ rfl⟩
      ·try simp only [decide_eq_false_iff_not,Int.not_lt] at h40
       try simp only [zds] at h40
       refine qM ?_;refine qB ?_;refine zai (by first|omega|assumption|decide|(simp only [zds];omega)|(simp <;> omega)) ?_;exact ⟨i + 1,by omega,by first|omega|(simp <;> omega),qV ⟨rfl,rfl,rfl,rfl,(ii_eq (by omega))⟩ ⟨(lsvec_eq hsn),(lsbox0_eq hsn),(yN (by rw [hin,if_neg (by omega),List.append_nil]))⟩ rfl⟩
    ·refine qB ?_;refine Or.inr (Or.inl (zei [] (zei [1,0] (zei _ (zei _ (zei _ (zei _ (zei _ (zai (ho) (zai rfl (zai (zai (zai rfl rfl) (zai (zai rfl rfl) True.intro)) (zai rfl ?_))))))))))));refine qC ?_;refine qC ?_;refine qB ?_;refine qK rfl (fun h35=>?_) (fun h35=>?_)
     ·skip
      exact absurd ((ht i hil).symm.trans hz) (by omega)
     ·try simp only [zbq] at h35
      try simp only [zds] at h35
      simp at h35
    ·refine qB ?_;refine Or.inr (Or.inl (zei [] (zei [1,0] (zei _ (zei _ (zei _ (zei _ (zei _ (zai (ho) (zai rfl (zai (zai (zai rfl rfl) (zai (zai rfl rfl) True.intro)) (zai rfl ?_))))))))))));refine qC ?_;refine qC ?_;refine qB ?_;refine qK rfl (fun h35=>?_) (fun h35=>?_)
     ·skip
      exact absurd ((ht i hil).symm.trans hz) (by omega)
     ·try simp only [zbq] at h35
      try simp only [zds] at h35
      simp at h35
   ·try simp only [decide_eq_false_iff_not,Int.not_lt] at h24
    try simp only [zds] at h24
    refine xI ?_;refine qC ?_;refine qB ?_;refine acode_frz [2] ?_;refine qL ?_;rw [show i = s.length by omega];exact ⟨rfl,⟨rfl,rfl⟩,rfl⟩
def unkR (l : List (List Fld)) : List (List (Unit × Unit)):=l.map fun r=>r.map fun _=>((),())
def plainI (x : Itm) : Bool:=decide ((chkR x.2.2).2 = 0) && decide (x.1 = 3) && decide (bytes (foldL x.2.2) = x.2.1)
abbrev rItmU : Rd (Int × ByteArray × List (Unit × Unit)):=.st (.int .i64) (.st .str (.slk 7 rUnk2))
def unkI (l : List Itm) : List (Int × ByteArray × List (Unit × Unit)):=l.map fun x=>(x.1,x.2.1,x.2.2.map fun _=>((),()))
abbrev rStzU : Rd (Int × List (Unit × Unit)):=.st (.int .i64) (.slk 7 rUnk2)
def unkS (l : List Stz) : List (Int × List (Unit × Unit)):=l.map fun x=>(x.1,x.2.map fun _=>((),()))
def BlankI (x : Itm) : Prop:=∃ t : ByteArray,x = (1,t ++ ⟨#[10]⟩,[]) ∧ yC (ls t) = 1 ∧ (10 : UInt8) ∉ ls t
def Good1 (x : Itm) : Prop:=BlankI x ∨ (x.1 ≠ 1 ∧ Blk x)
def BIP (p : PSt) : Prop:=(∀ x ∈ p.its,x.1 = 1 → BlankI x) ∧ p.recs = (cntR p.its : Int)
theorem isRec1 (t : ByteArray) : isRec (1,t,[]) = false:=by unfold isRec;simp
theorem close_bi {p : PSt} (h : BIP p) : BIP (xF p):=by
  unfold xF;split
  · exact h
  · by_cases hf : p.flds = []
    · simp only [if_pos hf];refine ⟨fun x hx hx1=>?_,?_⟩
      · rcases List.mem_append.1 hx with hx|hx
        · exact h.1 x hx hx1
        · rw [List.mem_singleton.1 hx] at hx1;cases hx1
      · simp only [cntR_app];rw [h.2];simp [cntR,isRec]
    · simp only [if_neg hf];refine ⟨fun x hx hx1=>?_,?_⟩
      · rcases List.mem_append.1 hx with hx|hx
        · exact h.1 x hx hx1
        · rw [List.mem_singleton.1 hx] at hx1;cases hx1
      · simp only [cntR_app];rw [h.2];simp [cntR,isRec]
theorem flush_bi {p q : PSt} (h : BIP p) (hf : yH p = .inr q) : BIP q:=by
  unfold BIP;rw [(flush_same hf).1,flush_recs hf];exact h
theorem end_bi {p q : PSt} (h : BIP p) (hf : endS p = .inr q) : BIP q:=by
  unfold endS at hf;cases e : yH p with
  | inl x=>rw [e] at hf;cases hf
  | inr r=>rw [e] at hf;cases hf;exact close_bi (flush_bi h e)
theorem take_bi {p q : PSt} {l : Lne} (h : BIP p) (hf : yL p l = .inr q) (hn : (10 : UInt8) ∉ ls l.2.2.1) : BIP q:=by
  unfold yL at hf;cases e : yI p l (yC (ls l.2.2.1)) with
  | inl x=>rw [e] at hf;cases hf
  | inr r =>
    rw [e] at hf;have hr : BIP r:=by
      unfold yI at e;split at e
      · split at e
        · cases e
        · split at e
          · cases e;exact h
          · exact flush_bi (p:={ p with lns:=p.lns ++ [l.2.2.1] }) h e
      · split at e
        · exact end_bi h e
        · exact flush_bi h e
    simp only at hf;unfold lineS at hf;split at hf
    · cases hf
    · split at hf
      · rename_i hk;cases hf;refine ⟨fun x hx hx1=>?_,?_⟩
        · rcases List.mem_append.1 hx with hx|hx
          · exact hr.1 x hx hx1
          · exact ⟨l.2.2.1,List.mem_singleton.1 hx,hk,hn⟩
        · simp only [cntR_app];rw [hr.2];simp [cntR,isRec1]
      · split at hf
        · cases hf;exact hr
        · cases hf;exact hr
theorem run_bi : ∀ (L : List Lne) (p q : PSt),BIP p → runS p L = .inr q → (∀ l ∈ L,(10 : UInt8) ∉ ls l.2.2.1) → BIP q
  | [],p,q,hp,h,_=>by cases h;exact hp
  | l :: r,p,q,hp,h,hn=>by
    simp only [runS] at h;cases e : yL p l with
    | inl x=>rw [e] at h;cases h
    | inr p1 =>
      rw [e] at h;exact run_bi r p1 q (take_bi hp e (hn l List.mem_cons_self)) h (fun x hx=>hn x (List.mem_cons_of_mem _ hx))
theorem parse_good {s : ByteArray} {l : List Itm} (hp : yJ s = .inr l) : (∀ x ∈ l,Good1 x) ∧ cntR l ≤ 400:=by
  have hb:=parse_blks hp;unfold yJ at hp;cases e : runS pst0 (yR s) with
  | inl x=>rw [e] at hp;cases hp
  | inr p =>
    rw [e] at hp;simp only at hp;cases e2 : endS p with
    | inl x=>rw [e2] at hp;cases hp
    | inr q =>
      rw [e2] at hp;cases hp;have hno : ∀ l ∈ yR s,(10 : UInt8) ∉ ls l.2.2.1:=fun l hl=>by
        have h1 : l.2.2 ∈ (yR s).map (·.2.2):=List.mem_map_of_mem hl;rw [lines_text] at h1;exact linesB_no _ _ _ h1
      have h1 : BIP q:=end_bi (run_bi _ _ _ ⟨(fun _ h=>by cases h),rfl⟩ e hno) e2;have h2:=(end_par (run_par _ _ _ ⟨[],0,[],pst0,rel_0,rfl,rfl,rfl,(fun _ h=>by cases h),(fun _ h=>by cases h)⟩ e hno) e2).2.2.2;refine ⟨fun x hx=>?_,by have:=h1.2;omega⟩
      by_cases hx1 : x.1 = 1
      · exact .inl (h1.1 x hx hx1)
      · exact .inr ⟨hx1,hb x hx hx1⟩
def HF (p : PSt) : Prop:=p.lns ≠ [] ∨ p.flds ≠ []
structure LGd (B : Nat) (L : Lst) : Prop where
  good : ∀ e ∈ L.1,Good1 e.1 ∧ isRec e.1 = live e
  m4 : L.2.2 ≤ 400
  sz : szI (itmL L.1) ≤ B
theorem num_good : ∀ (l : List Itm) (n : Int),1 ≤ n → (∀ x ∈ l,Good1 x) → ∀ e ∈ numI n l,Good1 e.1 ∧ isRec e.1 = live e
  | [],_,_,_,e,he=>by cases he
  | x :: r,n,hn,hg,e,he=>by
    unfold numI at he;split at he
    · rename_i hr;rcases List.mem_cons.1 he with rfl|he
      · refine ⟨hg x List.mem_cons_self,?_⟩;rw [hr];unfold live;rw [decide_eq_true (by simp only;omega)]
      · exact num_good r (n + 1) (by omega) (fun y hy=>hg y (List.mem_cons_of_mem _ hy)) e he
    · rename_i hr;rcases List.mem_cons.1 he with rfl|he
      · refine ⟨hg x List.mem_cons_self,?_⟩;rw [hr];rfl
      · exact num_good r n hn (fun y hy=>hg y (List.mem_cons_of_mem _ hy)) e he
theorem ofT_gd {s : ByteArray} {l : List Itm} (hp : yJ s = .inr l) : LGd s.size (ofT l):=by
  obtain ⟨h1,h2⟩:=parse_good hp;refine ⟨num_good l 1 (Int.le_refl _) h1,by show (cntR l : Int) ≤ 400;omega,?_⟩;show szI (itmL (numI 1 l)) ≤ _;unfold itmL;rw [numI_items];have h3:=raws_text hp;rw [← raws_sz,← h3,yV];exact Nat.le_refl _
abbrev zRL9 : List C:=[.lit (.slice none 0 0),.lit (.int .i64 0)]
abbrev lsO12 (L : Lst) : Obs:=[(1,.box 116 [.vec 2,.lit (.int .i64 L.2.1),.lit (.int .i64 L.2.2)]),(2,.vec 111 rEnt L.1)]
def alS : List Edt:=[(2,1,[]),(1,1,[(⟨#[65]⟩,ByteArray.empty)])]
def clear (next : Int) (a b : List Edt) : Prop:=∀ x ∈ b,x.2.1 < next → clsh a x = false
def whole (next : Int) (a b : List Edt) : Prop:=∀ x ∈ b,¬ (x.2.1 < next ∧ x.1 = 2 ∧ delA a x.2.1 = true)
def fullAt (Y : Lst) (s : List Edt) : Prop:=∃ q,q < s.length ∧ oneN (xC Y s q) (s.getD q ((0 : Int),(0 : Int),([] : List Fld))) = 11 ∧ (∀ j,j < q → oneN (xC Y s j) (s.getD j ((0 : Int),(0 : Int),([] : List Fld))) = 0) ∧ 400 ≤ (xC Y s q).2.2
theorem full_cons {Y : Lst} {y : Edt} {s : List Edt} (h0 : oneN Y y = 0) (h : fullAt (doL Y y) s) : fullAt Y (y :: s):=by
  obtain ⟨q,h1,h2,h3,h4⟩:=h;refine ⟨q + 1,by simpa using h1,h2,fun j hj=>?_,h4⟩;cases j with
  | zero=>exact h0
  | succ j=>exact h3 j (by omega)
def apartB (next : Int) (a b : List Edt) : Prop:=(∀ x ∈ b,x.2.1 < next → (x.1 ≠ 3 → tchA a x.2.1 = false) ∧ delA a x.2.1 = false) ∧ ∀ x ∈ a,x.2.1 < next → delA b x.2.1 = false
def edW : List Int → List Stz → List (List Fld) → Int → Int → List Edt
  | [],_,_,_,_=>[]
  | s :: w,o,r,b,n =>
    if s = 1 then edW w o.tail r.tail (o.headD ((0 : Int),([] : List Fld))).1 n
    else if s = 2 then (1,(o.headD ((0 : Int),([] : List Fld))).1,r.headD []) :: edW w o.tail r.tail (o.headD ((0 : Int),([] : List Fld))).1 n
    else if s = 3 then (2,(o.headD ((0 : Int),([] : List Fld))).1,[]) :: edW w o.tail r b n
    else (3,b,r.headD []) :: edW w o r.tail n (n + 1)
theorem edW_len : ∀ (w : List Int) (o : List Stz) (r : List (List Fld)) (b n : Int),(edW w o r b n).length = Dif.cnt w
  | [],_,_,_,_=>rfl
  | s :: w,o,r,b,n=>by
    unfold edW;have hc : Dif.cnt (s :: w) = if s = 1 then Dif.cnt w else Dif.cnt w + 1:=by
      unfold Dif.cnt;rw [List.filter_cons]
      by_cases h : s = 1
      · rw [if_pos h,if_neg (by simpa using h)]
      · rw [if_neg h,if_pos (by simpa using h),List.length_cons]
    rw [hc];split
    · exact edW_len w _ _ _ _
    · split
      · rw [List.length_cons,edW_len w]
      · split <;> rw [List.length_cons,edW_len w]
theorem edW_good : ∀ (w : List Int) (o : List Stz) (r : List (List Fld)) (b n : Int),Dif.Al w (o.map (·.2)) r → (∀ f ∈ r,yA f ∧ (chkR f).2 = 0) → ∀ e ∈ edW w o r b n,goodN e = 0 ∧ yA e.2.2
  | [],_,_,_,_,_,_,e,he=>by cases he
  | s :: w,o,r,b,n,h,hr,e,he=>by
    unfold edW at he;rcases h with ⟨rfl,x,us,vs,hx,rfl,h⟩|⟨rfl,x,y,us,vs,hx,rfl,h⟩|⟨rfl,x,us,hx,h⟩|⟨rfl,y,vs,rfl,h⟩
    · obtain ⟨a,o',rfl,_,rfl⟩:=List.map_eq_cons_iff.1 hx;rw [if_pos rfl] at he;exact edW_good w o' vs _ _ h (fun f hf=>hr f (List.mem_cons_of_mem _ hf)) e he
    · obtain ⟨a,o',rfl,_,rfl⟩:=List.map_eq_cons_iff.1 hx;rw [if_neg (by decide),if_pos rfl] at he;rcases List.mem_cons.1 he with rfl|he
      · obtain ⟨h1,h2⟩:=hr y List.mem_cons_self;refine ⟨?_,h1⟩;unfold goodN;rw [if_neg (show ¬ (1 : Int) = 2 by decide),if_pos (.inl rfl)];exact h2
      · exact edW_good w o' vs _ _ h (fun f hf=>hr f (List.mem_cons_of_mem _ hf)) e he
    · obtain ⟨a,o',rfl,_,rfl⟩:=List.map_eq_cons_iff.1 hx;rw [if_neg (by decide),if_neg (by decide),if_pos rfl] at he;rcases List.mem_cons.1 he with rfl|he
      · exact ⟨rfl,Nat.zero_le _,fun f hf=>by cases hf⟩
      · exact edW_good w o' r _ _ h hr e he
    · rw [if_neg (by decide),if_neg (by decide),if_neg (by decide)] at he;rcases List.mem_cons.1 he with rfl|he
      · obtain ⟨h1,h2⟩:=hr y List.mem_cons_self;refine ⟨?_,h1⟩;unfold goodN;rw [if_neg (show ¬ (3 : Int) = 2 by decide),if_pos (.inr rfl)];exact h2
      · exact edW_good w o vs _ _ h (fun f hf=>hr f (List.mem_cons_of_mem _ hf)) e he
theorem uniq : ∀ {A A' B B' : List Stz} {x x' : Stz},A ++ x :: B = A' ++ x' :: B' → x.1 = x'.1 → ((A ++ x :: B).map (·.1)).Nodup → A = A' ∧ x = x' ∧ B = B'
  | [],[],B,B',x,x',h,_,_=>⟨rfl,(List.cons.inj h).1,(List.cons.inj h).2⟩
  | [],a :: A',B,B',x,x',h,hx,hn=>by
    obtain ⟨_,h2⟩:=List.cons.inj h;rw [List.nil_append,List.map_cons] at hn;refine absurd ?_ (List.nodup_cons.1 hn).1;rw [h2,hx];exact List.mem_map_of_mem (List.mem_append_right _ List.mem_cons_self)
  | a :: A,[],B,B',x,x',h,hx,hn=>by
    obtain ⟨h1,h2⟩:=List.cons.inj h;rw [List.cons_append,List.map_cons] at hn;refine absurd ?_ (List.nodup_cons.1 hn).1;rw [show a = x' from h1,← hx];exact List.mem_map_of_mem (List.mem_append_right _ List.mem_cons_self)
  | a :: A,a' :: A',B,B',x,x',h,hx,hn=>by
    obtain ⟨h1,h2⟩:=List.cons.inj h;rw [List.cons_append,List.map_cons] at hn;obtain ⟨g1,g2,g3⟩:=uniq h2 hx (List.nodup_cons.1 hn).2;exact ⟨by rw [h1,g1],g2,g3⟩
theorem stz_nd {c : Nat} {L : Lst} (h : LOk c L) : ((stzL L.1).map (·.1)).Nodup:=by
  have e : (stzL L.1).map (·.1) = nmsL L.1:=by
    rw [← ids_eq];unfold stzL;rw [List.map_map];rfl
  rw [e];exact h.nd
theorem stz_split {c : Nat} {L : Lst} (h : LOk c L) {A B : List Stz} {id : Int} {g : List Fld} (hs : stzL L.1 = A ++ (id,g) :: B) : ∃ i : Nat,i < L.1.length ∧ ¬ atE L.1 id < 0 ∧ atE L.1 id = i ∧ 0 < id ∧ (L.1.getD i (((0 : Int),ByteArray.empty,([] : List Fld)),(0 : Int))).2 = id ∧ stzL (L.1.take i) = A ∧ stzL (L.1.drop (i + 1)) = B ∧ stzOf (L.1.getD i (((0 : Int),ByteArray.empty,([] : List Fld)),(0 : Int))) = (id,g):=by
  have hg : getF L id = some g:=(getF_iff h id g).2 (by rw [hs];exact List.mem_append_right _ List.mem_cons_self);have hn : ¬ atE L.1 id < 0:=(getF_pos h (by rw [hg];exact fun e=>by cases e)).2.2;obtain ⟨i,hi,he,hp,hid⟩:=at_lt hn;have hst : stzL L.1 = stzL (L.1.take i) ++ stzOf (L.1.getD i (((0 : Int),ByteArray.empty,([] : List Fld)),(0 : Int))) :: stzL (L.1.drop (i + 1)):=by
    conv=>lhs;rw [del_split hi,stz_app,stz_cons,if_pos (show live (L.1.getD i (((0 : Int),ByteArray.empty,([] : List Fld)),(0 : Int))) = true from decide_eq_true (by rw [hid];exact hp))]
  have hnd:=stz_nd h;rw [hst] at hnd;obtain ⟨g1,g2,g3⟩:=uniq (hst.symm.trans hs) hid hnd;exact ⟨i,hi,hn,he,hp,hid,g1,g3,g2⟩
theorem ord_rep {c : Nat} {L : Lst} (h : LOk c L) {A B : List Stz} {id : Int} {g f : List Fld} (hs : stzL L.1 = A ++ (id,g) :: B) (hc : (chkR f).2 = 0) :
    oneN L (1,id,f) = 0 ∧ stzL (doL L (1,id,f)).1 = A ++ (id,f) :: B ∧ (doL L (1,id,f)).2.1 = L.2.1:=by
  obtain ⟨i,hi,hn,he,hp,hid,hA,hB,_⟩:=stz_split h hs;have hd : doL L (1,id,f) = (replE L.1 i (itmOf f),L.2):=by
    unfold doL;rw [if_pos rfl,if_neg hn,if_neg (fun h=>h hc),he,Int.toNat_natCast]
  refine ⟨one_rep0 rfl hn hc,?_,by rw [hd]⟩;rw [hd];show stzL (replE L.1 i (itmOf f)) = _;unfold replE;rw [List.set_eq_take_append_cons_drop,if_pos hi,hid,stz_app,stz_cons,if_pos (show live (itmOf f,id) = true from decide_eq_true hp),hA,hB];rfl
theorem ord_del {c : Nat} {L : Lst} (h : LOk c L) {A B : List Stz} {id : Int} {g : List Fld} (hs : stzL L.1 = A ++ (id,g) :: B) :
    oneN L (2,id,[]) = 0 ∧ stzL (doL L (2,id,[])).1 = A ++ B ∧ (doL L (2,id,[])).2.1 = L.2.1:=by
  obtain ⟨i,hi,hn,he,hp,hid,hA,hB,_⟩:=stz_split h hs;have hd : doL L (2,id,[]) = (delE L.1 i,L.2.1,L.2.2 - 1):=by
    unfold doL;rw [if_neg (show ¬ (2 : Int) = 1 by decide),if_pos rfl,if_neg hn,he,Int.toNat_natCast]
  refine ⟨one_del0 rfl hn,?_,by rw [hd]⟩;rw [hd];show stzL (L.1.take i ++ L.1.drop (i + 1)) = _;rw [stz_app,hA,hB]
theorem ord_ins {c : Nat} {L : Lst} (h : LOk c L) {D o : List Stz} {b : Int} {f : List Fld} (hs : stzL L.1 = D ++ o) (hb : (D = [] ∧ b = 0) ∨ ∃ D' g,D = D' ++ [(b,g)]) (hc : (chkR f).2 = 0) :
    oneN L (3,b,f) = (if 400 ≤ L.2.2 then 11 else 0) ∧ (¬ 400 ≤ L.2.2 → stzL (doL L (3,b,f)).1 = D ++ (L.2.1,f) :: o ∧ (doL L (3,b,f)).2.1 = L.2.1 + 1):=by
  have hnx:=h.next;have hlv : live (itmOf f,L.2.1) = true:=decide_eq_true (by show 0 < L.2.1;omega);rcases hb with ⟨rfl,rfl⟩|⟨D',g,rfl⟩
  · have hat : atE L.1 0 = -1:=by unfold atE;rw [if_pos (by decide)]
    refine ⟨one_ins0 (show (3 : Int) ≠ 1 by decide) (show (3 : Int) ≠ 2 by decide) (.inl rfl) hc,fun h4=>?_⟩;have hd : doL L (3,0,f) = (insE L.1 0 (itmOf f,L.2.1),L.2.1 + 1,L.2.2 + 1):=by
      unfold doL;rw [if_neg (show ¬ (3 : Int) = 1 by decide),if_neg (show ¬ (3 : Int) = 2 by decide),if_neg (fun h=>h.2 rfl),if_neg (fun h=>h hc),if_neg h4,hat];rfl
    rw [hd];refine ⟨?_,rfl⟩;show stzL (L.1.take 0 ++ (itmOf f,L.2.1) :: L.1.drop 0) = _;rw [List.take_zero,List.drop_zero,List.nil_append,stz_cons,if_pos hlv,hs];rfl
  · rw [List.append_assoc,List.singleton_append] at hs;obtain ⟨i,hi,hn,he,hp,hid,hA,hB,hg⟩:=stz_split h hs;refine ⟨one_ins0 (show (3 : Int) ≠ 1 by decide) (show (3 : Int) ≠ 2 by decide) (.inr hn) hc,fun h4=>?_⟩;have hd : doL L (3,b,f) = (insE L.1 (i + 1) (itmOf f,L.2.1),L.2.1 + 1,L.2.2 + 1):=by
      unfold doL;rw [if_neg (show ¬ (3 : Int) = 1 by decide),if_neg (show ¬ (3 : Int) = 2 by decide),if_neg (fun h=>hn h.1),if_neg (fun h=>h hc),if_neg h4];show (insE L.1 (atE L.1 b + 1).toNat _,_) = _;rw [he];rfl
    rw [hd];refine ⟨?_,rfl⟩;show stzL (L.1.take (i + 1) ++ (itmOf f,L.2.1) :: L.1.drop (i + 1)) = _;have ht : L.1.take (i + 1) = L.1.take i ++ [L.1.getD i (((0 : Int),ByteArray.empty,([] : List Fld)),(0 : Int))]:=(xA (((0 : Int),ByteArray.empty,([] : List Fld)),(0 : Int)) hi).symm;rw [ht,stz_app,stz_app,stz_cons,stz_cons,if_pos hlv,if_pos (show live (L.1.getD i (((0 : Int),ByteArray.empty,([] : List Fld)),(0 : Int))) = true from decide_eq_true (by rw [hid];exact hp)),hA,hB,hg];rfl
theorem rows_stz (es : List Ent) : qX es = (stzL es).map (·.2):=rfl
theorem play : ∀ (w : List Int) {c : Nat} {L : Lst} {D o : List Stz} {r : List (List Fld)} {b : Int},LOk c L → stzL L.1 = D ++ o → ((D = [] ∧ b = 0) ∨ ∃ D' g,D = D' ++ [(b,g)]) → Dif.Al w (o.map (·.2)) r → (∀ f ∈ r,yA f ∧ (chkR f).2 = 0) →
    (takes L (edW w o r b L.2.1) ∧ qX (runL L (edW w o r b L.2.1)).1 = D.map (·.2) ++ r) ∨ fullAt L (edW w o r b L.2.1)
  | [],c,L,D,o,r,b,h,hs,hb,ha,hr=>by
    obtain ⟨h1,rfl⟩:=ha;obtain rfl : o = []:=List.map_eq_nil_iff.1 h1;refine .inl ⟨trivial,?_⟩;show qX L.1 = _;rw [rows_stz,hs,List.map_append];rfl
  | s :: w,c,L,D,o,r,b,h,hs,hb,ha,hr=>by
    unfold edW;rcases ha with ⟨rfl,x,us,vs,hx,rfl,ha⟩|⟨rfl,x,y,us,vs,hx,rfl,ha⟩|⟨rfl,x,us,hx,ha⟩|⟨rfl,y,vs,rfl,ha⟩
    · obtain ⟨⟨aid,af⟩,o',rfl,ha2,rfl⟩:=List.map_eq_cons_iff.1 hx;obtain rfl : af = x:=ha2;rw [if_pos rfl];have ih:=play w (D:=D ++ [(aid,af)]) (o:=o') (r:=vs) (b:=aid) h (by rw [hs,List.append_assoc];rfl) (.inr ⟨D,af,rfl⟩) ha (fun f hf=>hr f (List.mem_cons_of_mem _ hf));rw [List.map_append,List.append_assoc] at ih;exact ih
    · obtain ⟨⟨aid,af⟩,o',rfl,_,rfl⟩:=List.map_eq_cons_iff.1 hx;rw [if_neg (by decide),if_pos rfl];obtain ⟨hfy,hcy⟩:=hr y List.mem_cons_self;obtain ⟨g1,g2,g3⟩:=ord_rep (f:=y) h hs hcy;have ih:=play w (D:=D ++ [(aid,y)]) (o:=o') (r:=vs) (b:=aid) (doL_ok (e:=(1,aid,y)) h hfy) (by rw [g2,List.append_assoc];rfl) (.inr ⟨D,y,rfl⟩) ha (fun f hf=>hr f (List.mem_cons_of_mem _ hf));rw [g3,List.map_append,List.append_assoc] at ih;exact ih.imp (fun h=>⟨⟨g1,h.1⟩,h.2⟩) fun h=>full_cons g1 h
    · obtain ⟨⟨aid,af⟩,o',rfl,_,rfl⟩:=List.map_eq_cons_iff.1 hx;rw [if_neg (by decide),if_neg (by decide),if_pos rfl];obtain ⟨g1,g2,g3⟩:=ord_del h hs;have ih:=play w (D:=D) (o:=o') (r:=r) (b:=b) (doL_ok (e:=(2,aid,[])) h ⟨Nat.zero_le _,fun f hf=>by cases hf⟩) g2 hb ha hr;rw [g3] at ih;exact ih.imp (fun h=>⟨⟨g1,h.1⟩,h.2⟩) fun h=>full_cons g1 h
    · rw [if_neg (by decide),if_neg (by decide),if_neg (by decide)];obtain ⟨hfy,hcy⟩:=hr y List.mem_cons_self;obtain ⟨g1,g2⟩:=ord_ins (f:=y) h hs hb hcy
      by_cases h4 : 400 ≤ L.2.2
      · rw [if_pos h4] at g1;exact .inr ⟨0,by simp,g1,fun j hj=>absurd hj (Nat.not_lt_zero _),h4⟩
      · rw [if_neg h4] at g1;obtain ⟨g2,g3⟩:=g2 h4;have ih:=play w (D:=D ++ [(L.2.1,y)]) (o:=o) (r:=vs) (b:=L.2.1) (doL_ok (e:=(3,b,y)) h hfy) (by rw [g2,List.append_assoc];rfl) (.inr ⟨D,y,rfl⟩) ha (fun f hf=>hr f (List.mem_cons_of_mem _ hf));rw [g3,List.map_append,List.append_assoc] at ih;exact ih.imp (fun h=>⟨⟨g1,h.1⟩,h.2⟩) fun h=>full_cons g1 h
def edsL (L : Lst) (rows : List (List Fld)) : List Edt:=edW (Dif.wayOf (qX L.1) rows) (stzL L.1) rows 0 L.2.1
theorem eds_len (L : Lst) (rows : List (List Fld)) : (edsL L rows).length = Dif.dist (qX L.1) rows:=by
  unfold edsL;rw [edW_len,(Dif.way_al _ _).2]
theorem eds_play {c : Nat} {L : Lst} (h : LOk c L) {rows : List (List Fld)} (hr : ∀ f ∈ rows,yA f ∧ (chkR f).2 = 0) :
    (takes L (edsL L rows) ∧ qX (runL L (edsL L rows)).1 = rows) ∨ fullAt L (edsL L rows) :=
  play (Dif.wayOf (qX L.1) rows) (D:=[]) (o:=stzL L.1) h rfl (.inl ⟨rfl,rfl⟩) (Dif.way_al _ _).1 hr
theorem eds_good {L : Lst} {rows : List (List Fld)} (hr : ∀ f ∈ rows,yA f ∧ (chkR f).2 = 0) : ∀ e ∈ edsL L rows,goodN e = 0 ∧ yA e.2.2:=edW_good _ _ _ _ _ (Dif.way_al _ _).1 hr
theorem eds_none {L : Lst} {rows : List (List Fld)} : (edsL L rows) = [] ↔ qX L.1 = rows:=by
  rw [← List.length_eq_zero_iff,eds_len,Dif.dist_zero]
structure GC (p : PSt) : Prop where
  flds : ∀ f ∈ p.flds,yO f = 0
  its : ∀ x ∈ p.its,x.1 = 3 → x.2.2 ≠ [] ∧ ∀ f ∈ x.2.2,yO f = 0
theorem flush_gc {p q : PSt} (h : GC p) (hf : yH p = .inr q) : GC q:=by
  unfold yH at hf;split at hf
  · cases hf;exact h
  · split at hf
    · cases hf
    · rename_i hz;split at hf
      · cases hf
      · cases hf;refine ⟨fun f hf=>?_,h.its⟩;rcases List.mem_append.1 hf with hf|hf
        · exact h.flds f hf
        · rw [List.mem_singleton.1 hf];rcases unf_cases (p.lns.map ls) with ⟨n,hn,e⟩|⟨k,v,e,hk,hv⟩
          · rw [e] at hz;exact absurd (Classical.not_not.1 hz) (by show ¬ n = 0;omega)
          · rw [e,check_kv k v hk,if_neg (by omega)]
theorem close_gc {q : PSt} (h : GC q) : GC (xF q):=by
  unfold xF;split
  · exact ⟨fun f hf=>(by cases hf),h.its⟩
  · refine ⟨fun f hf=>(by cases hf),fun x hx h3=>?_⟩;rcases List.mem_append.1 hx with hx|hx
    · exact h.its x hx h3
    · rw [List.mem_singleton.1 hx] at h3 ⊢
      by_cases hn : q.flds = []
      · simp only [if_pos hn] at h3;cases h3
      · exact ⟨hn,h.flds⟩
theorem end_gc {p q : PSt} (h : GC p) (hf : endS p = .inr q) : GC q:=by
  unfold endS at hf;split at hf
  · cases hf
  · rename_i r e;cases hf;exact close_gc (flush_gc h e)
theorem ahead_gc {p q : PSt} {l : Lne} {k : Int} (h : GC p) (hf : yI p l k = .inr q) : GC q:=by
  unfold yI at hf;split at hf
  · split at hf
    · cases hf
    · have h2 : GC { p with lns:=p.lns ++ [l.2.2.1] }:=⟨h.flds,h.its⟩;split at hf
      · cases hf;exact h2
      · exact flush_gc h2 hf
  · split at hf
    · exact end_gc h hf
    · exact flush_gc h hf
theorem line_gc {p q : PSt} {l : Lne} {k : Int} (h : GC p) (hf : lineS p l k = .inr q) : GC q:=by
  unfold lineS at hf;split at hf
  · cases hf
  · split at hf
    · cases hf;refine ⟨h.flds,fun x hx h3=>?_⟩;rcases List.mem_append.1 hx with hx|hx
      · exact h.its x hx h3
      · rw [List.mem_singleton.1 hx] at h3;cases h3
    · split at hf
      · cases hf;exact ⟨h.flds,h.its⟩
      · cases hf;exact ⟨h.flds,h.its⟩
theorem run_gc : ∀ (L : List Lne) {p q : PSt},GC p → runS p L = .inr q → GC q
  | [],p,q,h,hf=>by cases hf;exact h
  | l :: r,p,q,h,hf=>by
    unfold runS at hf;split at hf
    · cases hf
    · rename_i t e;refine run_gc r ?_ hf;unfold yL at e;split at e
      · cases e
      · rename_i u e2;exact line_gc (ahead_gc h e2) e
theorem items_chk {s : ByteArray} {l : List Itm} (hp : yJ s = .inr l) : ∀ x ∈ l,x.1 = 3 → yA x.2.2 ∧ (chkR x.2.2).2 = 0:=by
  intro x hx h3;have hg : x.2.2 ≠ [] ∧ ∀ f ∈ x.2.2,yO f = 0:=by
    unfold yJ at hp;split at hp
    · cases hp
    · rename_i p e;split at hp
      · cases hp
      · rename_i q e2;cases hp;exact (end_gc (run_gc _ ⟨fun f hf=>(by cases hf),fun x hx=>(by cases hx)⟩ e) e2).its x hx h3
  obtain ⟨h1,h2⟩:=items_small hp x hx;refine ⟨fldsOk_of h1 h2,?_⟩;unfold chkR;rw [if_neg hg.1,if_neg (by omega),badAt_no x.2.2 0 hg.2]
theorem num_rec : ∀ (l : List Itm) (n : Int),1 ≤ n → ∀ e ∈ numI n l,0 < e.2 → e.1 ∈ l ∧ e.1.1 = 3
  | [],_,_,e,he,_=>by cases he
  | x :: r,n,hn,e,he,hp=>by
    unfold numI at he;split at he
    · rename_i h;rcases List.mem_cons.1 he with rfl|he
      · exact ⟨List.mem_cons_self,of_decide_eq_true h⟩
      · obtain ⟨h1,h2⟩:=num_rec r (n + 1) (by omega) e he hp;exact ⟨List.mem_cons_of_mem _ h1,h2⟩
    · rcases List.mem_cons.1 he with rfl|he
      · exact absurd hp (by show ¬ (0 : Int) < 0;decide)
      · obtain ⟨h1,h2⟩:=num_rec r n hn e he hp;exact ⟨List.mem_cons_of_mem _ h1,h2⟩
theorem rows_chk {s : ByteArray} {l : List Itm} (hp : yJ s = .inr l) : ∀ f ∈ qX (ofT l).1,yA f ∧ (chkR f).2 = 0:=by
  intro f hf;unfold qX stzL at hf;rw [List.map_map] at hf;obtain ⟨e,he,rfl⟩:=List.mem_map.1 hf;obtain ⟨h1,h2⟩:=List.mem_filter.1 he;obtain ⟨h3,h4⟩:=num_rec l 1 (Int.le_refl _) e h1 (of_decide_eq_true h2);exact items_chk hp e.1 h3 h4
theorem drow_len {c : Nat} {L : Lst} (h : LOk c L) : ((qX L.1).length : Int) = L.2.2:=by
  have h1:=h.many;have h2:=ids_len L.1;rw [rows_stz,List.length_map];unfold stzL;rw [List.length_map];omega
theorem drow_flds {c : Nat} {L : Lst} (h : LOk c L) : ∀ f ∈ qX L.1,yA f:=by
  intro f hf;rw [rows_stz] at hf;unfold stzL at hf;rw [List.map_map] at hf;obtain ⟨e,he,rfl⟩:=List.mem_map.1 hf;exact h.flds e (List.mem_filter.1 he).1
theorem eds_chk {L : Lst} {rows : List (List Fld)} (hr : ∀ f ∈ rows,yA f ∧ (chkR f).2 = 0) (h1 : edsL L rows ≠ []) (h2 : ¬ 40 < (edsL L rows).length) : (chkB (edsL L rows)).2 = 0:=by
  rw [chkB_no (fun h=>h.elim (fun h=>h1 (List.length_eq_zero_iff.1 (by omega))) h2) fun e he=>(eds_good hr e he).1]
theorem eds_fullDo {L : Lst} {s : List Edt} (h1 : (chkB s).2 = 0) (h : fullAt L s) : ∃ q : Nat,doR L s = ((q : Int),11):=by
  obtain ⟨q,hq,h11,hlt,_⟩:=h;rcases doR_cases L s h1 with ⟨_,h4⟩|⟨i,hi,h3,h4,h5⟩
  · rw [h4 q hq] at h11;cases h11
  · have e : i = q:=by
      rcases Nat.lt_trichotomy i q with h|h|h
      · exact absurd (hlt i h) h4
      · exact h
      · rw [h5 q h] at h11;cases h11
    subst e;exact ⟨i,by rw [h3,h11]⟩
theorem al_len : ∀ {w : List Int} {xs ys : List (List Fld)},Dif.Al w xs ys → w.length ≤ xs.length + ys.length
  | [],_,_,_=>Nat.zero_le _
  | s :: w,xs,ys,h=>by
    rcases h with ⟨_,x,us,vs,rfl,rfl,h⟩|⟨_,x,y,us,vs,rfl,rfl,h⟩|⟨_,x,us,rfl,h⟩|⟨_,y,vs,rfl,h⟩ <;> (have:=al_len h;simp only [List.length_cons] at *;omega)
abbrev StD:=List Stz × List (List Fld) × Int × Int × List Edt
def tkD (s : Int) (x : StD) : StD :=
  if s = 1 then (x.1.tail,x.2.1.tail,(x.1.headD ((0 : Int),([] : List Fld))).1,x.2.2.2.1,x.2.2.2.2)
  else if s = 2 then (x.1.tail,x.2.1.tail,(x.1.headD ((0 : Int),([] : List Fld))).1,x.2.2.2.1,x.2.2.2.2 ++ [(1,(x.1.headD ((0 : Int),([] : List Fld))).1,x.2.1.headD [])])
  else if s = 3 then (x.1.tail,x.2.1,x.2.2.1,x.2.2.2.1,x.2.2.2.2 ++ [(2,(x.1.headD ((0 : Int),([] : List Fld))).1,[])])
  else (x.1,x.2.1.tail,x.2.2.2.1,x.2.2.2.1 + 1,x.2.2.2.2 ++ [(3,x.2.2.1,x.2.1.headD [])])
def runD (w : List Int) (x : StD) : StD:=w.foldl (fun x s=>tkD s x) x
def may (s : Int) (x : StD) : Prop :=
  (s = 1 ∧ ∃ a o f r,x.1 = a :: o ∧ x.2.1 = f :: r) ∨ (s = 2 ∧ ∃ a o f r,x.1 = a :: o ∧ x.2.1 = f :: r) ∨ (s = 3 ∧ ∃ a o,x.1 = a :: o) ∨ (s = 4 ∧ ∃ f r,x.2.1 = f :: r)
structure InD (rows : List (List Fld)) (n0 : Int) (es : List Edt) (w : List Int) (j : Nat) (x : StD) : Prop where
  al : Dif.Al w (x.1.map (·.2)) x.2.1
  out : x.2.2.2.2 ++ edW w x.1 x.2.1 x.2.2.1 x.2.2.2.1 = es
  len : x.2.2.2.2.length ≤ j
  next : n0 ≤ x.2.2.2.1 ∧ x.2.2.2.1 ≤ n0 + (j : Int)
  rows : ∀ f ∈ x.2.1,f ∈ rows
theorem inD_step {rows : List (List Fld)} {n0 : Int} {es : List Edt} {s : Int} {w : List Int} {j : Nat} {x : StD} (h : InD rows n0 es (s :: w) j x) : may s x ∧ InD rows n0 es w (j + 1) (tkD s x):=by
  obtain ⟨o,r,b,n,out⟩:=x;obtain ⟨hal,hout,hlen,hnx,hrw⟩:=h;unfold edW at hout;rcases hal with ⟨rfl,x,us,vs,hx,hy,hal⟩|⟨rfl,x,y,us,vs,hx,hy,hal⟩|⟨rfl,x,us,hx,hal⟩|⟨rfl,y,vs,hy,hal⟩
  · obtain ⟨a,o',ho,_,rfl⟩:=List.map_eq_cons_iff.1 hx;simp only at ho hy;subst ho hy;exact ⟨.inl ⟨rfl,a,o',x,vs,rfl,rfl⟩,hal,hout,Nat.le_succ_of_le hlen,⟨hnx.1,by have:=hnx.2;show n ≤ _;simp only at this;omega⟩,fun f hf=>hrw f (List.mem_cons_of_mem _ hf)⟩
  · obtain ⟨a,o',ho,_,rfl⟩:=List.map_eq_cons_iff.1 hx;simp only at ho hy;subst ho hy;rw [if_neg (show ¬ (2 : Int) = 1 by decide),if_pos rfl] at hout;refine ⟨.inr (.inl ⟨rfl,a,o',y,vs,rfl,rfl⟩),hal,?_,?_,⟨hnx.1,by have:=hnx.2;show n ≤ _;simp only at this;omega⟩,fun f hf=>hrw f (List.mem_cons_of_mem _ hf)⟩
    · show (out ++ [_]) ++ _ = _;rw [List.append_assoc];exact hout
    · show (out ++ [_]).length ≤ _;rw [List.length_append];exact Nat.succ_le_succ hlen
  · obtain ⟨a,o',ho,_,rfl⟩:=List.map_eq_cons_iff.1 hx;simp only at ho;subst ho;rw [if_neg (show ¬ (3 : Int) = 1 by decide),if_neg (show ¬ (3 : Int) = 2 by decide),if_pos rfl] at hout;refine ⟨.inr (.inr (.inl ⟨rfl,a,o',rfl⟩)),hal,?_,?_,⟨hnx.1,by have:=hnx.2;show n ≤ _;simp only at this;omega⟩,hrw⟩
    · show (out ++ [_]) ++ _ = _;rw [List.append_assoc];exact hout
    · show (out ++ [_]).length ≤ _;rw [List.length_append];exact Nat.succ_le_succ hlen
  · simp only at hy;subst hy;rw [if_neg (show ¬ (4 : Int) = 1 by decide),if_neg (show ¬ (4 : Int) = 2 by decide),if_neg (show ¬ (4 : Int) = 3 by decide)] at hout;refine ⟨.inr (.inr (.inr ⟨rfl,y,vs,rfl⟩)),hal,?_,?_,⟨by have:=hnx.1;show n0 ≤ n + 1;simp only at this;omega,by have:=hnx.2;show n + 1 ≤ _;simp only at this;omega⟩,fun f hf=>hrw f (List.mem_cons_of_mem _ hf)⟩
    · show (out ++ [_]) ++ _ = _;rw [List.append_assoc];exact hout
    · show (out ++ [_]).length ≤ _;rw [List.length_append];exact Nat.succ_le_succ hlen
def stD0 (L : Lst) (rows : List (List Fld)) : StD:=(stzL L.1,rows,0,L.2.1,[])
theorem runD_take (w : List Int) (x : StD) {j : Nat} (h : j < w.length) : runD (w.take (j + 1)) x = tkD (w.getD j 0) (runD (w.take j) x):=by
  unfold runD;rw [← xA 0 h,List.foldl_append];rfl
theorem inD_at (L : Lst) (rows : List (List Fld)) : ∀ j,j ≤ (Dif.wayOf (qX L.1) rows).length → InD rows L.2.1 (edsL L rows) ((Dif.wayOf (qX L.1) rows).drop j) j (runD ((Dif.wayOf (qX L.1) rows).take j) (stD0 L rows))
  | 0,_=>⟨(Dif.way_al _ _).1,rfl,Nat.le_refl _,⟨Int.le_refl _,by show L.2.1 ≤ _;omega⟩,fun _ hf=>hf⟩
  | j + 1,h=>by
    have ih:=inD_at L rows j (by omega);rw [List.drop_eq_getElem_cons (show j < _ by omega)] at ih;rw [runD_take _ _ (show j < _ by omega)];rw [show (Dif.wayOf (qX L.1) rows).getD j 0 = (Dif.wayOf (qX L.1) rows)[j] by rw [List.getD_eq_getElem?_getD,List.getElem?_eq_getElem h];rfl];exact (inD_step ih).2
theorem may_at (L : Lst) (rows : List (List Fld)) {j : Nat} (h : j < (Dif.wayOf (qX L.1) rows).length) : may ((Dif.wayOf (qX L.1) rows).getD j 0) (runD ((Dif.wayOf (qX L.1) rows).take j) (stD0 L rows)):=by
  have ih:=inD_at L rows j (by omega);rw [List.drop_eq_getElem_cons (show j < _ by omega)] at ih;rw [show (Dif.wayOf (qX L.1) rows).getD j 0 = (Dif.wayOf (qX L.1) rows)[j] by rw [List.getD_eq_getElem?_getD,List.getElem?_eq_getElem h];rfl];exact (inD_step ih).1
theorem runD_all (L : Lst) (rows : List (List Fld)) : (runD (Dif.wayOf (qX L.1) rows) (stD0 L rows)).2.2.2.2 = edsL L rows:=by
  have h:=inD_at L rows _ (Nat.le_refl _);rw [List.drop_length,List.take_length] at h;have h2:=h.out;rw [show edW [] _ _ _ _ = ([] : List Edt) from rfl,List.append_nil] at h2;exact h2
end Q
end Ab
end Go.Proofs.YtpfkncffaanjcaaGreatDoor
namespace Go.Proofs.YtpfkncffaanjcaaGreatDoor
open Go.RowKit
set_option maxRecDepth 100000
namespace Dif
open Rdl
def wt (x : ByteArray × ByteArray) : Nat:=min x.1.size 10000 + min x.2.size 10000
def muchGo : Nat → Nat → Row → Bool
  | _,_,[]=>false
  | i,n,x :: r=>if 60 < i ∨ 6000 < n + wt x then true else muchGo (i + 1) (n + wt x) r
def muchB (xs : Row) : Bool:=muchGo 0 0 xs
abbrev lists : Rd (List (List Row)):=sl rows (by decide)
def muchL (l : List Row) : Bool:=decide (14 < l.length) || l.any muchB
def muchAll (ls : List (List Row)) : Bool:=ls.any muchL
theorem sl_new {α : Type} {R : Rd α} {w : World} {t : TypeId} (vs : Array Value) (xs : List α) (hn : R.n = 1) (hl : vs.size = xs.length) (hm : xs.length ≤ maxLen)
    (h : ∀ i (h : i < xs.length),∃ u,vs[i]? = some u ∧ R.rd all (w.alloc (.cells vs t)) [u] xs[i]) : Sl R all (w.alloc (.cells vs t)) (.slice (some ⟨w.heap.size,0,none⟩) xs.length xs.length) xs:=by
  refine ⟨_,xs.length,rfl,Nat.le_refl _,hm,fun i hi=>?_⟩;obtain ⟨u,hu,hr⟩:=h i hi;refine ⟨w.heap.size,0,[u],rfl,trivial,hr,fun j hj=>?_⟩;have hj0 : j = 0:=by omega
  subst hj0;rw [World.cell?_alloc_at _ _ _ _ rfl];simp [hn,hu]
theorem one_any (s : ByteArray) (hs : s.size ≤ maxLen) (w : World) :
    Calls Tryz.prog 72 #[.string s] w fun e w'=>∃ b,e = .returned (.slice (some ⟨b,0,none⟩) 1 1) ∧ Sl field all w' (.slice (some ⟨b,0,none⟩) 1 1) [(⟨#[65]⟩,s)] ∧ Below w.heap.size w w':=by
  go_enter Tryz.func72,Tryz.ntmps72
  go_wp2
  go_ret
  refine ⟨_,rfl,⟨_,1,rfl,Nat.le_refl _,by unfold maxLen;omega,fun i hi=>?_⟩,(Below.refl _ _).alloc (Nat.le_refl _) _⟩;obtain rfl : i = 0:=by simpa using hi
  refine ⟨_,0,[.string ⟨#[65]⟩,.string s],rfl,trivial,⟨[.string ⟨#[65]⟩],[.string s],rfl,⟨rfl,by show 1 ≤ maxLen;decide⟩,⟨rfl,hs⟩⟩,fun j hj=>?_⟩;rw [World.cell?_alloc_at _ _ _ _ rfl]
  match j,hj with
  | 0,_=>rfl
  | 1,_=>rfl
def by1 (c : UInt8) : ByteArray:=⟨#[c]⟩
def rowOf (c : UInt8) : Row:=[(⟨#[65]⟩,⟨#[c]⟩)]
abbrev aliveA : List Row:=[rowOf 97,rowOf 98,rowOf 99]
abbrev aliveB : List Row:=[rowOf 97,rowOf 120,rowOf 99,rowOf 100]
theorem alive_cst : cst (eqAt aliveA aliveB) aliveA.length aliveB.length = 2:=by decide +kernel
theorem alive_way : ((wayU (eqAt aliveA aliveB) (cst (eqAt aliveA aliveB)) (aliveA.length + aliveB.length) aliveA.length aliveB.length).map Int.ofNat).reverse = [1,2,1,4]:=by decide +kernel
theorem alive_any (w : World) : Calls Tryz.prog 37 #[] w fun e w'=>e = .returned (.bool true) ∧ Below w.heap.size w w':=by
  have H:=Lib.hid (fun (c : UInt8) (w : World)=>one_any ⟨#[c]⟩ (by show 1 ≤ maxLen;decide) w)
  go_enter Tryz.func37,Tryz.ntmps37
  go_wp2_with fail
  refine (H.out _ _).mono ?_
  rintro e w1 ⟨b1,rfl,s1,hb1⟩
  go_wp2_with fail
  refine (H.out _ _).mono ?_
  rintro e w2 ⟨b2,rfl,s2,hb2⟩
  go_wp2_with fail
  refine (H.out _ _).mono ?_
  rintro e w3 ⟨b3,rfl,s3,hb3⟩
  have hA:=sl_new (R:=fields) (w:=w3) (t:=44) #[.slice (some ⟨b1,0,none⟩) 1 1,.slice (some ⟨b2,0,none⟩) 1 1,.slice (some ⟨b3,0,none⟩) 1 1] aliveA rfl rfl (by decide) (fun i hi=>by
    have hal : Below w3.heap.size w3 (w3.alloc (.cells #[.slice (some ⟨b1,0,none⟩) 1 1,.slice (some ⟨b2,0,none⟩) 1 1,.slice (some ⟨b3,0,none⟩) 1 1] 44)):=(Below.refl _ _).alloc (Nat.le_refl _) _
    match i,hi with
    | 0,_=>exact ⟨_,rfl,_,rfl,((s1.below (by decide) hb2).below (by decide) hb3).below (by decide) hal⟩
    | 1,_=>exact ⟨_,rfl,_,rfl,(s2.below (by decide) hb3).below (by decide) hal⟩
    | 2,_=>exact ⟨_,rfl,_,rfl,s3.below (by decide) hal⟩)
  have hbA:=((hb1.trans (hb2.mono hb1.size)).trans (hb3.mono (Nat.le_trans hb1.size hb2.size))).alloc (Nat.le_trans hb1.size (Nat.le_trans hb2.size hb3.size)) (.cells #[.slice (some ⟨b1,0,none⟩) 1 1,.slice (some ⟨b2,0,none⟩) 1 1,.slice (some ⟨b3,0,none⟩) 1 1] 44);clear s1 s2 s3 hb1 hb2 hb3;have KA:=Lib.hid hA;clear hA
  go_wp2_with fail
  refine (H.out _ _).mono ?_
  rintro e w4 ⟨b4,rfl,s4,hb4⟩
  go_wp2_with fail
  refine (H.out _ _).mono ?_
  rintro e w5 ⟨b5,rfl,s5,hb5⟩
  go_wp2_with fail
  refine (H.out _ _).mono ?_
  rintro e w6 ⟨b6,rfl,s6,hb6⟩
  go_wp2_with fail
  refine (H.out _ _).mono ?_
  rintro e w7 ⟨b7,rfl,s7,hb7⟩
  have hB:=sl_new (R:=fields) (w:=w7) (t:=44) #[.slice (some ⟨b4,0,none⟩) 1 1,.slice (some ⟨b5,0,none⟩) 1 1,.slice (some ⟨b6,0,none⟩) 1 1,.slice (some ⟨b7,0,none⟩) 1 1] aliveB rfl rfl (by decide) (fun i hi=>by
    have hal : Below w7.heap.size w7 (w7.alloc (.cells #[.slice (some ⟨b4,0,none⟩) 1 1,.slice (some ⟨b5,0,none⟩) 1 1,.slice (some ⟨b6,0,none⟩) 1 1,.slice (some ⟨b7,0,none⟩) 1 1] 44)):=(Below.refl _ _).alloc (Nat.le_refl _) _
    match i,hi with
    | 0,_=>exact ⟨_,rfl,_,rfl,(((s4.below (by decide) hb5).below (by decide) hb6).below (by decide) hb7).below (by decide) hal⟩
    | 1,_=>exact ⟨_,rfl,_,rfl,((s5.below (by decide) hb6).below (by decide) hb7).below (by decide) hal⟩
    | 2,_=>exact ⟨_,rfl,_,rfl,(s6.below (by decide) hb7).below (by decide) hal⟩
    | 3,_=>exact ⟨_,rfl,_,rfl,s7.below (by decide) hal⟩)
  have hb47:=(((hb4.trans (hb5.mono hb4.size)).trans (hb6.mono (Nat.le_trans hb4.size hb5.size))).trans (hb7.mono (Nat.le_trans hb4.size (Nat.le_trans hb5.size hb6.size)))).alloc (Nat.le_trans hb4.size (Nat.le_trans hb5.size (Nat.le_trans hb6.size hb7.size))) (.cells #[.slice (some ⟨b4,0,none⟩) 1 1,.slice (some ⟨b5,0,none⟩) 1 1,.slice (some ⟨b6,0,none⟩) 1 1,.slice (some ⟨b7,0,none⟩) 1 1] 44);have hA:=KA.out.below (by decide) hb47;have hb9:=hbA.trans (hb47.mono hbA.size);clear s4 s5 s6 s7 hb4 hb5 hb6 hb7 KA hbA hb47;have HD:=Lib.hid (Distance_any _ _ _ _ _ hA hB (by decide) (by decide));rw [alive_cst] at HD;have HW:=Lib.hid (fun w' (hb : Below _ _ w')=>Way_any _ _ _ _ w' (hA.below (by decide) hb) (hB.below (by decide) hb) (by decide) (by decide));rw [alive_way] at HW;clear hA hB
  go_wp2_with fail
  generalize w7.alloc (.cells #[.slice (some ⟨b4,0,none⟩) 1 1,.slice (some ⟨b5,0,none⟩) 1 1,.slice (some ⟨b6,0,none⟩) 1 1,.slice (some ⟨b7,0,none⟩) 1 1] 44) = w9 at *
  refine HD.out.mono ?_
  rintro e w10 ⟨rfl,hb10⟩
  have HW:=Lib.hid (HW.out w10 hb10)
  go_wp2_with fail
  refine HW.out.mono ?_
  rintro e w11 ⟨v,rfl,hs,hb11⟩
  obtain ⟨a,cap,rfl,h1,h2,hcc⟩:=id hs;have hal : Below w11.heap.size w11 (w11.alloc (.cells #[.int .i64 1,.int .i64 2,.int .i64 1,.int .i64 4] 3)):=(Below.refl _ _).alloc (Nat.le_refl _) _;have hC:=sl_new (R:=int) (w:=w11) (t:=3) #[.int .i64 1,.int .i64 2,.int .i64 1,.int .i64 4] [1,2,1,4] rfl rfl (by decide) (fun i hi=>by
    match i,hi with
    | 0,_=>exact ⟨_,rfl,rfl,by simp,by simp⟩
    | 1,_=>exact ⟨_,rfl,rfl,by simp,by simp⟩
    | 2,_=>exact ⟨_,rfl,rfl,by simp,by simp⟩
    | 3,_=>exact ⟨_,rfl,rfl,by simp,by simp⟩)
  have HI:=Lib.hid (ints_any _ _ _ _ _ (hs.below (by decide) hal) hC);clear hs hcc hC
  go_wp2_with fail
  refine HI.out.mono ?_
  rintro e w12 ⟨rfl,n,rfl⟩
  go_wp2
  go_ret
  exact ⟨rfl,below_drewN (((hb9.trans (hb10.mono hb9.size)).trans (hb11.mono (Nat.le_trans hb9.size hb10.size))).trans (hal.mono (Nat.le_trans hb9.size (Nat.le_trans hb10.size hb11.size)))) n⟩
end Dif
end Go.Proofs.YtpfkncffaanjcaaGreatDoor
namespace Go.Proofs.YtpfkncffaanjcaaGreatDoor
open Go.RowKit
namespace Ab
set_option maxRecDepth 100000
namespace Q
theorem dalive_c : qU Tryz.prog 37 [] (ib true):=by
  refine ⟨⟨_,Tryz.func37,rfl,rfl⟩,fun ok w vs _ hvs=>?_⟩;rw [show vs = [] from hvs];exact (Dif.alive_any w).mono fun e w' ⟨he,hb⟩=>⟨_,he,hb,rfl⟩
def muchR (l : List (List Fld)) : Bool:=decide (14 < l.length) || l.any muchB
theorem rowsL_c {k : Nat} (es : List Ent) (n m : Int) (hl : es.length ≤ 1000000) (hf : ∀ e ∈ es,e.1.2.2.length ≤ 1000000) : qU Tryz.prog 43 [.one (.adk k (rLst k) (es,n,m))] (.one (.sl (.sl rFld) (qX es))):=by
  have hsl : (stzL es).length ≤ es.length:=by unfold stzL;rw [List.length_map];exact live_len es
  refine qT (rs:=[2]) Tryz.func43 rfl rfl rfl teOk rfl ?_;refine qC ?_;refine qB ?_;refine qC ?_;refine qB ?_;refine qC ?_;refine qC ?_;refine acode_nilvec 3 44 (.sl rFld) rfl ?_;refine qB ?_;refine Or.inl ?_;refine zai (rfl) ?_;refine zei _ (zai (stanzasL_c es n m hl hf) ?_);intro l2_2
  try simp only [zds] at l2_2
  refine qN ?_;refine yP (fun (i : Nat)=>i ≤ (stzL es).length) (fun (i : Nat)=>[(3,.one (.vec 0)),(7,.one (.sl rStz (stzL es))),(8,ii .i64 (stzL es).length),(9,ii .i64 i)]) (fun (i : Nat)=>[(0,.vec 44 (.sl rFld) (((stzL es).take i).map (·.2)))]) 1 (fun (i : Nat)=>(stzL es).length - i) 0 (Nat.zero_le _) (qV ⟨rfl,rfl,rfl,rfl⟩ rfl rfl) ?_;intro i hI0;refine qC ?_;refine qB ?_;refine qC ?_;refine qK rfl (fun h10=>?_) (fun h10=>?_)
  ·try simp only [decide_eq_true_eq] at h10
   try simp only [zds] at h10
   have hil : i < (stzL es).length:=(by omega);refine qM ?_;refine qC ?_;refine qN ?_;refine qC ?_;refine qB ?_;refine zai (by first|omega|assumption|decide|(simp only [zds];omega)|(simp <;> omega)) ?_;refine qB ?_;refine zai (by exact qQ (show (((stzL es).take i).map (·.2)).length + 1 ≤ 1000000000 by rw [List.length_map,List.length_take];omega) (by decide)) ?_;refine qB ?_;refine zai (by first|omega|assumption|decide|(simp only [zds];omega)|(simp <;> omega)) ?_;exact ⟨i + 1,by omega,by first|omega|(simp <;> omega),qV ⟨rfl,rfl,rfl,(ii_eq (by omega))⟩ (yN (by rw [← xA ((0 : Int),([] : List Fld)) hil,List.map_append];exact rfl)) rfl⟩
  ·try simp only [decide_eq_false_iff_not,Int.not_lt] at h10
   try simp only [zds] at h10
   refine xI ?_;refine qC ?_;refine qB ?_;refine qL ?_;rw [List.take_of_length_le (by omega)];exact rfl
def wkO (x : StD) : List (Nat × Ob):=[(0,.box 132 [.sl rStz x.1,.sl (.sl rFld) x.2.1,.lit (.int .i64 x.2.2.1),.lit (.int .i64 x.2.2.2.1),.vec 1]),(1,.vec 46 rEdt x.2.2.2.2)]
theorem wkb_eq {T : TypeId} {i : Nat} {o o' : List Stz} {r r' : List (List Fld)} {b b' n n' : Int} (h1 : o = o') (h2 : r = r') (h3 : b = b') (h4 : n = n') : some (Ob.box T [.sl rStz o,.sl (.sl rFld) r,.lit (.int .i64 b),.lit (.int .i64 n),.vec i]) = some (Ob.box T [.sl rStz o',.sl (.sl rFld) r',.lit (.int .i64 b'),.lit (.int .i64 n'),.vec i]):=by rw [h1,h2,h3,h4]
theorem take1_o (a : Stz) (o : List Stz) (f : List Fld) (r : List (List Fld)) (b n : Int) (out : List Edt) (hf : f.length ≤ 1000000) (hl : out.length ≤ 100000) : qR Tryz.prog 74 [.one (.own 0 0),ii .i64 1] (wkO (a :: o,f :: r,b,n,out)) 2 (.tup []) (wkO (o,r,a.1,n,out)) 2:=by
  refine qP (rs:=[]) Tryz.func74 rfl rfl rfl teOk (by decide) rfl ?_;refine qC ?_;refine qB ?_;refine qC ?_;refine qC ?_;refine qB ?_;refine qK rfl (fun h7=>?_) (fun h7=>?_)
  ·try simp only [decide_eq_false_iff_not,Bool.not_eq_true'] at h7
   try simp only [zds] at h7
   refine qC ?_;refine qB ?_;refine zai (by first|omega|assumption|decide|(simp only [];omega)|(simp <;> omega)) ?_;refine qB ?_;refine zai (by first|omega|assumption|decide|(simp only [];omega)|(simp <;> omega)) ?_;refine qC ?_;refine qB ?_;refine qC ?_;refine qC ?_;refine qB ?_;refine qK rfl (fun h24=>?_) (fun h24=>?_)
   ·try simp only [decide_eq_false_iff_not,Bool.not_eq_true'] at h24
    try simp only [zds] at h24
    refine qC ?_;refine qB ?_;refine zai (by first|omega|assumption|decide|(simp only [];omega)|(simp <;> omega)) ?_;refine Or.inl ?_;refine zai (rfl) ?_;refine zei _ (zai (clone_c _ hf) ?_);refine qB ?_;refine zai (by first|omega|assumption|decide|(simp only [];omega)|(simp <;> omega)) ?_;refine qC ?_;refine qC ?_;refine qB ?_;refine qN ?_;refine qC ?_;refine qB ?_;refine qK rfl (fun h41=>?_) (fun h41=>?_)
    ·try simp only [decide_eq_true_eq] at h41
     try simp only [zds] at h41
     simp at h41
    ·try simp only [decide_eq_false_iff_not] at h41
     try simp only [zds] at h41
     refine qC ?_;refine qB ?_;refine qK rfl (fun h55=>?_) (fun h55=>?_)
     ·try simp only [decide_eq_true_eq] at h55
      try simp only [zds] at h55
      simp at h55
     ·try simp only [decide_eq_false_iff_not] at h55
      try simp only [zds] at h55
      refine qC ?_;refine qB ?_;refine qK rfl (fun h68=>?_) (fun h68=>?_)
      ·try simp only [decide_eq_true_eq] at h68
       try simp only [zds] at h68
       simp at h68
      ·try simp only [decide_eq_false_iff_not] at h68
       try simp only [zds] at h68
       refine qM ?_;refine qB ?_;exact ⟨rfl,⟨wkb_eq rfl rfl rfl rfl,rfl⟩,rfl⟩
   ·try simp only [decide_eq_true_eq,Bool.not_eq_false'] at h24
    try simp only [zds] at h24
    simp at h24
  ·try simp only [decide_eq_true_eq,Bool.not_eq_false'] at h7
   try simp only [zds] at h7
   simp at h7
theorem take2_o (a : Stz) (o : List Stz) (f : List Fld) (r : List (List Fld)) (b n : Int) (out : List Edt) (hf : f.length ≤ 1000000) (hl : out.length ≤ 100000) : qR Tryz.prog 74 [.one (.own 0 0),ii .i64 2] (wkO (a :: o,f :: r,b,n,out)) 2 (.tup []) (wkO (o,r,a.1,n,out ++ [(1,a.1,f)])) 2:=by
  refine qP (rs:=[]) Tryz.func74 rfl rfl rfl teOk (by decide) rfl ?_;refine qC ?_;refine qB ?_;refine qC ?_;refine qC ?_;refine qB ?_;refine qK rfl (fun h7=>?_) (fun h7=>?_)
  ·try simp only [decide_eq_false_iff_not,Bool.not_eq_true'] at h7
   try simp only [zds] at h7
   refine qC ?_;refine qB ?_;refine zai (by first|omega|assumption|decide|(simp only [];omega)|(simp <;> omega)) ?_;refine qB ?_;refine zai (by first|omega|assumption|decide|(simp only [];omega)|(simp <;> omega)) ?_;refine qC ?_;refine qB ?_;refine qC ?_;refine qC ?_;refine qB ?_;refine qK rfl (fun h24=>?_) (fun h24=>?_)
   ·try simp only [decide_eq_false_iff_not,Bool.not_eq_true'] at h24
    try simp only [zds] at h24
    refine qC ?_;refine qB ?_;refine zai (by first|omega|assumption|decide|(simp only [];omega)|(simp <;> omega)) ?_;refine Or.inl ?_;refine zai (rfl) ?_;refine zei _ (zai (clone_c _ hf) ?_);refine qB ?_;refine zai (by first|omega|assumption|decide|(simp only [];omega)|(simp <;> omega)) ?_;refine qC ?_;refine qC ?_;refine qB ?_;refine qN ?_;refine qC ?_;refine qB ?_;refine qK rfl (fun h41=>?_) (fun h41=>?_)
    ·try simp only [decide_eq_true_eq] at h41
     try simp only [zds] at h41
     refine qB ?_;refine zai (by exact qQ (show out.length + 1 ≤ 1000000000 by omega) (by decide)) ?_;refine qB ?_;exact ⟨rfl,⟨wkb_eq rfl rfl rfl rfl,rfl⟩,rfl⟩
    ·try simp only [decide_eq_false_iff_not] at h41
     try simp only [zds] at h41
     simp at h41
   ·try simp only [decide_eq_true_eq,Bool.not_eq_false'] at h24
    try simp only [zds] at h24
    simp at h24
  ·try simp only [decide_eq_true_eq,Bool.not_eq_false'] at h7
   try simp only [zds] at h7
   simp at h7
theorem take3_o (a : Stz) (o : List Stz) (r : List (List Fld)) (b n : Int) (out : List Edt) (hl : out.length ≤ 100000) : qR Tryz.prog 74 [.one (.own 0 0),ii .i64 3] (wkO (a :: o,r,b,n,out)) 2 (.tup []) (wkO (o,r,b,n,out ++ [(2,a.1,[])])) 2:=by
  refine qP (rs:=[]) Tryz.func74 rfl rfl rfl teOk (by decide) rfl ?_;refine qC ?_;refine qB ?_;refine qC ?_;refine qC ?_;refine qB ?_;refine qK rfl (fun h7=>?_) (fun h7=>?_)
  ·try simp only [decide_eq_false_iff_not,Bool.not_eq_true'] at h7
   try simp only [zds] at h7
   refine qC ?_;refine qB ?_;refine zai (by first|omega|assumption|decide|(simp only [];omega)|(simp <;> omega)) ?_;refine qB ?_;refine zai (by first|omega|assumption|decide|(simp only [];omega)|(simp <;> omega)) ?_;refine qC ?_;refine qB ?_;refine qC ?_;refine qC ?_;refine qB ?_;refine qK rfl (fun h24=>?_) (fun h24=>?_)
   ·try simp only [decide_eq_false_iff_not,Bool.not_eq_true'] at h24
    try simp only [zds] at h24
    simp at h24
   ·try simp only [decide_eq_true_eq,Bool.not_eq_false'] at h24
    try simp only [zds] at h24
    refine qM ?_;refine qC ?_;refine qC ?_;refine qB ?_;refine qN ?_;refine qC ?_;refine qB ?_;refine qK rfl (fun h41=>?_) (fun h41=>?_)
    ·try simp only [decide_eq_true_eq] at h41
     try simp only [zds] at h41
     simp at h41
    ·try simp only [decide_eq_false_iff_not] at h41
     try simp only [zds] at h41
     refine qC ?_;refine qB ?_;refine qK rfl (fun h55=>?_) (fun h55=>?_)
     ·try simp only [decide_eq_true_eq] at h55
      try simp only [zds] at h55
      refine qC ?_;refine qB ?_;refine zai (by exact qQ (show out.length + 1 ≤ 1000000000 by omega) (by decide)) ?_;refine qL ?_;exact ⟨rfl,⟨wkb_eq rfl rfl rfl rfl,rfl⟩,rfl⟩
     ·try simp only [decide_eq_false_iff_not] at h55
      try simp only [zds] at h55
      simp at h55
  ·try simp only [decide_eq_true_eq,Bool.not_eq_false'] at h7
   try simp only [zds] at h7
   simp at h7
theorem take4_o (o : List Stz) (f : List Fld) (r : List (List Fld)) (b n : Int) (out : List Edt) (hf : f.length ≤ 1000000) (hl : out.length ≤ 100000) (hn : 0 ≤ n ∧ n ≤ 1000000) : qR Tryz.prog 74 [.one (.own 0 0),ii .i64 4] (wkO (o,f :: r,b,n,out)) 2 (.tup []) (wkO (o,r,n,n + 1,out ++ [(3,b,f)])) 2:=by
  refine qP (rs:=[]) Tryz.func74 rfl rfl rfl teOk (by decide) rfl ?_;refine qC ?_;refine qB ?_;refine qC ?_;refine qC ?_;refine qB ?_;refine qK rfl (fun h7=>?_) (fun h7=>?_)
  ·try simp only [decide_eq_false_iff_not,Bool.not_eq_true'] at h7
   try simp only [zds] at h7
   simp at h7
  ·try simp only [decide_eq_true_eq,Bool.not_eq_false'] at h7
   try simp only [zds] at h7
   refine qM ?_;refine qC ?_;refine qB ?_;refine qC ?_;refine qC ?_;refine qB ?_;refine qK rfl (fun h24=>?_) (fun h24=>?_)
   ·try simp only [decide_eq_false_iff_not,Bool.not_eq_true'] at h24
    try simp only [zds] at h24
    refine qC ?_;refine qB ?_;refine zai (by first|omega|assumption|decide|(simp only [];omega)|(simp <;> omega)) ?_;refine Or.inl ?_;refine zai (rfl) ?_;refine zei _ (zai (clone_c _ hf) ?_);refine qB ?_;refine zai (by first|omega|assumption|decide|(simp only [];omega)|(simp <;> omega)) ?_;refine qC ?_;refine qC ?_;refine qB ?_;refine qN ?_;refine qC ?_;refine qB ?_;refine qK rfl (fun h41=>?_) (fun h41=>?_)
    ·try simp only [decide_eq_true_eq] at h41
     try simp only [zds] at h41
     simp at h41
    ·try simp only [decide_eq_false_iff_not] at h41
     try simp only [zds] at h41
     refine qC ?_;refine qB ?_;refine qK rfl (fun h55=>?_) (fun h55=>?_)
     ·try simp only [decide_eq_true_eq] at h55
      try simp only [zds] at h55
      simp at h55
     ·try simp only [decide_eq_false_iff_not] at h55
      try simp only [zds] at h55
      refine qC ?_;refine qB ?_;refine qK rfl (fun h68=>?_) (fun h68=>?_)
      ·try simp only [decide_eq_true_eq] at h68
       try simp only [zds] at h68
       refine qC ?_;refine xB rfl ?_;refine qJ 0 rfl rfl rfl (by kernel_rfl) ?_;refine qJ 1 rfl rfl rfl (by kernel_rfl) ?_;refine qJ 2 rfl rfl rfl (by kernel_rfl) ?_;refine qJ 3 rfl rfl rfl (by kernel_rfl) ?_;refine qJ 5 rfl rfl rfl (by kernel_rfl) ?_;refine qJ 6 rfl rfl rfl (by kernel_rfl) ?_;refine qJ 7 rfl rfl rfl (by kernel_rfl) ?_;refine qJ 9 rfl rfl rfl (by kernel_rfl) ?_;refine qI [4,8] (by kernel_rfl) rfl ?_;refine zai ?_ ?_
       ·refine qI [8] (by kernel_rfl) rfl ?_;refine qI [10] (by kernel_rfl) rfl ?_;refine qI [11] (by kernel_rfl) rfl ?_;refine qI [12] (by kernel_rfl) rfl ?_;refine zai (by exact qQ (show out.length + 1 ≤ 1000000000 by omega) (by decide)) ?_;refine qJ 13 rfl rfl rfl (by kernel_rfl) ?_;refine qJ 14 rfl rfl rfl (by kernel_rfl) ?_;refine qI [15] (by kernel_rfl) rfl ?_;refine qO (by kernel_rfl) ?_;refine qC ?_;refine qB ?_;refine qB ?_;refine zai (by first|omega|assumption|decide|(simp only [];omega)|(simp <;> omega)) ?_;refine qB ?_;exact ⟨rfl,⟨wkb_eq rfl rfl rfl rfl,rfl⟩,rfl⟩
       ·refine qI [4,10] (by kernel_rfl) rfl ?_;refine zai ?_ ?_
        ·refine qI [10] (by kernel_rfl) rfl ?_;refine qI [11] (by kernel_rfl) rfl ?_;refine qI [12] (by kernel_rfl) rfl ?_;refine zai (by exact qQ (show out.length + 1 ≤ 1000000000 by omega) (by decide)) ?_;refine qJ 13 rfl rfl rfl (by kernel_rfl) ?_;refine qJ 14 rfl rfl rfl (by kernel_rfl) ?_;refine qI [15] (by kernel_rfl) rfl ?_;refine qO (by kernel_rfl) ?_;refine qC ?_;refine qB ?_;refine qB ?_;refine zai (by first|omega|assumption|decide|(simp only [];omega)|(simp <;> omega)) ?_;refine qB ?_;exact ⟨rfl,⟨wkb_eq rfl rfl rfl rfl,rfl⟩,rfl⟩
        ·refine qI [4,11] (by kernel_rfl) rfl ?_;refine zai ?_ ?_
         ·refine qI [11] (by kernel_rfl) rfl ?_;refine qI [12] (by kernel_rfl) rfl ?_;refine zai (by exact qQ (show out.length + 1 ≤ 1000000000 by omega) (by decide)) ?_;refine qJ 13 rfl rfl rfl (by kernel_rfl) ?_;refine qJ 14 rfl rfl rfl (by kernel_rfl) ?_;refine qI [15] (by kernel_rfl) rfl ?_;refine qO (by kernel_rfl) ?_;refine qC ?_;refine qB ?_;refine qB ?_;refine zai (by first|omega|assumption|decide|(simp only [];omega)|(simp <;> omega)) ?_;refine qB ?_;exact ⟨rfl,⟨wkb_eq rfl rfl rfl rfl,rfl⟩,rfl⟩
         ·refine qI [4] (by kernel_rfl) rfl ?_;refine qI [12] (by kernel_rfl) rfl ?_;refine zai (by exact qQ (show out.length + 1 ≤ 1000000000 by omega) (by decide)) ?_;refine qJ 13 rfl rfl rfl (by kernel_rfl) ?_;refine qJ 14 rfl rfl rfl (by kernel_rfl) ?_;refine qI [15] (by kernel_rfl) rfl ?_;refine qO (by kernel_rfl) ?_;refine qC ?_;refine qB ?_;refine qB ?_;refine zai (by first|omega|assumption|decide|(simp only [];omega)|(simp <;> omega)) ?_;refine qB ?_;exact ⟨rfl,⟨wkb_eq rfl rfl rfl rfl,rfl⟩,rfl⟩
      ·try simp only [decide_eq_false_iff_not] at h68
       try simp only [zds] at h68
       simp at h68
   ·try simp only [decide_eq_true_eq,Bool.not_eq_false'] at h24
    try simp only [zds] at h24
    simp at h24
theorem take_o {s : Int} {x : StD} (hm : may s x) (hf : ∀ f ∈ x.2.1,f.length ≤ 1000000) (hl : x.2.2.2.2.length ≤ 100000) (hn : 0 ≤ x.2.2.2.1 ∧ x.2.2.2.1 ≤ 1000000) : qR Tryz.prog 74 [.one (.own 0 0),ii .i64 s] (wkO x) 2 (.tup []) (wkO (tkD s x)) 2:=by
  obtain ⟨o,r,b,n,out⟩:=x;rcases hm with ⟨rfl,a,o',f,r',ho,hr⟩|⟨rfl,a,o',f,r',ho,hr⟩|⟨rfl,a,o',ho⟩|⟨rfl,f,r',hr⟩
  · simp only at ho hr;subst ho hr;exact take1_o a o' f r' b n out (hf _ List.mem_cons_self) hl
  · simp only at ho hr;subst ho hr;exact take2_o a o' f r' b n out (hf _ List.mem_cons_self) hl
  · simp only at ho;subst ho;exact take3_o a o' r b n out hl
  · simp only at hr;subst hr;exact take4_o o f r' b n out (hf _ List.mem_cons_self) hl hn
theorem edits_yes {k c : Nat} (L : Lst) (rows : List (List Fld)) (hlk : LOk c L) (hc : c ≤ 900000) (hx : (qX L.1).length ≤ 900) (hy : rows.length ≤ 900) (hfy : ∀ f ∈ rows,yA f) (h40 : ¬ 40 < (edsL L rows).length) : qU Tryz.prog 40 [.one (.adk k (rLst k) L),.one (.sl (.sl rFld) rows)] (.tup [(false,[.sl rEdt (edsL L rows)]),(false,[.lit .nilIface])]):=by
  have hll:=hlk.len;have hnx:=hlk.next;have hfl : ∀ e ∈ L.1,e.1.2.2.length ≤ 1000000:=fun e he=>Nat.le_trans (hlk.flds e he).1 (by decide)
  have hwy:=way_c (qX L.1) rows hx hy (drow_flds hlk) hfy;have hin:=inD_at L rows;have hmay:=fun j h=>may_at L rows (j:=j) h
  have hal:=runD_all L rows;have hwl:=al_len (Dif.way_al (qX L.1) rows).1
  generalize Dif.wayOf (qX L.1) rows = W at *
  refine qT (rs:=[4,5]) Tryz.func40 rfl rfl rfl teOk rfl ?_;refine qC ?_;refine qB ?_;refine qC ?_;refine qC ?_;refine qB ?_;refine qK rfl (fun h10=>?_) (fun h10=>?_)
  ·try simp only [zbq] at h10
   try simp only [zds] at h10
   simp at h10
  ·skip
   refine qM ?_;refine qC ?_;refine qB ?_;refine Or.inl ?_;refine zai (rfl) ?_;refine zei _ (zai (stanzasL_c L.1 L.2.1 L.2.2 (by omega) hfl) ?_);refine Or.inl ?_;refine zai (rfl) ?_;refine zei _ (zai (next_c L.1 L.2.1 L.2.2) ?_);refine qC ?_;refine qC ?_;refine yD 0 4 46 rEdt rfl rfl rfl ?_;refine qB ?_;refine Or.inl ?_;refine zai (rfl) ?_;refine zei _ (zai (rowsL_c L.1 L.2.1 L.2.2 (by omega) hfl) ?_);refine Or.inl ?_;refine zai (rfl) ?_;refine zei _ (zai (hwy) ?_);intro l4_4
   try simp only [zds] at l4_4
   refine qN ?_;refine yP (fun (j : Nat)=>j ≤ W.length) (fun (j : Nat)=>[(6,.one (.own 0 0)),(22,.one (.sl (.int .i64) W)),(23,ii .i64 W.length),(24,ii .i64 j)]) (fun (j : Nat)=>[(0,.box 132 [.sl rStz (runD (W.take j) (stD0 L rows)).1,.sl (.sl rFld) (runD (W.take j) (stD0 L rows)).2.1,.lit (.int .i64 (runD (W.take j) (stD0 L rows)).2.2.1),.lit (.int .i64 (runD (W.take j) (stD0 L rows)).2.2.2.1),.vec 1]),(1,.vec 46 rEdt (runD (W.take j) (stD0 L rows)).2.2.2.2)]) 2 (fun (j : Nat)=>W.length - j) 0 (Nat.zero_le _) (qV ⟨rfl,rfl,rfl,rfl⟩ ⟨rfl,rfl⟩ rfl) ?_;intro j hI0;refine qC ?_;refine qB ?_;refine qC ?_;refine qK rfl (fun h25=>?_) (fun h25=>?_)
   ·try simp only [decide_eq_true_eq] at h25
    try simp only [zds] at h25
    have hjl : j < W.length:=(by omega);have hmy:=hmay j hjl;have hst:=runD_take W (stD0 L rows) hjl;have hij:=hin j (by omega);have hil:=hij.len;have hinx:=hij.next;have htk:=take_o hmy (fun f hf=>Nat.le_trans (hfy f (hij.rows f hf)).1 (by decide)) (by omega) (by omega);refine qM ?_;refine qC ?_;refine qN ?_;refine qC ?_;refine qB ?_;refine zai (by first|omega|assumption|decide|(simp only [zds];omega)|(simp <;> omega)) ?_;refine qB ?_;refine Or.inr (Or.inl (zei [] (zei [0,1] (zei _ (zei _ (zei _ (zei _ (zei _ (zai (htk) (zai rfl (zai (zai (zai rfl rfl) (zai (zai rfl rfl) True.intro)) (zai rfl ?_))))))))))));refine qB ?_;refine zai (by first|omega|assumption|decide|(simp only [zds];omega)|(simp <;> omega)) ?_;exact ⟨j + 1,by omega,by first|omega|(simp <;> omega),qV ⟨rfl,rfl,rfl,(ii_eq (by omega))⟩ ⟨(wkb_eq (by rw [hst]) (by rw [hst]) (by rw [hst]) (by rw [hst])),(yN (by rw [hst]))⟩ rfl⟩
   ·try simp only [decide_eq_false_iff_not,Int.not_lt] at h25
    try simp only [zds] at h25
    refine xI ?_;rw [List.take_of_length_le (show W.length ≤ j by omega),hal];refine qC ?_;refine qC ?_;refine qB ?_;intro l9_4
    try simp only [zds] at l9_4
    refine qK rfl (fun h37=>?_) (fun h37=>?_)
    ·try simp only [decide_eq_true_eq] at h37
     try simp only [zds] at h37
     exfalso
     omega
    ·try simp only [decide_eq_false_iff_not,Int.not_lt] at h37
     try simp only [zds] at h37
     refine qM ?_;refine qC ?_;refine qB ?_;refine qL ?_;rfl
theorem edits_many {k c : Nat} (L : Lst) (rows : List (List Fld)) (hlk : LOk c L) (hc : c ≤ 900000) (hx : (qX L.1).length ≤ 900) (hy : rows.length ≤ 900) (hfy : ∀ f ∈ rows,yA f) (h40 : 40 < (edsL L rows).length) : qU Tryz.prog 40 [.one (.adk k (rLst k) L),.one (.sl (.sl rFld) rows)] (.tup [(false,[.lit (.slice none 0 0)]),(false,[errN 1])]):=by
  have hll:=hlk.len;have hnx:=hlk.next;have hfl : ∀ e ∈ L.1,e.1.2.2.length ≤ 1000000:=fun e he=>Nat.le_trans (hlk.flds e he).1 (by decide)
  have hwy:=way_c (qX L.1) rows hx hy (drow_flds hlk) hfy;have hin:=inD_at L rows;have hmay:=fun j h=>may_at L rows (j:=j) h
  have hal:=runD_all L rows;have hwl:=al_len (Dif.way_al (qX L.1) rows).1
  generalize Dif.wayOf (qX L.1) rows = W at *
  refine qT (rs:=[4,5]) Tryz.func40 rfl rfl rfl teOk rfl ?_;refine qC ?_;refine qB ?_;refine qC ?_;refine qC ?_;refine qB ?_;refine qK rfl (fun h10=>?_) (fun h10=>?_)
  ·try simp only [zbq] at h10
   try simp only [zds] at h10
   simp at h10
  ·skip
   refine qM ?_;refine qC ?_;refine qB ?_;refine Or.inl ?_;refine zai (rfl) ?_;refine zei _ (zai (stanzasL_c L.1 L.2.1 L.2.2 (by omega) hfl) ?_);refine Or.inl ?_;refine zai (rfl) ?_;refine zei _ (zai (next_c L.1 L.2.1 L.2.2) ?_);refine qC ?_;refine qC ?_;refine yD 0 4 46 rEdt rfl rfl rfl ?_;refine qB ?_;refine Or.inl ?_;refine zai (rfl) ?_;refine zei _ (zai (rowsL_c L.1 L.2.1 L.2.2 (by omega) hfl) ?_);refine Or.inl ?_;refine zai (rfl) ?_;refine zei _ (zai (hwy) ?_);intro l4_4
   try simp only [zds] at l4_4
   refine qN ?_;refine yP (fun (j : Nat)=>j ≤ W.length) (fun (j : Nat)=>[(6,.one (.own 0 0)),(22,.one (.sl (.int .i64) W)),(23,ii .i64 W.length),(24,ii .i64 j)]) (fun (j : Nat)=>[(0,.box 132 [.sl rStz (runD (W.take j) (stD0 L rows)).1,.sl (.sl rFld) (runD (W.take j) (stD0 L rows)).2.1,.lit (.int .i64 (runD (W.take j) (stD0 L rows)).2.2.1),.lit (.int .i64 (runD (W.take j) (stD0 L rows)).2.2.2.1),.vec 1]),(1,.vec 46 rEdt (runD (W.take j) (stD0 L rows)).2.2.2.2)]) 2 (fun (j : Nat)=>W.length - j) 0 (Nat.zero_le _) (qV ⟨rfl,rfl,rfl,rfl⟩ ⟨rfl,rfl⟩ rfl) ?_;intro j hI0;refine qC ?_;refine qB ?_;refine qC ?_;refine qK rfl (fun h25=>?_) (fun h25=>?_)
   ·try simp only [decide_eq_true_eq] at h25
    try simp only [zds] at h25
    have hjl : j < W.length:=(by omega);have hmy:=hmay j hjl;have hst:=runD_take W (stD0 L rows) hjl;have hij:=hin j (by omega);have hil:=hij.len;have hinx:=hij.next;have htk:=take_o hmy (fun f hf=>Nat.le_trans (hfy f (hij.rows f hf)).1 (by decide)) (by omega) (by omega);refine qM ?_;refine qC ?_;refine qN ?_;refine qC ?_;refine qB ?_;refine zai (by first|omega|assumption|decide|(simp only [zds];omega)|(simp <;> omega)) ?_;refine qB ?_;refine Or.inr (Or.inl (zei [] (zei [0,1] (zei _ (zei _ (zei _ (zei _ (zei _ (zai (htk) (zai rfl (zai (zai (zai rfl rfl) (zai (zai rfl rfl) True.intro)) (zai rfl ?_))))))))))));refine qB ?_;refine zai (by first|omega|assumption|decide|(simp only [zds];omega)|(simp <;> omega)) ?_;exact ⟨j + 1,by omega,by first|omega|(simp <;> omega),qV ⟨rfl,rfl,rfl,(ii_eq (by omega))⟩ ⟨(wkb_eq (by rw [hst]) (by rw [hst]) (by rw [hst]) (by rw [hst])),(yN (by rw [hst]))⟩ rfl⟩
   ·try simp only [decide_eq_false_iff_not,Int.not_lt] at h25
    try simp only [zds] at h25
    refine xI ?_;rw [List.take_of_length_le (show W.length ≤ j by omega),hal];refine qC ?_;refine qC ?_;refine qB ?_;intro l9_4
    try simp only [zds] at l9_4
    refine qK rfl (fun h37=>?_) (fun h37=>?_)
    ·try simp only [decide_eq_true_eq] at h37
     try simp only [zds] at h37
     refine qC ?_;refine qB ?_;refine qL ?_;rfl
    ·try simp only [decide_eq_false_iff_not,Int.not_lt] at h37
     try simp only [zds] at h37
     exfalso
     omega
theorem lists_yes {k k' c c' : Nat} (L M : Lst) (hlk : LOk c L) (hmk : LOk c' M) (hc : c ≤ 900000) (hc' : c' ≤ 900000) (hx : (qX L.1).length ≤ 900) (hy : (qX M.1).length ≤ 900) (h40 : ¬ 40 < (edsL L (qX M.1)).length) : qU Tryz.prog 48 [.one (.adk k (rLst k) L),.one (.adk k' (rLst k') M)] (.tup [(false,[.sl rEdt (edsL L (qX M.1))]),(false,[.lit .nilIface])]):=by
  have hml:=hmk.len;have hfl : ∀ e ∈ M.1,e.1.2.2.length ≤ 1000000:=fun e he=>Nat.le_trans (hmk.flds e he).1 (by decide)
  have he:=edits_yes (k:=k) L (qX M.1) hlk hc hx hy (drow_flds hmk) h40;refine qT (rs:=[4,5]) Tryz.func48 rfl rfl rfl teOk rfl ?_;refine qC ?_;refine qB ?_;refine qC ?_;refine qC ?_;refine qB ?_;refine qK rfl (fun h7=>?_) (fun h7=>?_)
  ·try simp only [zbq] at h7
   try simp only [zds] at h7
   simp at h7
  ·skip
   refine qM ?_;refine qC ?_;refine qB ?_;refine Or.inl ?_;refine zai (rfl) ?_;refine zei _ (zai (rowsL_c M.1 M.2.1 M.2.2 (by omega) hfl) ?_);refine Or.inl ?_;refine zai (rfl) ?_;refine zei _ (zai (he) ?_);refine qL ?_;rfl
theorem lists_many {k k' c c' : Nat} (L M : Lst) (hlk : LOk c L) (hmk : LOk c' M) (hc : c ≤ 900000) (hc' : c' ≤ 900000) (hx : (qX L.1).length ≤ 900) (hy : (qX M.1).length ≤ 900) (h40 : 40 < (edsL L (qX M.1)).length) : qU Tryz.prog 48 [.one (.adk k (rLst k) L),.one (.adk k' (rLst k') M)] (.tup [(false,[.lit (.slice none 0 0)]),(false,[errN 1])]):=by
  have hml:=hmk.len;have hfl : ∀ e ∈ M.1,e.1.2.2.length ≤ 1000000:=fun e he=>Nat.le_trans (hmk.flds e he).1 (by decide)
  have he:=edits_many (k:=k) L (qX M.1) hlk hc hx hy (drow_flds hmk) h40;refine qT (rs:=[4,5]) Tryz.func48 rfl rfl rfl teOk rfl ?_;refine qC ?_;refine qB ?_;refine qC ?_;refine qC ?_;refine qB ?_;refine qK rfl (fun h7=>?_) (fun h7=>?_)
  ·try simp only [zbq] at h7
   try simp only [zds] at h7
   simp at h7
  ·skip
   refine qM ?_;refine qC ?_;refine qB ?_;refine Or.inl ?_;refine zai (rfl) ?_;refine zei _ (zai (rowsL_c M.1 M.2.1 M.2.2 (by omega) hfl) ?_);refine Or.inl ?_;refine zai (rfl) ?_;refine zei _ (zai (he) ?_);refine qL ?_;rfl
def clashX (next : Int) (a : List Edt) (x : Edt) : Bool:=decide (x.2.1 < next) && clsh a x
def clashI (next : Int) (a b : List Edt) : Int:=ixOf (clashX next a) b
theorem do_no {κ κ' k c : Nat} (L : Lst) (s : List Edt) (hL : LOk c L) (hc : c + s.length ≤ 200000) (hf : ∀ e ∈ s,yA e.2.2) (h : (doR L s).2 ≠ 0) : qU Tryz.prog 13 [.one (.adk k (rLst k) L),.one (.slk κ (rEdk κ') s)] (.tup [(false,[.lit (.pointer none)]),(false,[.lit (.slice none 0 0)]),(false,[erB (doR L s)])]):=by
  rcases chkB_cases s with ⟨h0,_⟩|h1|⟨i,n,hn,h2⟩
  · have h0' : (chkB s).2 = 0:=by rw [h0]
    rcases doR_cases L s h0' with ⟨h3,_⟩|⟨q,hq,h3,hb,ht⟩
    · rw [h3] at h;exact absurd rfl h
    · rw [h3,erB_f hb];exact doBad_c L s hL hc hf h0' q hq hb ht
  · have e : doR L s = (-9,1):=by unfold doR;rw [if_pos (by rw [h1];decide),h1]
    rw [e,erB_n (by decide)];exact doN_c L s hf (by omega) 1 (by decide) h1
  · have e : doR L s = ((i : Int),n):=by unfold doR;rw [if_pos (by rw [h2];exact hn),h2]
    rw [e,erB_f hn];exact doF_c L s hf (by omega) i n hn h2
def mrgN (L : Lst) (a b : List Edt) : Int × Int :=
  if (doR L a).2 ≠ 0 then doR L a else if (doR L b).2 ≠ 0 then doR L b else if 0 ≤ clashI L.2.1 a b then (clashI L.2.1 a b,13) else if 40 < (a ++ rebB L.2.1 a b).length then (-9,1) else (-9,0)
abbrev nilE : Bool × List C:=(false,[.lit (.slice none 0 0)])
theorem isN1_c : qU Tryz.prog 29 [.one (errN 1),ii .i64 1] (ib true):=by
  refine qT (rs:=[4]) Tryz.func29 rfl rfl rfl teOk rfl ?_;refine qC ?_;refine qB ?_;refine qC ?_;refine qB ?_;refine Or.inl ?_;refine zai (rfl) ?_;refine zei _ (zai (num_errno 1 (by decide)) ?_);refine qL ?_;rfl
theorem DL_big (a b : ByteArray) (h : 2000 < a.size ∨ 2000 < b.size) : qU Tryz.prog 8 [is a,is b] (ib true):=by
  refine qT (rs:=[4]) Tryz.func8 rfl rfl rfl teOk rfl ?_;refine qC ?_;refine qB ?_;refine qC ?_;refine qC ?_;refine qB ?_;refine Or.inl ?_;refine zai (rfl) ?_;refine zei _ (zai (dalive_c) ?_);refine qK rfl (fun h14=>?_) (fun h14=>?_)
  ·try simp only [Bool.not_eq_true'] at h14
   try simp only [zds] at h14
   simp at h14
  ·try simp only [Bool.not_eq_false'] at h14
   try simp only [zds] at h14
   refine qM ?_;refine qC ?_;refine qC ?_;refine qB ?_;refine zai (fun h=>trivial) ?_;refine zai (fun h=>⟨⟨h,trivial⟩,trivial⟩) ?_;refine zai (fun h=>⟨⟨h,trivial⟩,trivial⟩) ?_;refine zai (by first|(intro h;rw [h];rfl)|(intro h;cases h)) ?_;refine qK rfl (fun h22=>?_) (fun h22=>?_)
   ·try simp only [decide_eq_true_eq,Bool.or_eq_true] at h22
    try simp only [zds] at h22
    refine qC ?_;refine qB ?_;refine qL ?_;rfl
   ·try simp only [decide_eq_false_iff_not,Bool.or_eq_false_iff,Int.not_lt] at h22
    try simp only [zds] at h22
    exfalso
    omega
theorem DL_ee (a b : ByteArray) (ha : ¬ 2000 < a.size) (hb : ¬ 2000 < b.size) {ja ma : Int} (hpa : yJ a = .inl (ja,ma)) {jb mb : Int} (hpb : yJ b = .inl (jb,mb)) : qU Tryz.prog 8 [is a,is b] (ib true):=by
  have hla:=of_err a (by omega) hpa;have hlb:=of_err b (by omega) hpb;refine qT (rs:=[4]) Tryz.func8 rfl rfl rfl teOk rfl ?_;refine qC ?_;refine qB ?_;refine qC ?_;refine qC ?_;refine qB ?_;refine Or.inl ?_;refine zai (rfl) ?_;refine zei _ (zai (dalive_c) ?_);refine qK rfl (fun h14=>?_) (fun h14=>?_)
  ·try simp only [Bool.not_eq_true'] at h14
   try simp only [zds] at h14
   simp at h14
  ·try simp only [Bool.not_eq_false'] at h14
   try simp only [zds] at h14
   refine qM ?_;refine qC ?_;refine qC ?_;refine qB ?_;refine zai (fun h=>trivial) ?_;refine zai (fun h=>⟨⟨h,trivial⟩,trivial⟩) ?_;refine zai (fun h=>⟨⟨h,trivial⟩,trivial⟩) ?_;refine zai (by first|(intro h;rw [h];rfl)|(intro h;cases h)) ?_;refine qK rfl (fun h22=>?_) (fun h22=>?_)
   ·try simp only [decide_eq_true_eq,Bool.or_eq_true] at h22
    try simp only [zds] at h22
    exfalso
    omega
   ·try simp only [decide_eq_false_iff_not,Bool.or_eq_false_iff,Int.not_lt] at h22
    try simp only [zds] at h22
    refine qM ?_;refine qC ?_;refine qB ?_;refine Or.inl ?_;refine zai (rfl) ?_;refine zei _ (zai (hla) ?_);refine qC ?_;refine qB ?_;refine Or.inl ?_;refine zai (rfl) ?_;refine zei _ (zai (hlb) ?_);refine qC ?_;refine qC ?_;refine qB ?_;refine zai (fun h=>trivial) ?_;refine zai (fun h=>⟨⟨h,trivial⟩,trivial⟩) ?_;refine zai (by first|(intro h;rw [h];rfl)|(intro h;cases h)) ?_;refine qK rfl (fun h38=>?_) (fun h38=>?_)
    ·try simp only [Bool.or_eq_true] at h38
     try simp only [zds] at h38
     refine qC ?_;refine qB ?_;refine qL ?_;rfl
    ·try simp only [Bool.or_eq_false_iff] at h38
     try simp only [zds] at h38
     simp at h38
theorem DL_ek (a b : ByteArray) (ha : ¬ 2000 < a.size) (hb : ¬ 2000 < b.size) {ja ma : Int} (hpa : yJ a = .inl (ja,ma)) {lb : List Itm} (hpb : yJ b = .inr lb) : qU Tryz.prog 8 [is a,is b] (ib true):=by
  have hla:=of_err a (by omega) hpa;have hlb:=of_ok b (by omega) hpb;refine qT (rs:=[4]) Tryz.func8 rfl rfl rfl teOk rfl ?_;refine qC ?_;refine qB ?_;refine qC ?_;refine qC ?_;refine qB ?_;refine Or.inl ?_;refine zai (rfl) ?_;refine zei _ (zai (dalive_c) ?_);refine qK rfl (fun h14=>?_) (fun h14=>?_)
  ·try simp only [Bool.not_eq_true'] at h14
   try simp only [zds] at h14
   simp at h14
  ·try simp only [Bool.not_eq_false'] at h14
   try simp only [zds] at h14
   refine qM ?_;refine qC ?_;refine qC ?_;refine qB ?_;refine zai (fun h=>trivial) ?_;refine zai (fun h=>⟨⟨h,trivial⟩,trivial⟩) ?_;refine zai (fun h=>⟨⟨h,trivial⟩,trivial⟩) ?_;refine zai (by first|(intro h;rw [h];rfl)|(intro h;cases h)) ?_;refine qK rfl (fun h22=>?_) (fun h22=>?_)
   ·try simp only [decide_eq_true_eq,Bool.or_eq_true] at h22
    try simp only [zds] at h22
    exfalso
    omega
   ·try simp only [decide_eq_false_iff_not,Bool.or_eq_false_iff,Int.not_lt] at h22
    try simp only [zds] at h22
    refine qM ?_;refine qC ?_;refine qB ?_;refine Or.inl ?_;refine zai (rfl) ?_;refine zei _ (zai (hla) ?_);refine qC ?_;refine qB ?_;refine Or.inr (Or.inl (zei [] (zei [] (zei _ (zei _ (zei _ (zei _ (zei _ (zai (hlb) (zai rfl (zai True.intro (zai rfl ?_))))))))))));refine qC ?_;refine qC ?_;refine qB ?_;refine zai (fun h=>trivial) ?_;refine zai (fun h=>⟨⟨h,trivial⟩,trivial⟩) ?_;refine zai (by first|(intro h;rw [h];rfl)|(intro h;cases h)) ?_;refine qK rfl (fun h38=>?_) (fun h38=>?_)
    ·try simp only [Bool.not_eq_true',Bool.or_eq_true] at h38
     try simp only [zds] at h38
     refine qC ?_;refine qB ?_;refine qL ?_;rfl
    ·try simp only [Bool.not_eq_false',Bool.or_eq_false_iff] at h38
     try simp only [zds] at h38
     simp at h38
theorem DL_ke (a b : ByteArray) (ha : ¬ 2000 < a.size) (hb : ¬ 2000 < b.size) {la : List Itm} (hpa : yJ a = .inr la) {jb mb : Int} (hpb : yJ b = .inl (jb,mb)) : qU Tryz.prog 8 [is a,is b] (ib true):=by
  have hla:=of_ok a (by omega) hpa;have hlb:=of_err b (by omega) hpb;refine qT (rs:=[4]) Tryz.func8 rfl rfl rfl teOk rfl ?_;refine qC ?_;refine qB ?_;refine qC ?_;refine qC ?_;refine qB ?_;refine Or.inl ?_;refine zai (rfl) ?_;refine zei _ (zai (dalive_c) ?_);refine qK rfl (fun h14=>?_) (fun h14=>?_)
  ·try simp only [Bool.not_eq_true'] at h14
   try simp only [zds] at h14
   simp at h14
  ·try simp only [Bool.not_eq_false'] at h14
   try simp only [zds] at h14
   refine qM ?_;refine qC ?_;refine qC ?_;refine qB ?_;refine zai (fun h=>trivial) ?_;refine zai (fun h=>⟨⟨h,trivial⟩,trivial⟩) ?_;refine zai (fun h=>⟨⟨h,trivial⟩,trivial⟩) ?_;refine zai (by first|(intro h;rw [h];rfl)|(intro h;cases h)) ?_;refine qK rfl (fun h22=>?_) (fun h22=>?_)
   ·try simp only [decide_eq_true_eq,Bool.or_eq_true] at h22
    try simp only [zds] at h22
    exfalso
    omega
   ·try simp only [decide_eq_false_iff_not,Bool.or_eq_false_iff,Int.not_lt] at h22
    try simp only [zds] at h22
    refine qM ?_;refine qC ?_;refine qB ?_;refine Or.inr (Or.inl (zei [] (zei [] (zei _ (zei _ (zei _ (zei _ (zei _ (zai (hla) (zai rfl (zai True.intro (zai rfl ?_))))))))))));refine qC ?_;refine qB ?_;refine Or.inl ?_;refine zai (rfl) ?_;refine zei _ (zai (hlb) ?_);refine qC ?_;refine qC ?_;refine qB ?_;refine zai (fun h=>trivial) ?_;refine zai (fun h=>⟨⟨h,trivial⟩,trivial⟩) ?_;refine zai (by first|(intro h;rw [h];rfl)|(intro h;cases h)) ?_;refine qK rfl (fun h38=>?_) (fun h38=>?_)
    ·try simp only [Bool.not_eq_true',Bool.or_eq_true] at h38
     try simp only [zds] at h38
     refine qC ?_;refine qB ?_;refine qL ?_;rfl
    ·try simp only [Bool.not_eq_false',Bool.or_eq_false_iff] at h38
     try simp only [zds] at h38
     simp at h38
theorem DL_many (a b : ByteArray) (ha : ¬ 2000 < a.size) (hb : ¬ 2000 < b.size) {la lb : List Itm} (hpa : yJ a = .inr la) (hpb : yJ b = .inr lb) (h : 40 < (edsL (ofT la) (qX (ofT lb).1)).length) : qU Tryz.prog 8 [is a,is b] (ib true):=by
  have hla:=of_ok a (by omega) hpa;have hlb:=of_ok b (by omega) hpb;have hlk:=of_lok (by omega) hpa;have hmk:=of_lok (by omega) hpb;have hgd:=ofT_gd hpa;have hge:=ofT_gd hpb;have hgo:=rows_chk hpb;obtain ⟨L,hL⟩ : ∃ L,ofT la = L:=⟨_,rfl⟩;obtain ⟨M,hM⟩ : ∃ M,ofT lb = M:=⟨_,rfl⟩;rw [hL] at hlk hgd hla h;rw [hM] at hmk hge hlb hgo h;have hm4:=hgd.m4;have hm5:=hge.m4;have hxl:=drow_len hlk;have hyl:=drow_len hmk;have hfx:=drow_flds hlk;have hfy:=drow_flds hmk;have hll:=hlk.len;have hml:=hmk.len;have hfl : ∀ e ∈ L.1,e.1.2.2.length ≤ 1000000:=fun e he=>Nat.le_trans (hlk.flds e he).1 (by decide)
  have hfm : ∀ e ∈ M.1,e.1.2.2.length ≤ 1000000:=fun e he=>Nat.le_trans (hmk.flds e he).1 (by decide)
  have hdl:=eds_len L (qX M.1);have hed:=lists_many (k:=1) (k':=1) L M hlk hmk (by decide) (by decide) (by omega) (by omega) h;refine qT (rs:=[4]) Tryz.func8 rfl rfl rfl teOk rfl ?_;refine qC ?_;refine qB ?_;refine qC ?_;refine qC ?_;refine qB ?_;refine Or.inl ?_;refine zai (rfl) ?_;refine zei _ (zai (dalive_c) ?_);refine qK rfl (fun h14=>?_) (fun h14=>?_)
  ·try simp only [Bool.not_eq_true'] at h14
   try simp only [zds] at h14
   simp at h14
  ·try simp only [Bool.not_eq_false'] at h14
   try simp only [zds] at h14
   refine qM ?_;refine qC ?_;refine qC ?_;refine qB ?_;refine zai (fun h=>trivial) ?_;refine zai (fun h=>⟨⟨h,trivial⟩,trivial⟩) ?_;refine zai (fun h=>⟨⟨h,trivial⟩,trivial⟩) ?_;refine zai (by first|(intro h;rw [h];rfl)|(intro h;cases h)) ?_;refine qK rfl (fun h22=>?_) (fun h22=>?_)
   ·try simp only [decide_eq_true_eq,Bool.or_eq_true] at h22
    try simp only [zds] at h22
    exfalso
    omega
   ·try simp only [decide_eq_false_iff_not,Bool.or_eq_false_iff,Int.not_lt] at h22
    try simp only [zds] at h22
    refine qM ?_;refine qC ?_;refine qB ?_;refine Or.inr (Or.inl (zei [] (zei [] (zei _ (zei _ (zei _ (zei _ (zei _ (zai (hla) (zai rfl (zai True.intro (zai rfl ?_))))))))))));refine qC ?_;refine qB ?_;refine Or.inr (Or.inl (zei [] (zei [] (zei _ (zei _ (zei _ (zei _ (zei _ (zai (hlb) (zai rfl (zai True.intro (zai rfl ?_))))))))))));refine qC ?_;refine qC ?_;refine qB ?_;refine zai (fun h=>trivial) ?_;refine zai (fun h=>⟨⟨h,trivial⟩,trivial⟩) ?_;refine zai (by first|(intro h;rw [h];rfl)|(intro h;cases h)) ?_;refine qK rfl (fun h38=>?_) (fun h38=>?_)
    ·try simp only [Bool.not_eq_true',Bool.or_eq_true] at h38
     try simp only [zds] at h38
     simp at h38
    ·try simp only [Bool.not_eq_false',Bool.or_eq_false_iff] at h38
     try simp only [zds] at h38
     refine qM ?_;refine qC ?_;refine qB ?_;refine Or.inr (Or.inr (Or.inl ?_));refine zai rfl ?_;refine zei _ (zai (hed) ?_);refine qC ?_;refine qC ?_;refine qB ?_;refine qK rfl (fun h46=>?_) (fun h46=>?_)
     ·skip
      refine qC ?_;refine qB ?_;refine Or.inl ?_;refine zai (rfl) ?_;refine zei _ (zai (isN1_c) ?_);refine zai (fun h=>trivial) ?_;refine Or.inr (zai (by first|rfl|decide|simp) (zai (by repeat' (first|exact True.intro|apply zai|rfl|decide|simp)) ?_));refine Or.inr (Or.inr (Or.inl ?_));refine zai rfl ?_;refine zei _ (zai (rowsL_c L.1 L.2.1 L.2.2 (by omega) hfl) ?_);refine zai (fun h=>trivial) ?_;refine Or.inr (zai (by first|rfl|decide|simp) (zai (by repeat' (first|exact True.intro|apply zai|rfl|decide|simp)) ?_));refine Or.inr (Or.inr (Or.inl ?_));refine zai rfl ?_;refine zei _ (zai (rowsL_c M.1 M.2.1 M.2.2 (by omega) hfm) ?_);refine Or.inl ?_;refine zai (rfl) ?_;refine zei _ (zai (fun h=>⟨trivial,distance_c (qX L.1) (qX M.1) (by omega) (by omega) hfx hfy⟩) ?_);refine zai (fun h=>⟨⟨h,trivial⟩,trivial⟩) ?_;refine zai (by exact fun h=>h) ?_;refine qL ?_;exact ib_eq (by simp;omega)
     ·try simp only [zbq] at h46
      try simp only [zds] at h46
      simp at h46
theorem DL_none (a b : ByteArray) (ha : ¬ 2000 < a.size) (hb : ¬ 2000 < b.size) {la lb : List Itm} (hpa : yJ a = .inr la) (hpb : yJ b = .inr lb) (h0 : edsL (ofT la) (qX (ofT lb).1) = []) : qU Tryz.prog 8 [is a,is b] (ib true):=by
  have hla:=of_ok a (by omega) hpa;have hlb:=of_ok b (by omega) hpb;have hlk:=of_lok (by omega) hpa;have hmk:=of_lok (by omega) hpb;have hgd:=ofT_gd hpa;have hge:=ofT_gd hpb;have hgo:=rows_chk hpb;obtain ⟨L,hL⟩ : ∃ L,ofT la = L:=⟨_,rfl⟩;obtain ⟨M,hM⟩ : ∃ M,ofT lb = M:=⟨_,rfl⟩;rw [hL] at hlk hgd hla h0;rw [hM] at hmk hge hlb hgo h0;have hm4:=hgd.m4;have hm5:=hge.m4;have hxl:=drow_len hlk;have hyl:=drow_len hmk;have hfx:=drow_flds hlk;have hfy:=drow_flds hmk;have hll:=hlk.len;have hml:=hmk.len;have hfl : ∀ e ∈ L.1,e.1.2.2.length ≤ 1000000:=fun e he=>Nat.le_trans (hlk.flds e he).1 (by decide)
  have hfm : ∀ e ∈ M.1,e.1.2.2.length ≤ 1000000:=fun e he=>Nat.le_trans (hmk.flds e he).1 (by decide)
  have hdl:=eds_len L (qX M.1);have h : ¬ 40 < (edsL L (qX M.1)).length:=by rw [h0];decide
  have hed:=lists_yes (k:=1) (k':=1) L M hlk hmk (by decide) (by decide) (by omega) (by omega) h;have heq:=eds_none.1 h0;refine qT (rs:=[4]) Tryz.func8 rfl rfl rfl teOk rfl ?_;refine qC ?_;refine qB ?_;refine qC ?_;refine qC ?_;refine qB ?_;refine Or.inl ?_;refine zai (rfl) ?_;refine zei _ (zai (dalive_c) ?_);refine qK rfl (fun h14=>?_) (fun h14=>?_)
  ·try simp only [Bool.not_eq_true'] at h14
   try simp only [zds] at h14
   simp at h14
  ·try simp only [Bool.not_eq_false'] at h14
   try simp only [zds] at h14
   refine qM ?_;refine qC ?_;refine qC ?_;refine qB ?_;refine zai (fun h=>trivial) ?_;refine zai (fun h=>⟨⟨h,trivial⟩,trivial⟩) ?_;refine zai (fun h=>⟨⟨h,trivial⟩,trivial⟩) ?_;refine zai (by first|(intro h;rw [h];rfl)|(intro h;cases h)) ?_;refine qK rfl (fun h22=>?_) (fun h22=>?_)
   ·try simp only [decide_eq_true_eq,Bool.or_eq_true] at h22
    try simp only [zds] at h22
    exfalso
    omega
   ·try simp only [decide_eq_false_iff_not,Bool.or_eq_false_iff,Int.not_lt] at h22
    try simp only [zds] at h22
    refine qM ?_;refine qC ?_;refine qB ?_;refine Or.inr (Or.inl (zei [] (zei [] (zei _ (zei _ (zei _ (zei _ (zei _ (zai (hla) (zai rfl (zai True.intro (zai rfl ?_))))))))))));refine qC ?_;refine qB ?_;refine Or.inr (Or.inl (zei [] (zei [] (zei _ (zei _ (zei _ (zei _ (zei _ (zai (hlb) (zai rfl (zai True.intro (zai rfl ?_))))))))))));refine qC ?_;refine qC ?_;refine qB ?_;refine zai (fun h=>trivial) ?_;refine zai (fun h=>⟨⟨h,trivial⟩,trivial⟩) ?_;refine zai (by first|(intro h;rw [h];rfl)|(intro h;cases h)) ?_;refine qK rfl (fun h38=>?_) (fun h38=>?_)
    ·try simp only [Bool.not_eq_true',Bool.or_eq_true] at h38
     try simp only [zds] at h38
     simp at h38
    ·try simp only [Bool.not_eq_false',Bool.or_eq_false_iff] at h38
     try simp only [zds] at h38
     refine qM ?_;refine qC ?_;refine qB ?_;refine Or.inr (Or.inr (Or.inl ?_));refine zai rfl ?_;refine zei _ (zai (hed) ?_);refine qC ?_;refine qC ?_;refine qB ?_;refine qK rfl (fun h46=>?_) (fun h46=>?_)
     ·try simp only [Bool.not_eq_true'] at h46
      try simp only [zds] at h46
      simp at h46
     ·try simp only [Bool.not_eq_false'] at h46
      try simp only [zds] at h46
      refine qM ?_;refine qC ?_;refine qC ?_;refine qB ?_;intro l12_1
      try simp only [zds] at l12_1
      refine qK rfl (fun h59=>?_) (fun h59=>?_)
      ·try simp only [decide_eq_true_eq] at h59
       try simp only [zds] at h59
       refine qC ?_;refine qB ?_;refine Or.inr (Or.inr (Or.inl ?_));refine zai rfl ?_;refine zei _ (zai (rowsL_c L.1 L.2.1 L.2.2 (by omega) hfl) ?_);refine Or.inr (Or.inr (Or.inl ?_));refine zai rfl ?_;refine zei _ (zai (rowsL_c M.1 M.2.1 M.2.2 (by omega) hfm) ?_);refine Or.inl ?_;refine zai (rfl) ?_;refine zei _ (zai (dsame_c (qX L.1) (qX M.1) hfx hfy) ?_);refine qL ?_;exact ib_eq (decide_eq_true heq)
      ·try simp only [decide_eq_false_iff_not] at h59
       try simp only [zds] at h59
       rw [h0] at h59;exact absurd rfl h59
theorem DL_full (a b : ByteArray) (ha : ¬ 2000 < a.size) (hb : ¬ 2000 < b.size) {la lb : List Itm} (hpa : yJ a = .inr la) (hpb : yJ b = .inr lb) (h0 : edsL (ofT la) (qX (ofT lb).1) ≠ []) (h : ¬ 40 < (edsL (ofT la) (qX (ofT lb).1)).length) (hx : fullAt (ofT la) (edsL (ofT la) (qX (ofT lb).1))) : qU Tryz.prog 8 [is a,is b] (ib true):=by
  have hla:=of_ok a (by omega) hpa;have hlb:=of_ok b (by omega) hpb;have hlk:=of_lok (by omega) hpa;have hmk:=of_lok (by omega) hpb;have hgd:=ofT_gd hpa;have hge:=ofT_gd hpb;have hgo:=rows_chk hpb;obtain ⟨L,hL⟩ : ∃ L,ofT la = L:=⟨_,rfl⟩;obtain ⟨M,hM⟩ : ∃ M,ofT lb = M:=⟨_,rfl⟩;rw [hL] at hlk hgd hla h0 h hx;rw [hM] at hmk hge hlb hgo h0 h hx;have hm4:=hgd.m4;have hm5:=hge.m4;have hxl:=drow_len hlk;have hyl:=drow_len hmk;have hfx:=drow_flds hlk;have hfy:=drow_flds hmk;have hll:=hlk.len;have hml:=hmk.len;have hfl : ∀ e ∈ L.1,e.1.2.2.length ≤ 1000000:=fun e he=>Nat.le_trans (hlk.flds e he).1 (by decide)
  have hfm : ∀ e ∈ M.1,e.1.2.2.length ≤ 1000000:=fun e he=>Nat.le_trans (hmk.flds e he).1 (by decide)
  have hdl:=eds_len L (qX M.1);have hed:=lists_yes (k:=1) (k':=1) L M hlk hmk (by decide) (by decide) (by omega) (by omega) h;have hck:=eds_chk hgo h0 h;have hef : ∀ e ∈ edsL L (qX M.1),yA e.2.2:=fun e he=>(eds_good hgo e he).2
  obtain ⟨q,hq⟩:=eds_fullDo hck hx;have hd:=do_no (κ:=0) (κ':=0) (k:=1) L (edsL L (qX M.1)) hlk (by omega) hef (by rw [hq];exact (by decide : (11 : Int) ≠ 0));rw [hq,erB_f (by decide)] at hd;refine qT (rs:=[4]) Tryz.func8 rfl rfl rfl teOk rfl ?_;refine qC ?_;refine qB ?_;refine qC ?_;refine qC ?_;refine qB ?_;refine Or.inl ?_;refine zai (rfl) ?_;refine zei _ (zai (dalive_c) ?_);refine qK rfl (fun h14=>?_) (fun h14=>?_)
  ·try simp only [Bool.not_eq_true'] at h14
   try simp only [zds] at h14
   simp at h14
  ·try simp only [Bool.not_eq_false'] at h14
   try simp only [zds] at h14
   refine qM ?_;refine qC ?_;refine qC ?_;refine qB ?_;refine zai (fun h=>trivial) ?_;refine zai (fun h=>⟨⟨h,trivial⟩,trivial⟩) ?_;refine zai (fun h=>⟨⟨h,trivial⟩,trivial⟩) ?_;refine zai (by first|(intro h;rw [h];rfl)|(intro h;cases h)) ?_;refine qK rfl (fun h22=>?_) (fun h22=>?_)
   ·try simp only [decide_eq_true_eq,Bool.or_eq_true] at h22
    try simp only [zds] at h22
    exfalso
    omega
   ·try simp only [decide_eq_false_iff_not,Bool.or_eq_false_iff,Int.not_lt] at h22
    try simp only [zds] at h22
    refine qM ?_;refine qC ?_;refine qB ?_;refine Or.inr (Or.inl (zei [] (zei [] (zei _ (zei _ (zei _ (zei _ (zei _ (zai (hla) (zai rfl (zai True.intro (zai rfl ?_))))))))))));refine qC ?_;refine qB ?_;refine Or.inr (Or.inl (zei [] (zei [] (zei _ (zei _ (zei _ (zei _ (zei _ (zai (hlb) (zai rfl (zai True.intro (zai rfl ?_))))))))))));refine qC ?_;refine qC ?_;refine qB ?_;refine zai (fun h=>trivial) ?_;refine zai (fun h=>⟨⟨h,trivial⟩,trivial⟩) ?_;refine zai (by first|(intro h;rw [h];rfl)|(intro h;cases h)) ?_;refine qK rfl (fun h38=>?_) (fun h38=>?_)
    ·try simp only [Bool.not_eq_true',Bool.or_eq_true] at h38
     try simp only [zds] at h38
     simp at h38
    ·try simp only [Bool.not_eq_false',Bool.or_eq_false_iff] at h38
     try simp only [zds] at h38
     refine qM ?_;refine qC ?_;refine qB ?_;refine Or.inr (Or.inr (Or.inl ?_));refine zai rfl ?_;refine zei _ (zai (hed) ?_);refine qC ?_;refine qC ?_;refine qB ?_;refine qK rfl (fun h46=>?_) (fun h46=>?_)
     ·try simp only [Bool.not_eq_true'] at h46
      try simp only [zds] at h46
      simp at h46
     ·try simp only [Bool.not_eq_false'] at h46
      try simp only [zds] at h46
      refine qM ?_;refine qC ?_;refine qC ?_;refine qB ?_;intro l12_1
      try simp only [zds] at l12_1
      refine qK rfl (fun h59=>?_) (fun h59=>?_)
      ·try simp only [decide_eq_true_eq] at h59
       try simp only [zds] at h59
       exact absurd (List.length_eq_zero_iff.1 (by omega)) h0
      ·try simp only [decide_eq_false_iff_not] at h59
       try simp only [zds] at h59
       refine qM ?_;refine qC ?_;refine qB ?_;refine Or.inr (Or.inr (Or.inl ?_));refine zai rfl ?_;refine zei _ (zai (hd) ?_);refine qC ?_;refine qC ?_;refine qB ?_;refine qK rfl (fun h73=>?_) (fun h73=>?_)
       ·skip
        refine qC ?_;refine qB ?_;refine Or.inl ?_;refine zai (rfl) ?_;refine zei _ (zai (is_fault q 11 (by decide)) ?_);refine qL ?_;rfl
       ·try simp only [zbq] at h73
        try simp only [zds] at h73
        simp at h73
theorem DL_ok (a b : ByteArray) (ha : ¬ 2000 < a.size) (hb : ¬ 2000 < b.size) {la lb : List Itm} (hpa : yJ a = .inr la) (hpb : yJ b = .inr lb) (h0 : edsL (ofT la) (qX (ofT lb).1) ≠ []) (h : ¬ 40 < (edsL (ofT la) (qX (ofT lb).1)).length) (hx : takes (ofT la) (edsL (ofT la) (qX (ofT lb).1))) (hrw : qX (runL (ofT la) (edsL (ofT la) (qX (ofT lb).1))).1 = qX (ofT lb).1) : qU Tryz.prog 8 [is a,is b] (ib true):=by
  have hla:=of_ok a (by omega) hpa;have hlb:=of_ok b (by omega) hpb;have hlk:=of_lok (by omega) hpa;have hmk:=of_lok (by omega) hpb;have hgd:=ofT_gd hpa;have hge:=ofT_gd hpb;have hgo:=rows_chk hpb;obtain ⟨L,hL⟩ : ∃ L,ofT la = L:=⟨_,rfl⟩;obtain ⟨M,hM⟩ : ∃ M,ofT lb = M:=⟨_,rfl⟩;rw [hL] at hlk hgd hla h0 h hx hrw;rw [hM] at hmk hge hlb hgo h0 h hx hrw;have hm4:=hgd.m4;have hm5:=hge.m4;have hxl:=drow_len hlk;have hyl:=drow_len hmk;have hfx:=drow_flds hlk;have hfy:=drow_flds hmk;have hll:=hlk.len;have hml:=hmk.len;have hfl : ∀ e ∈ L.1,e.1.2.2.length ≤ 1000000:=fun e he=>Nat.le_trans (hlk.flds e he).1 (by decide)
  have hfm : ∀ e ∈ M.1,e.1.2.2.length ≤ 1000000:=fun e he=>Nat.le_trans (hmk.flds e he).1 (by decide)
  have hdl:=eds_len L (qX M.1);have hed:=lists_yes (k:=1) (k':=1) L M hlk hmk (by decide) (by decide) (by omega) (by omega) h;have hck:=eds_chk hgo h0 h;have hef : ∀ e ∈ edsL L (qX M.1),yA e.2.2:=fun e he=>(eds_good hgo e he).2
  have hdx:=(doOk_o (κ:=0) (κ':=0) (k:=1) L (edsL L (qX M.1)) hlk (by omega) hef hck (takes_to _ _ hx)).x;have hYk:=run_ok hlk hef;rw [run_plays] at hdx;obtain ⟨Y,hY⟩ : ∃ Y,runL L (edsL L (qX M.1)) = Y:=⟨_,rfl⟩;rw [hY] at hdx hYk hrw;have hyk:=hYk.len;have hfY : ∀ e ∈ Y.1,e.1.2.2.length ≤ 1000000:=fun e he=>Nat.le_trans (hYk.flds e he).1 (by decide)
  have hez : edsL Y (qX M.1) = []:=eds_none.2 hrw;have hed2:=lists_yes (k:=1) (k':=1) Y M hYk hmk (by omega) (by decide) (by rw [hrw];omega) (by omega) (by rw [hez];decide);rw [hez] at hed2;refine qT (rs:=[4]) Tryz.func8 rfl rfl rfl teOk rfl ?_;refine qC ?_;refine qB ?_;refine qC ?_;refine qC ?_;refine qB ?_;refine Or.inl ?_;refine zai (rfl) ?_;refine zei _ (zai (dalive_c) ?_);refine qK rfl (fun h14=>?_) (fun h14=>?_)
  ·try simp only [Bool.not_eq_true'] at h14
   try simp only [zds] at h14
   simp at h14
  ·try simp only [Bool.not_eq_false'] at h14
   try simp only [zds] at h14
   refine qM ?_;refine qC ?_;refine qC ?_;refine qB ?_;refine zai (fun h=>trivial) ?_;refine zai (fun h=>⟨⟨h,trivial⟩,trivial⟩) ?_;refine zai (fun h=>⟨⟨h,trivial⟩,trivial⟩) ?_;refine zai (by first|(intro h;rw [h];rfl)|(intro h;cases h)) ?_;refine qK rfl (fun h22=>?_) (fun h22=>?_)
   ·try simp only [decide_eq_true_eq,Bool.or_eq_true] at h22
    try simp only [zds] at h22
    exfalso
    omega
   ·try simp only [decide_eq_false_iff_not,Bool.or_eq_false_iff,Int.not_lt] at h22
    try simp only [zds] at h22
    refine qM ?_;refine qC ?_;refine qB ?_;refine Or.inr (Or.inl (zei [] (zei [] (zei _ (zei _ (zei _ (zei _ (zei _ (zai (hla) (zai rfl (zai True.intro (zai rfl ?_))))))))))));refine qC ?_;refine qB ?_;refine Or.inr (Or.inl (zei [] (zei [] (zei _ (zei _ (zei _ (zei _ (zei _ (zai (hlb) (zai rfl (zai True.intro (zai rfl ?_))))))))))));refine qC ?_;refine qC ?_;refine qB ?_;refine zai (fun h=>trivial) ?_;refine zai (fun h=>⟨⟨h,trivial⟩,trivial⟩) ?_;refine zai (by first|(intro h;rw [h];rfl)|(intro h;cases h)) ?_;refine qK rfl (fun h38=>?_) (fun h38=>?_)
    ·try simp only [Bool.not_eq_true',Bool.or_eq_true] at h38
     try simp only [zds] at h38
     simp at h38
    ·try simp only [Bool.not_eq_false',Bool.or_eq_false_iff] at h38
     try simp only [zds] at h38
     refine qM ?_;refine qC ?_;refine qB ?_;refine Or.inr (Or.inr (Or.inl ?_));refine zai rfl ?_;refine zei _ (zai (hed) ?_);refine qC ?_;refine qC ?_;refine qB ?_;refine qK rfl (fun h46=>?_) (fun h46=>?_)
     ·try simp only [Bool.not_eq_true'] at h46
      try simp only [zds] at h46
      simp at h46
     ·try simp only [Bool.not_eq_false'] at h46
      try simp only [zds] at h46
      refine qM ?_;refine qC ?_;refine qC ?_;refine qB ?_;intro l12_1
      try simp only [zds] at l12_1
      refine qK rfl (fun h59=>?_) (fun h59=>?_)
      ·try simp only [decide_eq_true_eq] at h59
       try simp only [zds] at h59
       exact absurd (List.length_eq_zero_iff.1 (by omega)) h0
      ·try simp only [decide_eq_false_iff_not] at h59
       try simp only [zds] at h59
       refine qM ?_;refine qC ?_;refine qB ?_;refine Or.inr (Or.inr (Or.inr (zei [] (zei [] (zei _ (zei _ (zei _ (zei _ (zei _ (zai (hdx) (zai rfl (zai True.intro (zai rfl ?_)))))))))))));refine qC ?_;refine qC ?_;refine qB ?_;refine qK rfl (fun h73=>?_) (fun h73=>?_)
       ·try simp only [Bool.not_eq_true'] at h73
        try simp only [zds] at h73
        simp at h73
       ·try simp only [Bool.not_eq_false'] at h73
        try simp only [zds] at h73
        refine qM ?_;refine qC ?_;refine qB ?_;refine Or.inr (Or.inr (Or.inl ?_));refine zai rfl ?_;refine zei _ (zai (hed2) ?_);refine qC ?_;refine qB ?_;refine zai (fun h=>trivial) ?_;refine Or.inr (zai (by first|rfl|decide|simp) (zai (by repeat' (first|exact True.intro|apply zai|rfl|decide|simp)) ?_));refine Or.inr (Or.inr (Or.inl ?_));refine zai rfl ?_;refine zei _ (zai (rowsL_c Y.1 Y.2.1 Y.2.2 (by omega) hfY) ?_);refine zai (fun h=>trivial) ?_;refine Or.inr (zai (by first|rfl|decide|simp) (zai (by repeat' (first|exact True.intro|apply zai|rfl|decide|simp)) ?_));refine Or.inr (Or.inr (Or.inl ?_));refine zai rfl ?_;refine zei _ (zai (rowsL_c M.1 M.2.1 M.2.2 (by omega) hfm) ?_);refine Or.inl ?_;refine zai (rfl) ?_;refine zei _ (zai (fun h=>⟨trivial,dsame_c (qX Y.1) (qX M.1) (drow_flds hYk) hfy⟩) ?_);refine zai (by exact fun h=>h) ?_;refine zai (fun h=>trivial) ?_;refine zai (fun h=>⟨⟨h,trivial⟩,trivial⟩) ?_;refine zai (fun h=>⟨⟨h,trivial⟩,trivial⟩) ?_;refine zai (by exact fun h=>h) ?_;refine qL ?_;exact ib_eq (by rw [hrw];simp)
theorem DiffLists_c (a b : ByteArray) : qU Tryz.prog 8 [is a,is b] (ib true):=by
  by_cases h : 2000 < a.size ∨ 2000 < b.size
  · exact DL_big a b h
  · have ha : ¬ 2000 < a.size:=fun e=>h (.inl e)
    have hb : ¬ 2000 < b.size:=fun e=>h (.inr e)
    rcases hpa : yJ a with ⟨i,n⟩|la
    · rcases hpb : yJ b with ⟨j,m⟩|lb
      · exact DL_ee a b ha hb hpa hpb
      · exact DL_ek a b ha hb hpa hpb
    · rcases hpb : yJ b with ⟨j,m⟩|lb
      · exact DL_ke a b ha hb hpa hpb
      · by_cases h4 : 40 < (edsL (ofT la) (qX (ofT lb).1)).length
        · exact DL_many a b ha hb hpa hpb h4
        · by_cases h0 : edsL (ofT la) (qX (ofT lb).1) = []
          · exact DL_none a b ha hb hpa hpb h0
          · rcases eds_play (of_lok (by omega) hpa) (rows_chk hpb) with ⟨h1,h2⟩|h1
            · exact DL_ok a b ha hb hpa hpb h0 h4 h1 h2
            · exact DL_full a b ha hb hpa hpb h0 h4 h1
end Q
end Ab
end Go.Proofs.YtpfkncffaanjcaaGreatDoor
namespace Go.Proofs.YtpfkncffaanjcaaGreatDoor
open Go.RowKit
namespace Ab
set_option maxRecDepth 100000
theorem maxAt {W : World} (h : W.ShapedOpen Tryz.prog) : MaxCell W:=cell_of_shapedOpen_int (g:=1) (t:=3) (zero:=#[.int .i64 0]) h (of_decide_eq_true (by kernel_rfl)) (by kernel_rfl) rfl (by kernel_rfl) (by kernel_rfl) Tryz.underlying3
theorem lt_of_cell0 {W : World} {b : Nat} {v : Value} (h : W.cell? ⟨b,0,none⟩ = some v) : b < W.heap.size:=by
  rcases Nat.lt_or_ge b W.heap.size with h1|h1
  · exact h1
  · exfalso
    simp only [World.cell?,Array.getElem?_eq_none h1] at h;cases h
theorem et : Tryz.prog.globalNamed "errors.errorType" = some 0 := by kernel_rfl
theorem rt : (Tryz.prog.cutTypes.find? (·.1 == "internal/reflectlite.rtype")).map (·.2) = some 239 := by kernel_rfl
theorem oneRow : ((List.range Tryz.prog.types.size).filter fun t=>Tryz.prog.rowNamed t [101,114,114,111,114]) = [34]:=by kernel_rfl
theorem errHandle : typeHandle Tryz.prog 34 = .pointer (some ⟨3 + 1,34,none⟩):=by kernel_rfl
abbrev errDatum : String × DataW Unit := ("errors.errorType", .iface "internal/reflectlite.rtype" (.agg [.ptr (.lit (.string [101, 114, 114, 111, 114]))]))
theorem errAt {W : World} {l : List (String × DataW Unit)} (hm : errDatum ∈ l) (h : laidMetH Tryz.prog l W) : W.cell? ⟨0,0,none⟩ = some (.iface 239 (.agg #[.pointer (some ⟨3 + 1,34,none⟩)])):=by
  obtain ⟨name,u,ty,e1,e2,e3,e4,e5⟩:=(laidMetH_iff.1 h).2 _ (List.mem_filter.2 ⟨hm,rfl⟩);have en : name = [101,114,114,111,114]:=(Option.some.inj e1).symm;subst en;obtain rfl:=Option.some.inj (rt.symm.trans e2);have hm : ty ∈ (List.range Tryz.prog.types.size).filter fun t=>Tryz.prog.rowNamed t [101,114,114,111,114]:=List.mem_filter.2 ⟨List.mem_range.2 e3,e4⟩
  rw [oneRow] at hm;obtain rfl:=List.mem_singleton.1 hm;rw [errHandle] at e5
  simpa using World.var?_cell et e5 0
theorem globAtH {W : World} (h : W.ShapedOpen Tryz.prog) {l : List (String × DataW Unit)} (hm : errDatum ∈ l) (hL : laidMetH Tryz.prog l W) : GlobAt AllOk W:=by
  have hc : GlobCell W:=⟨maxAt h,errAt hm hL⟩;refine ⟨fun _ _=>trivial,?_,hc⟩;obtain ⟨⟨m,h1⟩,h2⟩:=hc;have h1:=lt_of_cell0 h1;have h2:=lt_of_cell0 h2;unfold nGlob;omega
theorem laidMet_lay {P : Program} {w0 : World} {laid : List (String × DataW Unit)} (args : Array Value)
    (hf : w0.layFits P laid [] = true) (hi : w0.layIfaces P laid (w0.layVars P laid) = true) : laidMet P laid ((w0.layVars P laid).forCall (fun _ _=>0) ⟨#[],args,[]⟩).memory:=by
  have e1 : (laid.filter fun x=>(laid.map (·.1)).contains x.1) = laid:=List.filter_eq_self.2 fun x hx=>List.contains_iff_mem.2 (List.mem_map.2 ⟨x,hx,rfl⟩)
  have e2 : (laid.filter fun x=>!(laid.map (·.1)).contains x.1) = []:=List.filter_eq_nil_iff.2 fun x hx=>by rw [List.contains_iff_mem.2 (List.mem_map.2 ⟨x,hx,rfl⟩)];simp
  have h : laidMet P laid (w0.layVars P laid):=laidMet_layVars (w0:=w0) (laid.map (·.1)) [] (by rw [e1]) (by rw [e1];exact hf) (by rw [e1];exact hi) (by rw [e2];exact LaidIn.none);exact h.of_heap (by simp [World.memory,World.forCall,Input.heap])
noncomputable def errWorld (os : Os) : World :=
  let w0:=World.holding Tryz.prog os ⟨#[],#[],[]⟩
  { w0 with heap:=w0.heap.modify 0 fun
      | .cells _ t frozen=>.cells #[.iface 239 (.agg #[.pointer (some ⟨3 + 1,34,none⟩)])] t frozen
      | o=>o }
noncomputable def laidWit (os : Os) (l : List (String × DataW Unit)) : World:=(errWorld os).layVars Tryz.prog (l.filter fun x=>x.2.handleName?.isNone)
theorem laidWit_os (os : Os) (l : List (String × DataW Unit)) : (laidWit os l).os = os:=World.layVars_os _ _ _
end Ab
end Go.Proofs.YtpfkncffaanjcaaGreatDoor
