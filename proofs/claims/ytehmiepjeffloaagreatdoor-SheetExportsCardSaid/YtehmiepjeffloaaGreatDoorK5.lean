/-
  The texts of this proof, joined: abstract values, the library, the functions of the program and what they compute (part 5). No condition.
-/
import Derived.Lib.UnsafeStr
import Derived.Shelf.RegionOpenPlain
import Derived.Shelf.Spec.SlicesInsert
import Derived.Lib.AppendZerosOnto
import Derived.Laws.NewBlocks
import Derived.Shelf.Vars
import Derived.KernelRfl
import Derived.Test.YtehmiepjeffloaaGreatDoorK1
import Derived.Test.YtehmiepjeffloaaGreatDoorK2
import Derived.Test.YtehmiepjeffloaaGreatDoorK3
import Derived.Test.YtehmiepjeffloaaGreatDoorK4
namespace Go.Proofs.YtehmiepjeffloaaGreatDoor
open Go.RowKit
namespace Ab
set_option maxRecDepth 100000
namespace Q
theorem itEs_len (es : List Ent) : (itEs es).length = (es.filter live).length:=List.length_map _
theorem itEs_get (es : List Ent) {i : Nat} (h : i < (itEs es).length) : ∃ e ∈ es,(es.filter live).getD i (((0 : Int),ByteArray.empty,([] : List Fld)),(0 : Int)) = e ∧ i < (es.filter live).length ∧ (itEs es)[i] = [A.agg (toL rEnt e)]:=by
  have h1 : i < (es.filter live).length:=by rw [← itEs_len];exact h
  refine ⟨_,(List.mem_filter.1 (xF h1 (((0 : Int),ByteArray.empty,([] : List Fld)),(0 : Int)))).1,rfl,h1,?_⟩;exact (List.getElem_map (fun e=>[A.agg (toL rEnt e)])).trans (congrArg (fun e=>[A.agg (toL rEnt e)]) (getD_get h1 (((0 : Int),ByteArray.empty,([] : List Fld)),(0 : Int))))
def stT (es : List Ent) (i : Nat) : List Stz:=((es.filter live).take i).map stzOf
theorem stT_snoc {es : List Ent} {i : Nat} (h : i < (es.filter live).length) : stT es (i + 1) = stT es i ++ [stzOf ((es.filter live).getD i (((0 : Int),ByteArray.empty,([] : List Fld)),(0 : Int)))]:=by
  unfold stT;rw [← yJ (((0 : Int),ByteArray.empty,([] : List Fld)),(0 : Int)) h,List.map_append];rfl
theorem stT_len {es : List Ent} {i : Nat} : (stT es i).length ≤ i:=by
  unfold stT;rw [List.length_map,List.length_take];omega
theorem live_len (es : List Ent) : (es.filter live).length ≤ es.length:=List.length_filter_le _ _
theorem stanzasL_c {k : Nat} (es : List Ent) (n m : Int) (hl : es.length ≤ 1000000) (hf : ∀ e ∈ es,e.1.2.2.length ≤ 1000000) : qS Tryz.prog 22 [.one (.adk k (rLst k) (es,n,m))] (.one (.sl rStz (stzL es))):=by
  have hll:=live_len es;refine qR (rs:=[2]) Tryz.func22 rfl rfl rfl teOk rfl ?_;refine qC ?_;refine qB ?_;refine qC ?_;refine qB ?_;refine qC ?_;refine qC ?_;refine qB ?_;refine Or.inl ?_;refine zai (rfl) ?_;refine zei _ (zai (all_c (es,n,m)) ?_);refine qN ?_;refine yE 0 0 62 rStz rfl rfl rfl ?_;refine acode_range (caps:=[.one (.ref (.adk k (rLst k) (es,n,m)))]) (xs:=itEs es) [(3,.one (.own 0 0)),(6,.one (.clo 72 (.ref (.adk k (rLst k) (es,n,m)))))] 2 (fun st j (i : Nat)=>st = false ∧ i = j) (fun i=>[(0,.box 58 [.vec 1]),(1,.vec 62 rStz (stT es i))]) (fun _=>.ret) 0 rfl rfl (all_iter es n m) (qQ ⟨rfl,rfl⟩ ⟨rfl,rfl⟩ rfl) ⟨rfl,rfl⟩ (fun j hj=>by simp [itEs]) rfl rfl rfl (fun _ _ _=>rfl) rfl ?_ ?_ ?_
  ·intro j i hk hp;obtain ⟨_,rfl⟩:=hp;obtain ⟨e,he,hg,hi,hx⟩:=itEs_get es hk;rw [hx];have hsn:=stT_snoc hi;rw [hg] at hsn;have hsl:=@stT_len es i;refine qB ?_;refine qN ?_;refine xM rfl ?_;refine qJ 1 rfl rfl rfl (by kernel_rfl) ?_;refine qJ 3 rfl rfl rfl (by kernel_rfl) ?_;refine qJ 4 rfl rfl rfl (by kernel_rfl) ?_;refine qG [0,2,5] (by kernel_rfl) rfl ?_;refine zai ?_ ?_
   ·refine qG [2,5] (by kernel_rfl) rfl ?_;refine zai ?_ ?_
    ·refine qG [5] (by kernel_rfl) rfl ?_;refine qG [6] (by kernel_rfl) rfl ?_;refine Or.inl ?_;refine zai (rfl) ?_;refine zei _ (zai (clone_c e.1.2.2 (hf e he)) ?_);refine qG [7] (by kernel_rfl) rfl ?_;refine qG [8] (by kernel_rfl) rfl ?_;refine qG [9] (by kernel_rfl) rfl ?_;refine zai (by exact qP (show (stT es i).length + 1 ≤ 1000000000 by omega) (by decide)) ?_;refine qG [10] (by kernel_rfl) rfl ?_;refine qO (by kernel_rfl) ?_;exact ⟨i + 1,⟨rfl,rfl⟩,qQ trivial ⟨rfl,qX (by rw [hsn];exact rfl)⟩ rfl⟩
    ·refine qG [2,6] (by kernel_rfl) rfl ?_;refine zai ?_ ?_
     ·refine qG [6] (by kernel_rfl) rfl ?_;refine Or.inl ?_;refine zai (rfl) ?_;refine zei _ (zai (clone_c e.1.2.2 (hf e he)) ?_);refine qG [7] (by kernel_rfl) rfl ?_;refine qG [8] (by kernel_rfl) rfl ?_;refine qG [9] (by kernel_rfl) rfl ?_;refine zai (by exact qP (show (stT es i).length + 1 ≤ 1000000000 by omega) (by decide)) ?_;refine qG [10] (by kernel_rfl) rfl ?_;refine qO (by kernel_rfl) ?_;exact ⟨i + 1,⟨rfl,rfl⟩,qQ trivial ⟨rfl,qX (by rw [hsn];exact rfl)⟩ rfl⟩
     ·refine Or.inl ?_;refine zai (rfl) ?_;refine zei _ (zai (clone_c e.1.2.2 (hf e he)) ?_);refine qG [2] (by kernel_rfl) rfl ?_;refine qG [7] (by kernel_rfl) rfl ?_;refine qG [8] (by kernel_rfl) rfl ?_;refine qG [9] (by kernel_rfl) rfl ?_;refine zai (by exact qP (show (stT es i).length + 1 ≤ 1000000000 by omega) (by decide)) ?_;refine qG [10] (by kernel_rfl) rfl ?_;refine qO (by kernel_rfl) ?_;exact ⟨i + 1,⟨rfl,rfl⟩,qQ trivial ⟨rfl,qX (by rw [hsn];exact rfl)⟩ rfl⟩
   refine zai ?_ ?_
   ·refine qG [0,5] (by kernel_rfl) rfl ?_;refine zai ?_ ?_
    ·refine qG [5] (by kernel_rfl) rfl ?_;refine qG [6] (by kernel_rfl) rfl ?_;refine Or.inl ?_;refine zai (rfl) ?_;refine zei _ (zai (clone_c e.1.2.2 (hf e he)) ?_);refine qG [7] (by kernel_rfl) rfl ?_;refine qG [8] (by kernel_rfl) rfl ?_;refine qG [9] (by kernel_rfl) rfl ?_;refine zai (by exact qP (show (stT es i).length + 1 ≤ 1000000000 by omega) (by decide)) ?_;refine qG [10] (by kernel_rfl) rfl ?_;refine qO (by kernel_rfl) ?_;exact ⟨i + 1,⟨rfl,rfl⟩,qQ trivial ⟨rfl,qX (by rw [hsn];exact rfl)⟩ rfl⟩
    ·refine qG [0,6] (by kernel_rfl) rfl ?_;refine zai ?_ ?_
     ·refine qG [6] (by kernel_rfl) rfl ?_;refine Or.inl ?_;refine zai (rfl) ?_;refine zei _ (zai (clone_c e.1.2.2 (hf e he)) ?_);refine qG [7] (by kernel_rfl) rfl ?_;refine qG [8] (by kernel_rfl) rfl ?_;refine qG [9] (by kernel_rfl) rfl ?_;refine zai (by exact qP (show (stT es i).length + 1 ≤ 1000000000 by omega) (by decide)) ?_;refine qG [10] (by kernel_rfl) rfl ?_;refine qO (by kernel_rfl) ?_;exact ⟨i + 1,⟨rfl,rfl⟩,qQ trivial ⟨rfl,qX (by rw [hsn];exact rfl)⟩ rfl⟩
     ·refine Or.inl ?_;refine zai (rfl) ?_;refine zei _ (zai (clone_c e.1.2.2 (hf e he)) ?_);refine qG [0,7] (by kernel_rfl) rfl ?_;refine zai ?_ ?_
      ·refine qG [7] (by kernel_rfl) rfl ?_;refine qG [8] (by kernel_rfl) rfl ?_;refine qG [9] (by kernel_rfl) rfl ?_;refine zai (by exact qP (show (stT es i).length + 1 ≤ 1000000000 by omega) (by decide)) ?_;refine qG [10] (by kernel_rfl) rfl ?_;refine qO (by kernel_rfl) ?_;exact ⟨i + 1,⟨rfl,rfl⟩,qQ trivial ⟨rfl,qX (by rw [hsn];exact rfl)⟩ rfl⟩
      ·refine qG [0,8] (by kernel_rfl) rfl ?_;refine zai ?_ ?_
       ·refine qG [8] (by kernel_rfl) rfl ?_;refine qG [9] (by kernel_rfl) rfl ?_;refine zai (by exact qP (show (stT es i).length + 1 ≤ 1000000000 by omega) (by decide)) ?_;refine qG [10] (by kernel_rfl) rfl ?_;refine qO (by kernel_rfl) ?_;exact ⟨i + 1,⟨rfl,rfl⟩,qQ trivial ⟨rfl,qX (by rw [hsn];exact rfl)⟩ rfl⟩
       ·refine qG [0] (by kernel_rfl) rfl ?_;refine qG [9] (by kernel_rfl) rfl ?_;refine zai (by exact qP (show (stT es i).length + 1 ≤ 1000000000 by omega) (by decide)) ?_;refine qG [10] (by kernel_rfl) rfl ?_;refine qO (by kernel_rfl) ?_;exact ⟨i + 1,⟨rfl,rfl⟩,qQ trivial ⟨rfl,qX (by rw [hsn];exact rfl)⟩ rfl⟩
   ·refine qG [0,2,6] (by kernel_rfl) rfl ?_;refine zai ?_ ?_
    ·refine qG [2,6] (by kernel_rfl) rfl ?_;refine zai ?_ ?_
     ·refine qG [6] (by kernel_rfl) rfl ?_;refine Or.inl ?_;refine zai (rfl) ?_;refine zei _ (zai (clone_c e.1.2.2 (hf e he)) ?_);refine qG [7] (by kernel_rfl) rfl ?_;refine qG [8] (by kernel_rfl) rfl ?_;refine qG [9] (by kernel_rfl) rfl ?_;refine zai (by exact qP (show (stT es i).length + 1 ≤ 1000000000 by omega) (by decide)) ?_;refine qG [10] (by kernel_rfl) rfl ?_;refine qO (by kernel_rfl) ?_;exact ⟨i + 1,⟨rfl,rfl⟩,qQ trivial ⟨rfl,qX (by rw [hsn];exact rfl)⟩ rfl⟩
     ·refine Or.inl ?_;refine zai (rfl) ?_;refine zei _ (zai (clone_c e.1.2.2 (hf e he)) ?_);refine qG [2] (by kernel_rfl) rfl ?_;refine qG [7] (by kernel_rfl) rfl ?_;refine qG [8] (by kernel_rfl) rfl ?_;refine qG [9] (by kernel_rfl) rfl ?_;refine zai (by exact qP (show (stT es i).length + 1 ≤ 1000000000 by omega) (by decide)) ?_;refine qG [10] (by kernel_rfl) rfl ?_;refine qO (by kernel_rfl) ?_;exact ⟨i + 1,⟨rfl,rfl⟩,qQ trivial ⟨rfl,qX (by rw [hsn];exact rfl)⟩ rfl⟩
    refine zai ?_ ?_
    ·refine qG [0,6] (by kernel_rfl) rfl ?_;refine zai ?_ ?_
     ·refine qG [6] (by kernel_rfl) rfl ?_;refine Or.inl ?_;refine zai (rfl) ?_;refine zei _ (zai (clone_c e.1.2.2 (hf e he)) ?_);refine qG [7] (by kernel_rfl) rfl ?_;refine qG [8] (by kernel_rfl) rfl ?_;refine qG [9] (by kernel_rfl) rfl ?_;refine zai (by exact qP (show (stT es i).length + 1 ≤ 1000000000 by omega) (by decide)) ?_;refine qG [10] (by kernel_rfl) rfl ?_;refine qO (by kernel_rfl) ?_;exact ⟨i + 1,⟨rfl,rfl⟩,qQ trivial ⟨rfl,qX (by rw [hsn];exact rfl)⟩ rfl⟩
     ·refine Or.inl ?_;refine zai (rfl) ?_;refine zei _ (zai (clone_c e.1.2.2 (hf e he)) ?_);refine qG [0,7] (by kernel_rfl) rfl ?_;refine zai ?_ ?_
      ·refine qG [7] (by kernel_rfl) rfl ?_;refine qG [8] (by kernel_rfl) rfl ?_;refine qG [9] (by kernel_rfl) rfl ?_;refine zai (by exact qP (show (stT es i).length + 1 ≤ 1000000000 by omega) (by decide)) ?_;refine qG [10] (by kernel_rfl) rfl ?_;refine qO (by kernel_rfl) ?_;exact ⟨i + 1,⟨rfl,rfl⟩,qQ trivial ⟨rfl,qX (by rw [hsn];exact rfl)⟩ rfl⟩
      ·refine qG [0,8] (by kernel_rfl) rfl ?_;refine zai ?_ ?_
       ·refine qG [8] (by kernel_rfl) rfl ?_;refine qG [9] (by kernel_rfl) rfl ?_;refine zai (by exact qP (show (stT es i).length + 1 ≤ 1000000000 by omega) (by decide)) ?_;refine qG [10] (by kernel_rfl) rfl ?_;refine qO (by kernel_rfl) ?_;exact ⟨i + 1,⟨rfl,rfl⟩,qQ trivial ⟨rfl,qX (by rw [hsn];exact rfl)⟩ rfl⟩
       ·refine qG [0] (by kernel_rfl) rfl ?_;refine qG [9] (by kernel_rfl) rfl ?_;refine zai (by exact qP (show (stT es i).length + 1 ≤ 1000000000 by omega) (by decide)) ?_;refine qG [10] (by kernel_rfl) rfl ?_;refine qO (by kernel_rfl) ?_;exact ⟨i + 1,⟨rfl,rfl⟩,qQ trivial ⟨rfl,qX (by rw [hsn];exact rfl)⟩ rfl⟩
    ·refine Or.inl ?_;refine zai (rfl) ?_;refine zei _ (zai (clone_c e.1.2.2 (hf e he)) ?_);refine qG [0,2] (by kernel_rfl) rfl ?_;refine zai ?_ ?_
     ·refine qG [2] (by kernel_rfl) rfl ?_;refine qG [7] (by kernel_rfl) rfl ?_;refine qG [8] (by kernel_rfl) rfl ?_;refine qG [9] (by kernel_rfl) rfl ?_;refine zai (by exact qP (show (stT es i).length + 1 ≤ 1000000000 by omega) (by decide)) ?_;refine qG [10] (by kernel_rfl) rfl ?_;refine qO (by kernel_rfl) ?_;exact ⟨i + 1,⟨rfl,rfl⟩,qQ trivial ⟨rfl,qX (by rw [hsn];exact rfl)⟩ rfl⟩
     ·refine qG [0,7] (by kernel_rfl) rfl ?_;refine zai ?_ ?_
      ·refine qG [7] (by kernel_rfl) rfl ?_;refine qG [8] (by kernel_rfl) rfl ?_;refine qG [9] (by kernel_rfl) rfl ?_;refine zai (by exact qP (show (stT es i).length + 1 ≤ 1000000000 by omega) (by decide)) ?_;refine qG [10] (by kernel_rfl) rfl ?_;refine qO (by kernel_rfl) ?_;exact ⟨i + 1,⟨rfl,rfl⟩,qQ trivial ⟨rfl,qX (by rw [hsn];exact rfl)⟩ rfl⟩
      ·refine qG [0,8] (by kernel_rfl) rfl ?_;refine zai ?_ ?_
       ·refine qG [8] (by kernel_rfl) rfl ?_;refine qG [9] (by kernel_rfl) rfl ?_;refine zai (by exact qP (show (stT es i).length + 1 ≤ 1000000000 by omega) (by decide)) ?_;refine qG [10] (by kernel_rfl) rfl ?_;refine qO (by kernel_rfl) ?_;exact ⟨i + 1,⟨rfl,rfl⟩,qQ trivial ⟨rfl,qX (by rw [hsn];exact rfl)⟩ rfl⟩
       ·refine qG [0] (by kernel_rfl) rfl ?_;refine qG [9] (by kernel_rfl) rfl ?_;refine zai (by exact qP (show (stT es i).length + 1 ≤ 1000000000 by omega) (by decide)) ?_;refine qG [10] (by kernel_rfl) rfl ?_;refine qO (by kernel_rfl) ?_;exact ⟨i + 1,⟨rfl,rfl⟩,qQ trivial ⟨rfl,qX (by rw [hsn];exact rfl)⟩ rfl⟩
  ·intro i hp;obtain ⟨_,rfl⟩:=hp;refine qC ?_;refine qB ?_;refine qL ?_;rw [show stT es (itEs es).length = stzL es from by unfold stT stzL;rw [itEs_len,List.take_length]];exact rfl
  ·intro j i hp;exact absurd hp.1 (by decide)
theorem stanzasN_c : qS Tryz.prog 22 [.one (.lit (.pointer none))] (.one (.sl rStz [])):=by
  refine qR (rs:=[2]) Tryz.func22 rfl rfl rfl teOk rfl ?_;refine qC ?_;refine qB ?_;refine qC ?_;refine qB ?_;refine qC ?_;refine qC ?_;refine qB ?_;refine Or.inl ?_;refine zai (rfl) ?_;refine zei _ (zai (allN_c) ?_);refine qN ?_;refine yE 0 0 62 rStz rfl rfl rfl ?_;refine acode_range (caps:=[.one (.ref (.lit (.pointer none)))]) (xs:=[]) [(3,.one (.own 0 0)),(6,.one (.clo 72 (.ref (.lit (.pointer none)))))] 2 (fun st j (i : Nat)=>st = false ∧ i = j) (fun _=>[(0,.box 58 [.vec 1]),(1,.vec 62 rStz [])]) (fun _=>.ret) 0 rfl rfl allN_iter (qQ ⟨rfl,rfl⟩ ⟨rfl,rfl⟩ rfl) ⟨rfl,rfl⟩ (fun j hj=>by cases hj) rfl rfl rfl (fun _ _ _=>rfl) rfl ?_ ?_ ?_
  ·intro j i hk hp;cases hk
  ·intro i hp;obtain ⟨_,rfl⟩:=hp;refine qC ?_;refine qB ?_;refine qL ?_;exact rfl
  ·intro j i hp;exact absurd hp.1 (by decide)
end Q
end Ab
end Go.Proofs.YtehmiepjeffloaaGreatDoor
namespace Go.Proofs.YtehmiepjeffloaaGreatDoor
open Go.RowKit
namespace Ab
set_option maxRecDepth 100000
set_option maxHeartbeats 2000000
namespace Q
abbrev z4 : List Value:=[.int .i64 0,.string ⟨#[]⟩,.slice none 0 0,.int .i64 0]
end Q
end Ab
end Go.Proofs.YtehmiepjeffloaaGreatDoor
namespace Go.Proofs.YtehmiepjeffloaaGreatDoor
open Go.RowKit
namespace Ab
set_option maxRecDepth 100000
set_option maxHeartbeats 4000000
namespace Q
def RowTo (w w' : World) (v u : Value) (n : Nat) (cs : List Value) : Prop :=
  w'.ownsRow 0 83 4 u n cs ∧ Grew w w' (blk (some v)) ∧ (∀ b,blk (some u) = some b → blk (some v) = some b ∨ (w.heap.size ≤ b ∧ b < w'.heap.size)) ∧ ∃ a n c,u = .slice a n c
end Q
end Ab
end Go.Proofs.YtehmiepjeffloaaGreatDoor
namespace Go.Proofs.YtehmiepjeffloaaGreatDoor
open Go.RowKit
namespace Ab
set_option maxRecDepth 100000
namespace Q
section
variable {cx : Cx} {ob : Obs} {nx : Nat} {ρ : Nat → Option Value} {w w' : World}
end
end Q
end Ab
end Go.Proofs.YtehmiepjeffloaaGreatDoor
namespace Go.Proofs.YtehmiepjeffloaaGreatDoor
open Go.RowKit
namespace Ab
set_option maxRecDepth 100000
namespace Q
end Q
end Ab
end Go.Proofs.YtehmiepjeffloaaGreatDoor
namespace Go.Proofs.YtehmiepjeffloaaGreatDoor
open Go.RowKit
namespace Ab
set_option maxRecDepth 100000
namespace Q
def prPl (es : List Ent) (id : Int) : Bool → Nat → Nat × Int → Prop
  | false,j,x=>x.1 = j ∧ x.2 = 0 ∧ ((es.filter live).take x.1).any (hasId id) = false
  | true,_,x=>x.2 = plcL es id
end Q
end Ab
end Go.Proofs.YtehmiepjeffloaaGreatDoor
namespace Go.Proofs.YtehmiepjeffloaaGreatDoor
open Go.RowKit
namespace Ab
set_option maxRecDepth 100000
namespace Q
theorem isNoneL_c : qS Tryz.prog 13 [.one (errN 7),ii .i64 7] (ib true):=by
  refine qR (rs:=[4]) Tryz.func13 rfl rfl rfl teOk rfl ?_;refine qC ?_;refine qB ?_;refine qC ?_;refine qB ?_;refine Or.inl ?_;refine zai (rfl) ?_;refine zei _ (zai (num_errno 7 (by decide)) ?_);refine qL ?_;rfl
end Q
end Ab
end Go.Proofs.YtehmiepjeffloaaGreatDoor
namespace Go.Proofs.YtehmiepjeffloaaGreatDoor
open Go.RowKit
namespace Ab
set_option maxRecDepth 100000
namespace Q
def fstV (k : ByteArray) : List Fld → ByteArray
  | []=>⟨#[]⟩
  | f :: l=>if f.1 = k then f.2 else fstV k l
def keyIs (k : ByteArray) (f : Fld) : Bool:=decide (f.1 = k)
theorem fstV_none {k : ByteArray} : ∀ {l : List Fld},l.any (keyIs k) = false → fstV k l = ⟨#[]⟩
  | [],_=>rfl
  | f :: l,h=>by
    rw [List.any_cons,Bool.or_eq_false_iff] at h;unfold fstV;rw [if_neg (of_decide_eq_false h.1)];exact fstV_none h.2
theorem fstV_at {k : ByteArray} (d : Fld) : ∀ {l : List Fld} {i : Nat},i < l.length → (l.take i).any (keyIs k) = false → keyIs k (l.getD i d) = true → fstV k l = (l.getD i d).2
  | [],_,h,_,_=>by cases h
  | f :: l,0,_,_,h=>by
    unfold fstV;exact if_pos (of_decide_eq_true h)
  | f :: l,i + 1,h,h1,h2=>by
    rw [List.take_succ_cons,List.any_cons,Bool.or_eq_false_iff] at h1;unfold fstV;rw [if_neg (of_decide_eq_false h1.1)];exact fstV_at d (Nat.lt_of_succ_lt_succ h) h1.2 h2
theorem fstV_size {k : ByteArray} {n : Nat} : ∀ {l : List Fld},(∀ f ∈ l,f.2.size ≤ n) → (fstV k l).size ≤ n
  | [],_=>Nat.zero_le _
  | f :: l,h=>by
    unfold fstV;split
    · exact h f (List.mem_cons_self ..)
    · exact fstV_size fun g hg=>h g (List.mem_cons_of_mem _ hg)
def rowX (keys : List ByteArray) (x : Stz) : List ByteArray:=keys.map fun k=>fstV k x.2
def rowsX (keys : List ByteArray) (ss : List Stz) : List (List ByteArray):=keys :: ss.map (rowX keys)
def hasK (v : ByteArray) (l : List ByteArray) : Bool:=l.any fun x=>decide (v = x)
def addK (out : List ByteArray) (f : Fld) : List ByteArray:=if hasK f.1 out = true then out else out ++ [f.1]
def keysX (ss : List Stz) : List ByteArray:=ss.foldl (fun out x=>x.2.foldl addK out) []
theorem addK_new {out : List ByteArray} {f : Fld} (h : hasK f.1 out = false) : addK out f = out ++ [f.1]:=by
  unfold addK;rw [if_neg (by rw [h];decide)]
theorem addK_old {out : List ByteArray} {f : Fld} (h : hasK f.1 out = true) : addK out f = out:=if_pos h
theorem addK_len (out : List ByteArray) (f : Fld) : (addK out f).length ≤ out.length + 1:=by
  unfold addK;split
  · omega
  · rw [List.length_append];exact Nat.le_refl _
theorem addKs_len : ∀ (l : List Fld) (out : List ByteArray),(l.foldl addK out).length ≤ out.length + l.length
  | [],_=>Nat.le_refl _
  | f :: l,out=>by
    have h1:=addKs_len l (addK out f);have h2:=addK_len out f;simp only [List.foldl_cons,List.length_cons];omega
theorem keysX_len {ss : List Stz} (n : Nat) (h : ∀ x ∈ ss,x.2.length ≤ n) : (keysX ss).length ≤ ss.length * n:=by
  unfold keysX
  suffices h2 : ∀ (ss : List Stz) (out : List ByteArray),(∀ x ∈ ss,x.2.length ≤ n) → (ss.foldl (fun out x=>x.2.foldl addK out) out).length ≤ out.length + ss.length * n by
    have:=h2 ss [] h
    simpa using this
  intro ss
  induction ss with
  | nil=>intro out _;simp
  | cons x ss ih =>
    intro out h;have h1:=ih (x.2.foldl addK out) (fun y hy=>h y (List.mem_cons_of_mem _ hy));have h2:=addKs_len x.2 out;have h3:=h x (List.mem_cons_self ..);simp only [List.foldl_cons,List.length_cons,Nat.add_mul,Nat.one_mul];omega
theorem keysX_snoc {ss : List Stz} {i : Nat} (h : i < ss.length) : keysX (ss.take (i + 1)) = (ss.getD i ((0 : Int),([] : List Fld))).2.foldl addK (keysX (ss.take i)):=by
  unfold keysX;rw [← yJ ((0 : Int),([] : List Fld)) h,List.foldl_append];rfl
theorem addK_snoc {l : List Fld} {j : Nat} (out : List ByteArray) (h : j < l.length) : (l.take (j + 1)).foldl addK out = addK ((l.take j).foldl addK out) (l.getD j (ByteArray.empty,ByteArray.empty)):=by
  rw [← yJ (ByteArray.empty,ByteArray.empty) h,List.foldl_append];rfl
theorem rowsX_snoc {keys : List ByteArray} {ss : List Stz} {i : Nat} (h : i < ss.length) : rowsX keys (ss.take (i + 1)) = rowsX keys (ss.take i) ++ [rowX keys (ss.getD i ((0 : Int),([] : List Fld)))]:=by
  unfold rowsX;rw [← yJ ((0 : Int),([] : List Fld)) h,List.map_append];rfl
theorem rowsX_good {keys : List ByteArray} (h : 0 < keys.length) (ss : List Stz) : shGood (rowsX keys ss) = true:=by
  unfold shGood;refine List.all_eq_true.2 fun r hr=>?_
  have hl : r.length = keys.length:=by
    rcases List.mem_cons.1 hr with rfl|hr
    · rfl
    · obtain ⟨x,_,rfl⟩:=List.mem_map.1 hr;exact List.length_map _
  cases r with
  | nil=>simp at hl;omega
  | cons=>rfl
theorem mR_le {r : List ByteArray} {n : Nat} (h : ∀ s ∈ r,s.size ≤ n) : mR r ≤ r.length * (n + 1):=by
  induction r with
  | nil=>simp [mR]
  | cons s r ih =>
    have h1:=ih fun t ht=>h t (List.mem_cons_of_mem _ ht)
    have h2:=h s (List.mem_cons_self ..);have e : mR (s :: r) = s.size + 1 + mR r:=by simp [mR]
    rw [e,List.length_cons,Nat.add_mul,Nat.one_mul];omega
theorem mT_le {t : List (List ByteArray)} {n : Nat} (h : ∀ r ∈ t,mR r ≤ n) : mT t ≤ t.length * n:=by
  induction t with
  | nil=>simp [mT]
  | cons r t ih =>
    have h1:=ih fun u hu=>h u (List.mem_cons_of_mem _ hu)
    have h2:=h r (List.mem_cons_self ..);have e : mT (r :: t) = mR r + mT t:=by simp [mT]
    rw [e,List.length_cons,Nat.add_mul,Nat.one_mul];omega
theorem rowsX_m {keys : List ByteArray} {ss : List Stz} (hk : keysOk keys = true) (hl : keys.length ≤ 12) (hs : ∀ x ∈ ss,∀ f ∈ x.2,f.2.size ≤ 1000) (hn : ss.length ≤ 400) : mT (rowsX keys ss) ≤ 100000000:=by
  have hks : ∀ k ∈ keys,k.size ≤ 1000:=fun k hkm=>Nat.le_trans (keyOk_size (List.all_eq_true.1 hk k hkm)) (by decide)
  have h1 : ∀ r ∈ rowsX keys ss,mR r ≤ 12 * 1001:=fun r hr=>by
    rcases List.mem_cons.1 hr with rfl|hr
    · exact Nat.le_trans (mR_le hks) (Nat.mul_le_mul_right _ hl)
    · obtain ⟨x,hx,rfl⟩:=List.mem_map.1 hr;refine Nat.le_trans (mR_le (n:=1000) fun s hs'=>?_) (Nat.mul_le_mul_right _ (by unfold rowX;rw [List.length_map];exact hl));obtain ⟨k,_,rfl⟩:=List.mem_map.1 hs';exact fstV_size (hs x hx)
  have h2:=mT_le h1;have h3 : (rowsX keys ss).length ≤ 401:=by unfold rowsX;rw [List.length_cons,List.length_map];omega
  have h4 : (rowsX keys ss).length * (12 * 1001) ≤ 401 * (12 * 1001):=Nat.mul_le_mul_right _ h3;omega
theorem index_FS (f : FuncId) {β : Type} (S : Rd β) (y : β) (l : List (Fld)) (p : Fld → Bool) (hp : ∀ x ∈ l,qS Tryz.prog f [.agg (toL rFld x),.one (.addr S y)] (ib (p x))) : qS Tryz.prog 62 [.one (.sl rFld l),.one (.clo f (.addr S y))] (ii .i64 (ixOf p l)):=by
  refine qR (rs:=[4]) Tryz.func62 rfl rfl rfl teOk rfl ?_;refine qC ?_;refine qB ?_;refine qC ?_;refine qC ?_;refine qB ?_;intro l1_1
  try simp only [zds] at l1_1
  refine qN ?_;refine qU (fun (i : Nat)=>i ≤ l.length ∧ (l.take i).any p = false) (fun (i : Nat)=>[(0,.one (.sl rFld l)),(1,.one (.clo f (.addr S y))),(7,ii .i64 l.length),(8,ii .i64 i)]) (fun (i : Nat)=>[]) 0 (fun (i : Nat)=>l.length - i) 0 (⟨Nat.zero_le _,rfl⟩) (qQ ⟨rfl,rfl,rfl,rfl⟩ trivial rfl) ?_;intro i hI0;obtain ⟨hi,hn⟩:=hI0;refine qC ?_;refine qB ?_;refine qC ?_;refine qK rfl (fun h9=>?_) (fun h9=>?_)
  ·try simp only [decide_eq_true_eq] at h9
   try simp only [zds] at h9
   refine qM ?_;refine qC ?_;refine qN ?_;refine qC ?_;refine qB ?_;refine qC ?_;refine qB ?_;refine zai (by first|omega|assumption|decide|(simp only [zds];omega)|(simp <;> omega)) ?_;refine Or.inl ?_;refine zai (rfl) ?_;refine zei _ (zai (hp _ (xF (show i < l.length by omega) _)) ?_);refine qK rfl (fun h16=>?_) (fun h16=>?_)
   ·try simp only [zbq] at h16
    try simp only [Int.toNat_natCast,qH,qF] at h16
    refine qC ?_;refine qB ?_;refine qL ?_;exact qT (ixOf_at (rFld).dflt (by omega) hn h16).symm
   ·try simp only [zbq] at h16
    try simp only [Int.toNat_natCast,qH,qF] at h16
    refine qM ?_;refine qB ?_;refine zai (by first|omega|assumption|decide|(simp only [zds];omega)|(simp <;> omega)) ?_;exact ⟨i + 1,⟨by omega,by rw [take_any l p (rFld).dflt i (by omega),hn];exact h16⟩,by first|omega|(simp <;> omega),qQ ⟨rfl,rfl,rfl,rfl⟩ trivial rfl⟩
  ·try simp only [decide_eq_false_iff_not,Int.not_lt] at h9
   try simp only [zds] at h9
   refine qY ?_;refine qC ?_;refine qB ?_;refine qL ?_;have e : i = l.length:=by omega
   subst e;rw [List.take_length] at hn;exact qT (ixOf_none hn).symm
theorem first1_c (k : ByteArray) (f : Fld) : qS Tryz.prog 63 [.agg (toL rFld f),.one (.addr .str k)] (ib (keyIs k f)):=by
  refine qR (rs:=[3]) Tryz.func63 rfl rfl rfl teOk rfl ?_;refine qC ?_;refine qB ?_;refine qC ?_;refine qB ?_;refine qL ?_;rfl
theorem first_c (k : ByteArray) (l : List Fld) : qS Tryz.prog 33 [is k,.one (.sl rFld l)] (is (fstV k l)):=by
  refine qR (rs:=[4]) Tryz.func33 rfl rfl rfl teOk rfl ?_;refine qC ?_;refine qB ?_;refine qC ?_;refine yF [0] ?_;refine qB ?_;refine Or.inl ?_;refine zai (rfl) ?_;refine zei _ (zai (index_FS _ .str k l (keyIs k) (fun x _=>first1_c k x)) ?_);refine qC ?_;refine qC ?_;rcases ixOf_cases (keyIs k) l (ByteArray.empty,ByteArray.empty) with ⟨h1,h2⟩|⟨i,h1,h2,h3,h4⟩
  ·refine qB ?_;refine qK rfl (fun h10=>?_) (fun h10=>?_)
   ·try simp only [decide_eq_true_eq] at h10
    try simp only [zds] at h10
    refine qC ?_;refine qB ?_;refine qL ?_;exact is_eq (fstV_none h2).symm
   ·try simp only [decide_eq_false_iff_not,Int.not_lt] at h10
    try simp only [zds] at h10
    omega
  ·refine qB ?_;refine qK rfl (fun h10=>?_) (fun h10=>?_)
   ·try simp only [decide_eq_true_eq] at h10
    try simp only [zds] at h10
    omega
   ·try simp only [decide_eq_false_iff_not,Int.not_lt] at h10
    try simp only [zds] at h10
    have hi : Int.toNat (ixOf (keyIs k) l) = i:=by omega
    refine qM ?_;refine qC ?_;refine qB ?_;refine zai (by omega) ?_;refine qL ?_;exact is_eq (by rw [fstV_at (ByteArray.empty,ByteArray.empty) h1 h3 h4,hi];exact rfl)
theorem expv_c {κ : Nat} (k : ByteArray) (x : Stz) : qS Tryz.prog 32 [is k,.one (.adk κ rStz x)] (is (fstV k x.2)):=by
  refine qR (rs:=[3]) Tryz.func32 rfl rfl rfl teOk rfl ?_;refine qC ?_;refine qB ?_;refine qC ?_;refine qB ?_;refine Or.inl ?_;refine zai (rfl) ?_;refine zei _ (zai (first_c k x.2) ?_);refine qL ?_;rfl
theorem exp_nil {k : Nat} (es : List Ent) (n m : Int) : qS Tryz.prog 9 [.one (.adk k (rLst k) (es,n,m)),.one (.sl .str [])] (.tup [(false,[.lit (.string ⟨#[]⟩)]),(false,[errN 2])]):=by
  refine qR (rs:=[4,5]) Tryz.func9 rfl rfl rfl teOk rfl ?_;refine qC ?_;refine qB ?_;refine qC ?_;refine qN ?_;refine qC ?_;refine qB ?_;refine qK rfl (fun h10=>?_) (fun h10=>?_)
  ·try simp only [zbq] at h10
   try simp only [zds] at h10
   simp at h10
  ·skip
   refine qC ?_;refine qB ?_;intro l3_1
   try simp only [zds] at l3_1
   refine qK rfl (fun h14=>?_) (fun h14=>?_)
   ·try simp only [decide_eq_true_eq] at h14
    try simp only [zds] at h14
    refine qC ?_;refine qB ?_;refine qL ?_;rfl
   ·try simp only [decide_eq_false_iff_not] at h14
    try simp only [zds] at h14
    simp at h14
theorem exp_bad {k : Nat} (es : List Ent) (n m : Int) (keys : List ByteArray) (h0 : 0 < keys.length) (hk : keysOk keys = false) : qS Tryz.prog 9 [.one (.adk k (rLst k) (es,n,m)),.one (.sl .str keys)] (.tup [(false,[.lit (.string ⟨#[]⟩)]),(false,[errN 5])]):=by
  refine qR (rs:=[4,5]) Tryz.func9 rfl rfl rfl teOk rfl ?_;refine qC ?_;refine qB ?_;refine qC ?_;refine qN ?_;refine qC ?_;refine qB ?_;refine qK rfl (fun h10=>?_) (fun h10=>?_)
  ·try simp only [zbq] at h10
   try simp only [zds] at h10
   simp at h10
  ·skip
   refine qC ?_;refine qB ?_;intro l3_1
   try simp only [zds] at l3_1
   refine qK rfl (fun h14=>?_) (fun h14=>?_)
   ·try simp only [decide_eq_true_eq] at h14
    try simp only [zds] at h14
    omega
   ·try simp only [decide_eq_false_iff_not] at h14
    try simp only [zds] at h14
    refine qM ?_;refine qC ?_;refine qC ?_;refine qB ?_;refine Or.inl ?_;refine zai (rfl) ?_;refine zei _ (zai (shgoodA_not keys hk) ?_);refine qC ?_;refine qB ?_;refine qK rfl (fun h22=>?_) (fun h22=>?_)
    ·skip
     refine qC ?_;refine qB ?_;refine qL ?_;rfl
    ·try simp only [zbq] at h22
     try simp only [zds] at h22
     simp at h22
theorem exp_ok {k : Nat} (es : List Ent) (n m : Int) (keys : List ByteArray) (h0 : 0 < keys.length) (hk : keysOk keys = true) (hl : es.length ≤ 1000000) (hf : ∀ e ∈ es,e.1.2.2.length ≤ 1000000) (h12 : keys.length ≤ 12) (hs : ∀ x ∈ stzL es,∀ f ∈ x.2,f.2.size ≤ 1000) (hn : (stzL es).length ≤ 400) : qS Tryz.prog 9 [.one (.adk k (rLst k) (es,n,m)),.one (.sl .str keys)] (.tup [(false,[.lit (.string (bytes (yV (lst (rowsX keys (stzL es))))))]),(false,[.lit .nilIface])]):=by
  have hw:=write_yes (rowsX keys (stzL es)) (rowsX_good h0 _) (rowsX_m hk h12 hs hn) (by unfold rowsX;rw [List.length_cons,List.length_map];omega);have hst:=stanzasL_c (k:=k) es n m hl hf;obtain ⟨ss,hss⟩ : ∃ ss,stzL es = ss:=⟨_,rfl⟩;rw [hss] at hw hn hst ⊢;refine qR (rs:=[4,5]) Tryz.func9 rfl rfl rfl teOk rfl ?_;refine qC ?_;refine qB ?_;refine qC ?_;refine qN ?_;refine qC ?_;refine qB ?_;refine qK rfl (fun h10=>?_) (fun h10=>?_)
  ·try simp only [zbq] at h10
   try simp only [zds] at h10
   simp at h10
  ·skip
   refine qC ?_;refine qB ?_;intro l3_1
   try simp only [zds] at l3_1
   refine qK rfl (fun h14=>?_) (fun h14=>?_)
   ·try simp only [decide_eq_true_eq] at h14
    try simp only [zds] at h14
    omega
   ·try simp only [decide_eq_false_iff_not] at h14
    try simp only [zds] at h14
    refine qM ?_;refine qC ?_;refine qC ?_;refine qB ?_;refine Or.inl ?_;refine zai (rfl) ?_;refine zei _ (zai (shgoodA_yes keys hk) ?_);refine qC ?_;refine qB ?_;refine qK rfl (fun h22=>?_) (fun h22=>?_)
    ·try simp only [Bool.not_eq_true'] at h22
     try simp only [zds] at h22
     simp at h22
    ·try simp only [Bool.not_eq_false'] at h22
     try simp only [zds] at h22
     refine qM ?_;refine qC ?_;refine qB ?_;refine qC ?_;refine qC ?_;refine qB ?_;refine Or.inl ?_;refine zai (rfl) ?_;refine zei _ (zai (hst) ?_);intro l9_2
     try simp only [zds] at l9_2
     refine qN ?_;refine qU (fun (i : Nat)=>i ≤ ss.length) (fun (i : Nat)=>[(1,.one (.sl .str keys)),(7,.one (.vec 0)),(27,.one (.sl rStz ss)),(28,ii .i64 ss.length),(29,ii .i64 i)]) (fun (i : Nat)=>[(0,.vec 22 (.sl .str) (rowsX keys (ss.take i)))]) 1 (fun (i : Nat)=>ss.length - i) 0 (Nat.zero_le _) (qQ ⟨rfl,rfl,rfl,rfl,rfl⟩ rfl rfl) ?_;intro i hI1;refine qC ?_;refine qB ?_;refine qC ?_;refine qK rfl (fun h30=>?_) (fun h30=>?_)
     ·try simp only [decide_eq_true_eq] at h30
      try simp only [zds] at h30
      have hil : i < ss.length:=(by omega);have hsn:=rowsX_snoc (keys:=keys) hil;have hrl : (rowsX keys (ss.take i)).length ≤ 401:=(by unfold rowsX;rw [List.length_cons,List.length_map,List.length_take];omega);refine qM ?_;refine qC ?_;refine qN ?_;refine qC ?_;refine qB ?_;refine zai (by first|omega|assumption|decide|(simp only [zds];omega)|(simp <;> omega)) ?_;refine qB ?_;refine Or.inl ?_;refine zai (rfl) ?_;refine zei _ (zai (each_c 32 rStz (ss.getD i ((0 : Int),([] : List Fld))) keys (by omega) (fun k=>fstV k (ss.getD i ((0 : Int),([] : List Fld))).2) (fun k _=>expv_c k _)) ?_);refine zai (by exact qP (show (rowsX keys (ss.take i)).length + 1 ≤ 1000000000 by omega) (by decide)) ?_;refine qB ?_;refine zai (by first|omega|assumption|decide|(simp only [zds];omega)|(simp <;> omega)) ?_;exact ⟨i + 1,by omega,by first|omega|(simp <;> omega),qQ ⟨rfl,rfl,rfl,rfl,(qT (by omega))⟩ (qX (by rw [hsn];try exact rfl)) rfl⟩
     ·try simp only [decide_eq_false_iff_not,Int.not_lt] at h30
      try simp only [zds] at h30
      refine qY ?_;rw [List.take_of_length_le (show ss.length ≤ i by omega)];refine qC ?_;refine qB ?_;refine Or.inl ?_;refine zai (rfl) ?_;refine zei _ (zai (hw) ?_);refine qL ?_;rfl
theorem expN_c (keys : List ByteArray) : qS Tryz.prog 9 [.one (.lit (.pointer none)),.one (.sl .str keys)] (.tup [(false,[.lit (.string ⟨#[]⟩)]),(false,[errN 7])]):=by
  refine qR (rs:=[4,5]) Tryz.func9 rfl rfl rfl teOk rfl ?_;refine qC ?_;refine qB ?_;refine qC ?_;refine qN ?_;refine qC ?_;refine qB ?_;refine qK rfl (fun h10=>?_) (fun h10=>?_)
  ·try simp only [Bool.not_eq_true'] at h10
   try simp only [zds] at h10
   refine qC ?_;refine qB ?_;refine qL ?_;rfl
  ·try simp only [Bool.not_eq_false'] at h10
   try simp only [zds] at h10
   simp at h10
theorem index_SS {k : Nat} (l : List ByteArray) (v : ByteArray) : qS Tryz.prog 65 [.one (.slk k .str l),is v] (ii .i64 (ixOf (fun x=>decide (v = x)) l)):=by
  refine qR (rs:=[4]) Tryz.func65 rfl rfl rfl teOk rfl ?_;refine qC ?_;refine qB ?_;refine qC ?_;refine qC ?_;refine qB ?_;intro l1_1
  try simp only [zds] at l1_1
  refine qN ?_;refine qU (fun (i : Nat)=>i ≤ l.length ∧ (l.take i).any (fun x=>decide (v = x)) = false) (fun (i : Nat)=>[(0,.one (.slk k .str l)),(1,is v),(7,ii .i64 l.length),(8,ii .i64 i)]) (fun (i : Nat)=>[]) 0 (fun (i : Nat)=>l.length - i) 0 (⟨Nat.zero_le _,rfl⟩) (qQ ⟨rfl,rfl,rfl,rfl⟩ trivial rfl) ?_;intro i hI0;obtain ⟨hi,hn⟩:=hI0;refine qC ?_;refine qB ?_;refine qC ?_;refine qK rfl (fun h9=>?_) (fun h9=>?_)
  ·try simp only [decide_eq_true_eq] at h9
   try simp only [zds] at h9
   refine qM ?_;refine qC ?_;refine qN ?_;refine qC ?_;refine qB ?_;refine qC ?_;refine qB ?_;refine zai (by first|omega|assumption|decide|(simp only [zds];omega)|(simp <;> omega)) ?_;refine qK rfl (fun h16=>?_) (fun h16=>?_)
   ·try simp only [decide_eq_true_eq] at h16
    try simp only [Int.toNat_natCast,qF] at h16
    refine qC ?_;refine qB ?_;refine qL ?_;exact qT (ixOf_at Rd.str.dflt (by omega) hn (decide_eq_true h16)).symm
   ·try simp only [decide_eq_false_iff_not] at h16
    try simp only [Int.toNat_natCast,qF] at h16
    refine qM ?_;refine qB ?_;refine zai (by first|omega|assumption|decide|(simp only [zds];omega)|(simp <;> omega)) ?_;exact ⟨i + 1,⟨by omega,by rw [take_any l _ Rd.str.dflt i (by omega),hn];exact decide_eq_false h16⟩,by first|omega|(simp <;> omega),qQ ⟨rfl,rfl,rfl,rfl⟩ trivial rfl⟩
  ·try simp only [decide_eq_false_iff_not,Int.not_lt] at h9
   try simp only [zds] at h9
   refine qY ?_;refine qC ?_;refine qB ?_;refine qL ?_;have e : i = l.length:=by omega
   subst e;rw [List.take_length] at hn;exact qT (ixOf_none hn).symm
theorem contains_SS {k : Nat} (l : List ByteArray) (v : ByteArray) : qS Tryz.prog 37 [.one (.slk k .str l),is v] (ib (hasK v l)):=by
  refine qR (rs:=[4]) Tryz.func37 rfl rfl rfl teOk rfl ?_;refine qC ?_;refine qB ?_;refine qC ?_;refine qB ?_;refine Or.inl ?_;refine zai (rfl) ?_;refine zei _ (zai (index_SS l v) ?_);refine qL ?_;exact ib_eq (ixOf_ge _ l)
theorem keysN_c : qS Tryz.prog 14 [.one (.lit (.pointer none))] (.one (.sl .str [])):=by
  refine qR (rs:=[2]) Tryz.func14 rfl rfl rfl teOk rfl ?_;refine qC ?_;refine qB ?_;refine qC ?_;refine qB ?_;refine qC ?_;refine qC ?_;refine yM 3 9 .str rfl ?_;refine qB ?_;refine Or.inl ?_;refine zai (rfl) ?_;refine zei _ (zai (stanzasN_c) ?_);intro l2_2
  try simp only [zds] at l2_2
  refine qN ?_;refine qU (fun (u : Unit)=>True) (fun (u : Unit)=>[(3,.one (.vec 0)),(9,.one (.sl rStz [])),(10,ii .i64 0),(11,ii .i64 0)]) (fun (u : Unit)=>[(0,.vec 9 .str [])]) 1 (fun (u : Unit)=>0) () (trivial) (qQ ⟨rfl,rfl,rfl,rfl⟩ rfl rfl) ?_;intro u hI0;refine qC ?_;refine qB ?_;refine qC ?_;refine qK rfl (fun h12=>?_) (fun h12=>?_)
  ·try simp only [decide_eq_true_eq] at h12
   try simp only [zds] at h12
   simp at h12
  ·try simp only [decide_eq_false_iff_not,Int.not_lt] at h12
   try simp only [zds] at h12
   refine qY ?_;refine qC ?_;refine qB ?_;refine qL ?_;rfl
theorem keys_c {k : Nat} (es : List Ent) (n m : Int) (hl : es.length ≤ 1000000) (hf : ∀ e ∈ es,e.1.2.2.length ≤ 1000) (hn : (stzL es).length ≤ 400) (hx : ∀ x ∈ stzL es,x.2.length ≤ 1000) : qS Tryz.prog 14 [.one (.adk k (rLst k) (es,n,m))] (.one (.sl .str (keysX (stzL es)))):=by
  have hst:=stanzasL_c (k:=k) es n m hl (fun e he=>Nat.le_trans (hf e he) (by decide));obtain ⟨ss,hss⟩ : ∃ ss,stzL es = ss:=⟨_,rfl⟩;rw [hss] at hn hst hx ⊢;refine qR (rs:=[2]) Tryz.func14 rfl rfl rfl teOk rfl ?_;refine qC ?_;refine qB ?_;refine qC ?_;refine qB ?_;refine qC ?_;refine qC ?_;refine yM 3 9 .str rfl ?_;refine qB ?_;refine Or.inl ?_;refine zai (rfl) ?_;refine zei _ (zai (hst) ?_);intro l2_2
  try simp only [zds] at l2_2
  refine qN ?_;refine qU (fun (i : Nat)=>i ≤ ss.length) (fun (i : Nat)=>[(3,.one (.vec 0)),(9,.one (.sl rStz ss)),(10,ii .i64 ss.length),(11,ii .i64 i)]) (fun (i : Nat)=>[(0,.vec 9 .str (keysX (ss.take i)))]) 1 (fun (i : Nat)=>ss.length - i) 0 (Nat.zero_le _) (qQ ⟨rfl,rfl,rfl,rfl⟩ rfl rfl) ?_;intro i hI0;refine qC ?_;refine qB ?_;refine qC ?_;refine qK rfl (fun h12=>?_) (fun h12=>?_)
  ·try simp only [decide_eq_true_eq] at h12
   try simp only [zds] at h12
   have hil : i < ss.length:=(by omega);have hsn:=keysX_snoc hil;have hxl:=hx _ (xF hil ((0 : Int),([] : List Fld)));have hkl:=keysX_len 1000 (fun x hxm=>hx x (List.mem_of_mem_take (i:=i) hxm));rw [List.length_take] at hkl;have hkm : min i ss.length * 1000 ≤ 400000:=(by omega);refine qM ?_;refine qC ?_;refine qN ?_;refine qC ?_;refine qB ?_;refine zai (by first|omega|assumption|decide|(simp only [zds];omega)|(simp <;> omega)) ?_;refine qC ?_;refine qB ?_;intro l5_2
   try simp only [Int.toNat_natCast,qI,qH,qE] at l5_2
   refine qN ?_;refine qU (fun (j : Nat)=>j ≤ (ss.getD i ((0 : Int),([] : List Fld))).2.length) (fun (j : Nat)=>[(3,.one (.vec 0)),(9,.one (.sl rStz ss)),(10,ii .i64 ss.length),(11,ii .i64 i),(16,.one (.sl rFld (ss.getD i ((0 : Int),([] : List Fld))).2)),(17,ii .i64 (ss.getD i ((0 : Int),([] : List Fld))).2.length),(18,ii .i64 j)]) (fun (j : Nat)=>[(0,.vec 9 .str (((ss.getD i ((0 : Int),([] : List Fld))).2.take j).foldl addK (keysX (ss.take i))))]) 1 (fun (j : Nat)=>(ss.getD i ((0 : Int),([] : List Fld))).2.length - j) 0 (Nat.zero_le _) (qQ ⟨rfl,rfl,rfl,rfl,rfl,rfl,rfl⟩ rfl rfl) ?_;intro j hI2;refine qC ?_;refine qB ?_;refine qC ?_;refine qK rfl (fun h19=>?_) (fun h19=>?_)
   ·try simp only [decide_eq_true_eq] at h19
    try simp only [zds] at h19
    have hjl : j < (ss.getD i ((0 : Int),([] : List Fld))).2.length:=(by omega);have hsm:=addK_snoc (keysX (ss.take i)) hjl;have hal:=addKs_len ((ss.getD i ((0 : Int),([] : List Fld))).2.take j) (keysX (ss.take i));rw [List.length_take] at hal;refine qM ?_;refine qC ?_;refine qN ?_;refine qC ?_;refine qB ?_;refine zai (by first|omega|assumption|decide|(simp only [zds];omega)|(simp <;> omega)) ?_;refine qC ?_;refine qB ?_;refine Or.inr (Or.inr (Or.inl ?_));refine zai rfl ?_;refine zei _ (zai (contains_SS _ _) ?_);refine qK rfl (fun h26=>?_) (fun h26=>?_)
    ·try simp only [Bool.not_eq_true'] at h26
     try simp only [Int.toNat_natCast,qH,qF] at h26
     rw [addK_new h26] at hsm;refine qB ?_;refine zai (by show ((((ss.getD i ((0 : Int),([] : List Fld))).2.take j).foldl addK (keysX (ss.take i))).length + 1) * 16 ≤ 140737488355328;omega) ?_;refine qB ?_;refine zai (by first|omega|assumption|decide|(simp only [zds];omega)|(simp <;> omega)) ?_;exact ⟨j + 1,by omega,by first|omega|(simp <;> omega),qQ ⟨rfl,rfl,rfl,rfl,rfl,rfl,(qT (by omega))⟩ (qX (by rw [hsm];try exact rfl)) rfl⟩
    ·try simp only [Bool.not_eq_false'] at h26
     try simp only [Int.toNat_natCast,qH,qF] at h26
     rw [addK_old h26] at hsm;refine qM ?_;refine qB ?_;refine zai (by first|omega|assumption|decide|(simp only [zds];omega)|(simp <;> omega)) ?_;exact ⟨j + 1,by omega,by first|omega|(simp <;> omega),qQ ⟨rfl,rfl,rfl,rfl,rfl,rfl,(qT (by omega))⟩ (qX (by rw [hsm];try exact rfl)) rfl⟩
   ·try simp only [decide_eq_false_iff_not,Int.not_lt] at h19
    try simp only [zds] at h19
    refine qY ?_;rw [List.take_of_length_le (show (ss.getD i ((0 : Int),([] : List Fld))).2.length ≤ j by omega)];refine qB ?_;refine zai (by first|omega|assumption|decide|(simp only [zds];omega)|(simp <;> omega)) ?_;exact ⟨i + 1,by omega,by first|omega|(simp <;> omega),qQ ⟨rfl,rfl,rfl,(qT (by omega))⟩ (qX (by rw [hsn];try exact rfl)) rfl⟩
  ·try simp only [decide_eq_false_iff_not,Int.not_lt] at h12
   try simp only [zds] at h12
   refine qY ?_;refine qC ?_;refine qB ?_;refine qL ?_;rw [List.take_of_length_le (show ss.length ≤ i by omega)];exact rfl
end Q
end Ab
end Go.Proofs.YtehmiepjeffloaaGreatDoor
namespace Go.Proofs.YtehmiepjeffloaaGreatDoor
open Go.RowKit
namespace Ab
set_option maxRecDepth 100000
namespace Q
theorem cntR_at {l : List Itm} {i : Nat} (h : i < l.length) : cntR (l.take (i + 1)) = cntR (l.take i) + if isRec (l.getD i ((0 : Int),ByteArray.empty,([] : List Fld))) then 1 else 0:=by
  rw [← yJ ((0 : Int),ByteArray.empty,([] : List Fld)) h,cntR_app]
  generalize l.getD i ((0 : Int),ByteArray.empty,([] : List Fld)) = x
  cases hk : isRec x
  · simp [cntR,hk]
  · simp [cntR,hk]
theorem numI_at {l : List Itm} {i : Nat} (h : i < l.length) : numI 1 (l.take (i + 1)) = numI 1 (l.take i) ++ [(l.getD i ((0 : Int),ByteArray.empty,([] : List Fld)),if isRec (l.getD i ((0 : Int),ByteArray.empty,([] : List Fld))) then 1 + (cntR (l.take i) : Int) else 0)]:=by
  rw [← yJ ((0 : Int),ByteArray.empty,([] : List Fld)) h];exact numI_snoc (l.take i) 1 _
theorem cntR_le (l : List Itm) : cntR l ≤ l.length:=List.length_filter_le _ _
def lsO (l : Lst) : Obs:=[(0,.box 79 [.vec 1,.lit (.int .i64 l.2.1),.lit (.int .i64 l.2.2)]),(1,.vec 83 rEnt l.1)]
theorem lbox_eq {a b c d : Int} (h1 : a = c) (h2 : b = d) : some (Ob.box 79 [.vec 1,.lit (.int .i64 a),.lit (.int .i64 b)]) = some (Ob.box 79 [.vec 1,.lit (.int .i64 c),.lit (.int .i64 d)]):=by rw [h1,h2]
theorem of_ok (s : ByteArray) (hs : s.size ≤ 60000) {l : List Itm} (hp : xD s = .inr l) : yS Tryz.prog 7 [is s] [] 0 (.tup [(false,[.own 0 0]),(false,[.lit .nilIface])]) (lsO (ofT l)) 2:=by
  have hpa:=parse_a s hs;rw [hp] at hpa;obtain ⟨hl1,hl2⟩:=items_flds hs hp;refine yR (rs:=[2,3]) Tryz.func7 rfl rfl rfl teOk (by decide) rfl ?_;refine qC ?_;refine qB ?_;refine qC ?_;refine qB ?_;refine Or.inl ?_;refine zai (rfl) ?_;refine zei _ (zai (hpa) ?_);refine qC ?_;refine qC ?_;refine qB ?_;refine qK rfl (fun h16=>?_) (fun h16=>?_)
  ·try simp only [Bool.not_eq_true'] at h16
   try simp only [zds] at h16
   cases h16
  ·try simp only [Bool.not_eq_false'] at h16
   try simp only [zds] at h16
   refine qM ?_;refine qC ?_;refine qB ?_;refine qC ?_;refine qC ?_;refine yE 0 0 83 rEnt rfl rfl rfl ?_;refine qB ?_;intro l5_1
   try simp only [zds] at l5_1
   refine qN ?_;refine qU (fun (i : Nat)=>i ≤ l.length) (fun (i : Nat)=>[(0,is s),(6,.one (.own 0 0)),(20,.one (.sl rItm l)),(21,ii .i64 l.length),(22,ii .i64 i)]) (fun (i : Nat)=>[(0,.box 79 [.vec 1,.lit (.int .i64 (1 + (cntR (l.take i) : Int))),.lit (.int .i64 (cntR (l.take i)))]),(1,.vec 83 rEnt (numI 1 (l.take i)))]) 2 (fun (i : Nat)=>l.length - i) 0 (Nat.zero_le _) (qQ ⟨rfl,rfl,rfl,rfl,rfl⟩ ⟨rfl,rfl⟩ rfl) ?_;intro i hI0;refine qC ?_;refine qB ?_;refine qC ?_;refine qK rfl (fun h23=>?_) (fun h23=>?_)
   ·try simp only [decide_eq_true_eq] at h23
    try simp only [zds] at h23
    have hil : i < l.length:=(by omega);have hsn:=numI_at hil;have hcn:=cntR_at hil;have hcl:=cntR_le (l.take i);rw [List.length_take] at hcl;refine qM ?_;refine qC ?_;refine qN ?_;refine qC ?_;refine qB ?_;refine zai (by first|omega|assumption|decide|(simp only [zds];omega)|(simp <;> omega)) ?_;refine qC ?_;refine qB ?_;refine qC ?_;refine qC ?_;refine qB ?_;refine qK rfl (fun h30=>?_) (fun h30=>?_)
    ·try simp only [decide_eq_true_eq] at h30
     try simp only [Int.toNat_natCast,qI,qH,qF,qE] at h30
     have hk : isRec (l.getD i ((0 : Int),ByteArray.empty,([] : List Fld))) = true:=decide_eq_true h30;rw [hk,if_pos rfl] at hsn hcn;refine qC ?_;refine qB ?_;refine qC ?_;refine qB ?_;refine zai (by first|omega|assumption|decide|(simp only [zds];omega)|(simp <;> omega)) ?_;refine qB ?_;refine zai (by first|omega|assumption|decide|(simp only [zds];omega)|(simp <;> omega)) ?_;refine xM rfl ?_;refine qJ 0 rfl rfl rfl (by kernel_rfl) ?_;refine qJ 1 rfl rfl rfl (by kernel_rfl) ?_;refine qJ 2 rfl rfl rfl (by kernel_rfl) ?_;refine qJ 3 rfl rfl rfl (by kernel_rfl) ?_;refine qG [4,5] (by kernel_rfl) rfl ?_;refine zai ?_ ?_
     ·refine qG [5] (by kernel_rfl) rfl ?_;refine qG [6] (by kernel_rfl) rfl ?_;refine qG [7] (by kernel_rfl) rfl ?_;refine zai (by exact qP (show (numI 1 (l.take i)).length + 1 ≤ 1000000000 by rw [numI_len,List.length_take];omega) (by decide)) ?_;refine qJ 8 rfl rfl rfl (by kernel_rfl) ?_;refine qJ 9 rfl rfl rfl (by kernel_rfl) ?_;refine qG [10] (by kernel_rfl) rfl ?_;refine qO (by kernel_rfl) ?_;refine qB ?_;refine zai (by first|omega|assumption|decide|(simp only [zds];omega)|(simp <;> omega)) ?_;exact ⟨i + 1,by omega,by first|omega|(simp <;> omega),qQ ⟨rfl,rfl,rfl,rfl,rfl⟩ ⟨(lbox_eq (by omega) (by omega)),(qX (by rw [hsn];exact rfl))⟩ rfl⟩
     ·refine qG [4,6] (by kernel_rfl) rfl ?_;refine zai ?_ ?_
      ·refine qG [6] (by kernel_rfl) rfl ?_;refine qG [7] (by kernel_rfl) rfl ?_;refine zai (by exact qP (show (numI 1 (l.take i)).length + 1 ≤ 1000000000 by rw [numI_len,List.length_take];omega) (by decide)) ?_;refine qJ 8 rfl rfl rfl (by kernel_rfl) ?_;refine qJ 9 rfl rfl rfl (by kernel_rfl) ?_;refine qG [10] (by kernel_rfl) rfl ?_;refine qO (by kernel_rfl) ?_;refine qB ?_;refine zai (by first|omega|assumption|decide|(simp only [zds];omega)|(simp <;> omega)) ?_;exact ⟨i + 1,by omega,by first|omega|(simp <;> omega),qQ ⟨rfl,rfl,rfl,rfl,rfl⟩ ⟨(lbox_eq (by omega) (by omega)),(qX (by rw [hsn];exact rfl))⟩ rfl⟩
      ·refine qG [4] (by kernel_rfl) rfl ?_;refine qG [7] (by kernel_rfl) rfl ?_;refine zai (by exact qP (show (numI 1 (l.take i)).length + 1 ≤ 1000000000 by rw [numI_len,List.length_take];omega) (by decide)) ?_;refine qJ 8 rfl rfl rfl (by kernel_rfl) ?_;refine qJ 9 rfl rfl rfl (by kernel_rfl) ?_;refine qG [10] (by kernel_rfl) rfl ?_;refine qO (by kernel_rfl) ?_;refine qB ?_;refine zai (by first|omega|assumption|decide|(simp only [zds];omega)|(simp <;> omega)) ?_;exact ⟨i + 1,by omega,by first|omega|(simp <;> omega),qQ ⟨rfl,rfl,rfl,rfl,rfl⟩ ⟨(lbox_eq (by omega) (by omega)),(qX (by rw [hsn];exact rfl))⟩ rfl⟩
    ·try simp only [decide_eq_false_iff_not] at h30
     try simp only [Int.toNat_natCast,qI,qH,qF,qE] at h30
     have hk : isRec (l.getD i ((0 : Int),ByteArray.empty,([] : List Fld))) = false:=decide_eq_false h30;rw [hk,if_neg Bool.false_ne_true] at hsn hcn;refine qM ?_;refine xM rfl ?_;refine qJ 0 rfl rfl rfl (by kernel_rfl) ?_;refine qJ 1 rfl rfl rfl (by kernel_rfl) ?_;refine qJ 2 rfl rfl rfl (by kernel_rfl) ?_;refine qJ 3 rfl rfl rfl (by kernel_rfl) ?_;refine qG [4,5] (by kernel_rfl) rfl ?_;refine zai ?_ ?_
     ·refine qG [5] (by kernel_rfl) rfl ?_;refine qG [6] (by kernel_rfl) rfl ?_;refine qG [7] (by kernel_rfl) rfl ?_;refine zai (by exact qP (show (numI 1 (l.take i)).length + 1 ≤ 1000000000 by rw [numI_len,List.length_take];omega) (by decide)) ?_;refine qJ 8 rfl rfl rfl (by kernel_rfl) ?_;refine qJ 9 rfl rfl rfl (by kernel_rfl) ?_;refine qG [10] (by kernel_rfl) rfl ?_;refine qO (by kernel_rfl) ?_;refine qB ?_;refine zai (by first|omega|assumption|decide|(simp only [zds];omega)|(simp <;> omega)) ?_;exact ⟨i + 1,by omega,by first|omega|(simp <;> omega),qQ ⟨rfl,rfl,rfl,rfl,rfl⟩ ⟨(lbox_eq (by omega) (by omega)),(qX (by rw [hsn];exact rfl))⟩ rfl⟩
     ·refine qG [4,6] (by kernel_rfl) rfl ?_;refine zai ?_ ?_
      ·refine qG [6] (by kernel_rfl) rfl ?_;refine qG [7] (by kernel_rfl) rfl ?_;refine zai (by exact qP (show (numI 1 (l.take i)).length + 1 ≤ 1000000000 by rw [numI_len,List.length_take];omega) (by decide)) ?_;refine qJ 8 rfl rfl rfl (by kernel_rfl) ?_;refine qJ 9 rfl rfl rfl (by kernel_rfl) ?_;refine qG [10] (by kernel_rfl) rfl ?_;refine qO (by kernel_rfl) ?_;refine qB ?_;refine zai (by first|omega|assumption|decide|(simp only [zds];omega)|(simp <;> omega)) ?_;exact ⟨i + 1,by omega,by first|omega|(simp <;> omega),qQ ⟨rfl,rfl,rfl,rfl,rfl⟩ ⟨(lbox_eq (by omega) (by omega)),(qX (by rw [hsn];exact rfl))⟩ rfl⟩
      ·refine qG [4] (by kernel_rfl) rfl ?_;refine qG [7] (by kernel_rfl) rfl ?_;refine zai (by exact qP (show (numI 1 (l.take i)).length + 1 ≤ 1000000000 by rw [numI_len,List.length_take];omega) (by decide)) ?_;refine qJ 8 rfl rfl rfl (by kernel_rfl) ?_;refine qJ 9 rfl rfl rfl (by kernel_rfl) ?_;refine qG [10] (by kernel_rfl) rfl ?_;refine qO (by kernel_rfl) ?_;refine qB ?_;refine zai (by first|omega|assumption|decide|(simp only [zds];omega)|(simp <;> omega)) ?_;exact ⟨i + 1,by omega,by first|omega|(simp <;> omega),qQ ⟨rfl,rfl,rfl,rfl,rfl⟩ ⟨(lbox_eq (by omega) (by omega)),(qX (by rw [hsn];exact rfl))⟩ rfl⟩
   ·try simp only [decide_eq_false_iff_not,Int.not_lt] at h23
    try simp only [zds] at h23
    refine qY ?_;refine qC ?_;refine qB ?_;refine qL ?_;rw [List.take_of_length_le (by omega)];exact ⟨rfl,⟨rfl,rfl⟩,rfl⟩
theorem of_err (s : ByteArray) (hs : s.size ≤ 60000) {at_ n : Int} (hp : xD s = .inl (at_,n)) : qS Tryz.prog 7 [is s] (.tup [(false,[.lit (.pointer none)]),(false,[errF at_ n])]):=by
  have hpa:=parse_a s hs;rw [hp] at hpa;refine qR (rs:=[2,3]) Tryz.func7 rfl rfl rfl teOk rfl ?_;refine qC ?_;refine qB ?_;refine qC ?_;refine qB ?_;refine Or.inl ?_;refine zai (rfl) ?_;refine zei _ (zai (hpa) ?_);refine qC ?_;refine qC ?_;refine qB ?_;refine qK rfl (fun h16=>?_) (fun h16=>?_)
  ·skip
   refine qC ?_;refine qB ?_;refine qL ?_;rfl
  ·try simp only [zbq] at h16
   try simp only [zds] at h16
   cases h16
end Q
end Ab
end Go.Proofs.YtehmiepjeffloaaGreatDoor
namespace Go.Proofs.YtehmiepjeffloaaGreatDoor
open Go.RowKit
namespace Ab
set_option maxRecDepth 100000
namespace Q
def SmallF (l : List Fld) : Prop:=∀ f ∈ l,f.1.size ≤ 1000 ∧ f.2.size ≤ 1000
structure GP (p : PSt) : Prop where
  flds : SmallF p.flds
  room : p.lns ≠ [] → p.full = false → p.flds.length < 40
  len : p.flds.length ≤ 40
  its : ∀ x ∈ p.its,SmallF x.2.2 ∧ x.2.2.length ≤ 40
theorem smallF_nil : SmallF []:=fun f hf=>by cases hf
theorem flush_gp {p q : PSt} (h : GP p) (hf : yN p = .inr q) : GP q:=by
  unfold yN at hf;split at hf
  · cases hf;exact h
  · rename_i h0;split at hf
    · cases hf
    · split at hf
      · cases hf
      · rename_i h1 h2;cases hf;have hr:=h.room h0 (by simpa using h2);refine ⟨fun f hf=>?_,fun h=>absurd rfl h,by simp only [List.length_append,List.length_cons,List.length_nil];omega,h.its⟩;rcases List.mem_append.1 hf with hf|hf
        · exact h.flds f hf
        · rw [List.mem_singleton.1 hf];rcases unf_cases (p.lns.map ls) with ⟨n,hn,e⟩|⟨k,v,e,hk,hv⟩
          · rw [e];exact ⟨by show (bytes []).size ≤ 1000;decide,by show (bytes []).size ≤ 1000;decide⟩
          · rw [e];simp only [qZ];refine ⟨?_,hv⟩;unfold xP at hk;simp only [Bool.and_eq_true,decide_eq_true_eq] at hk;omega
theorem close_gp {q : PSt} (h : GP q) : GP (xO q):=by
  unfold xO;split
  · exact ⟨smallF_nil,fun _ _=>(by show 0 < 40;decide),(by show 0 ≤ 40;decide),h.its⟩
  · refine ⟨smallF_nil,fun _ _=>(by show 0 < 40;decide),(by show 0 ≤ 40;decide),fun x hx=>?_⟩;rcases List.mem_append.1 hx with hx|hx
    · exact h.its x hx
    · rw [List.mem_singleton.1 hx];exact ⟨h.flds,h.len⟩
theorem end_gp {p q : PSt} (h : GP p) (hf : endS p = .inr q) : GP q:=by
  unfold endS at hf;split at hf
  · cases hf
  · rename_i r e;cases hf;exact close_gp (flush_gp h e)
theorem begin_gp {p : PSt} (l : Lne) (h : GP p) : GP (xJ p l):=by
  refine ⟨h.flds,fun _ hf=>?_,h.len,h.its⟩;have:=h.len;unfold xJ at hf;simp only [Bool.or_eq_false_iff,decide_eq_false_iff_not] at hf;show p.flds.length < 40;omega
theorem ahead_gp {p q : PSt} {l : Lne} {k : Int} (h : GP p) (hf : yP p l k = .inr q) : GP q:=by
  unfold yP at hf;split at hf
  · split at hf
    · cases hf
    · rename_i h0;have h2 : GP { p with lns:=p.lns ++ [l.2.2.1] }:=⟨h.flds,fun _=>h.room h0,h.len,h.its⟩;split at hf
      · cases hf;exact h2
      · exact flush_gp h2 hf
  · split at hf
    · exact end_gp h hf
    · exact flush_gp h hf
theorem line_gp {p q : PSt} {l : Lne} {k : Int} (h : GP p) (hf : lineS p l k = .inr q) : GP q:=by
  unfold lineS at hf;split at hf
  · cases hf
  · split at hf
    · cases hf;refine ⟨h.flds,h.room,h.len,fun x hx=>?_⟩;rcases List.mem_append.1 hx with hx|hx
      · exact h.its x hx
      · rw [List.mem_singleton.1 hx];exact ⟨smallF_nil,by show 0 ≤ 40;decide⟩
    · split at hf
      · cases hf;have:=begin_gp l h;exact ⟨this.flds,this.room,this.len,this.its⟩
      · cases hf;exact ⟨h.flds,h.room,h.len,h.its⟩
theorem take_gp {p q : PSt} {l : Lne} (h : GP p) (hf : yQ p l = .inr q) : GP q:=by
  unfold yQ at hf;split at hf
  · cases hf
  · rename_i r e;exact line_gp (ahead_gp h e) hf
theorem run_gp : ∀ (L : List Lne) {p q : PSt},GP p → runS p L = .inr q → GP q
  | [],p,q,h,hf=>by
    cases hf;exact h
  | l :: r,p,q,h,hf=>by
    unfold runS at hf;split at hf
    · cases hf
    · rename_i t e;exact run_gp r (take_gp h e) hf
theorem items_small {s : ByteArray} {l : List Itm} (hp : xD s = .inr l) : ∀ x ∈ l,SmallF x.2.2 ∧ x.2.2.length ≤ 40:=by
  unfold xD at hp;split at hp
  · cases hp
  · rename_i p e;split at hp
    · cases hp
    · rename_i q e2;cases hp;exact (end_gp (run_gp _ ⟨smallF_nil,fun h=>absurd rfl h,by decide,fun x hx=>by cases hx⟩ e) e2).its
theorem fldsOk_of {l : List Fld} (h : SmallF l) (hl : l.length ≤ 40) : FldsOk l:=⟨by omega,fun f hf=>by have:=h f hf;omega⟩
end Q
end Ab
end Go.Proofs.YtehmiepjeffloaaGreatDoor
namespace Go.Proofs.YtehmiepjeffloaaGreatDoor
open Go.RowKit
namespace Ab
set_option maxRecDepth 100000
namespace Q
abbrev RLs:=List Ent × Int
abbrev rRL : Rd RLs:=.st (.sl rEnt) (.int .i64)
theorem parse_ne {s : ByteArray} {at_ n : Int} (h : xD s = .inl (at_,n)) : n ≠ 0:=by
  rw [parse_ref] at h;exact runR_ne _ _ _ _ h
theorem rlbox_eq {T : TypeId} {i : Nat} {a b : Int} (h : a = b) : some (Ob.box T [.vec i,.lit (.int .i64 a)]) = some (Ob.box T [.vec i,.lit (.int .i64 b)]):=by rw [h]
theorem refOf_ok (s : ByteArray) (hs : s.size ≤ 60000) {l : List Itm} (hp : xD s = .inr l) : qS Tryz.prog 8 [is s] (.tup [(true,toL rRL (numI 1 l,1 + (cntR l : Int))),(false,[.lit (.int .i64 (-9))]),(false,[.lit (.int .i64 0)])]):=by
  have hpa:=refParse_a s hs;rw [hp] at hpa;obtain ⟨hl1,hl2⟩:=items_flds hs hp;refine acall_ofc (rs:=[.cell 2 31,.tmp 3,.tmp 4]) Tryz.func8 rfl rfl rfl teOk rfl ?_;refine qC ?_;refine qB ?_;refine qC ?_;refine qB ?_;refine Or.inl ?_;refine zai (rfl) ?_;refine zei _ (zai (hpa) ?_);refine qC ?_;refine qC ?_;refine qB ?_;refine qK rfl (fun h18=>?_) (fun h18=>?_)
  ·try simp only [decide_eq_false_iff_not,Bool.not_eq_true'] at h18
   try simp only [zds] at h18
   simp at h18
  ·try simp only [decide_eq_true_eq,Bool.not_eq_false'] at h18
   try simp only [zds] at h18
   refine qM ?_;refine qC ?_;refine qB ?_;refine qC ?_;refine qC ?_;refine yE 1 0 87 rEnt rfl rfl rfl ?_;refine qB ?_;refine qN ?_;refine qU (fun (i : Nat)=>i ≤ l.length) (fun (i : Nat)=>[(2,.one (.own 0 0)),(5,.one (.sl rItm l)),(6,ii .i64 (-9)),(8,.one (.own 1 0)),(9,ii .i64 i)]) (fun (i : Nat)=>[(0,.box 31 [.lit (.slice none 0 0),.lit (.int .i64 0)]),(1,.box 31 [.vec 2,.lit (.int .i64 (1 + (cntR (l.take i) : Int)))]),(2,.vec 87 rEnt (numI 1 (l.take i)))]) 3 (fun (i : Nat)=>l.length - i) 0 (Nat.zero_le _) (qQ ⟨rfl,rfl,rfl,rfl,rfl⟩ ⟨rfl,rfl,rfl⟩ rfl) ?_;intro i hI0;refine qC ?_;refine qC ?_;refine qB ?_;intro l6_2
   try simp only [zds] at l6_2
   refine qK rfl (fun h26=>?_) (fun h26=>?_)
   ·try simp only [decide_eq_true_eq] at h26
    try simp only [zds] at h26
    have hil : i < l.length:=(by omega);have hsn:=numI_at hil;have hcn:=cntR_at hil;have hcl:=cntR_le (l.take i);rw [List.length_take] at hcl;refine qM ?_;refine qC ?_;refine qN ?_;refine qC ?_;refine qB ?_;refine zai (by first|omega|assumption|decide|(simp only [zds];omega)|(simp <;> omega)) ?_;refine qC ?_;refine qC ?_;refine qB ?_;refine zai (by first|omega|assumption|decide|(simp only [zds];omega)|(simp <;> omega)) ?_;refine qK rfl (fun h39=>?_) (fun h39=>?_)
    ·try simp only [decide_eq_true_eq] at h39
     try simp only [Int.toNat_natCast,qI,qH,qF,qE] at h39
     have hk : isRec (l.getD i ((0 : Int),ByteArray.empty,([] : List Fld))) = true:=decide_eq_true h39;rw [hk,if_pos rfl] at hsn hcn;refine qC ?_;refine qB ?_;refine qB ?_;refine zai (by first|omega|assumption|decide|(simp only [zds];omega)|(simp <;> omega)) ?_;refine qB ?_;refine zai (by exact qP (show (numI 1 (l.take i)).length + 1 ≤ 1000000000 by rw [numI_len,List.length_take];omega) (by decide)) ?_;refine qB ?_;refine zai (by first|omega|assumption|decide|(simp only [zds];omega)|(simp <;> omega)) ?_;exact ⟨i + 1,by omega,by first|omega|(simp <;> omega),qQ ⟨rfl,rfl,rfl,rfl,(qT (by omega))⟩ ⟨rfl,(rlbox_eq (by omega)),(qX (by rw [hsn];exact rfl))⟩ rfl⟩
    ·try simp only [decide_eq_false_iff_not] at h39
     try simp only [Int.toNat_natCast,qI,qH,qF,qE] at h39
     have hk : isRec (l.getD i ((0 : Int),ByteArray.empty,([] : List Fld))) = false:=decide_eq_false h39;rw [hk,if_neg Bool.false_ne_true] at hsn hcn;refine qM ?_;refine qB ?_;refine zai (by exact qP (show (numI 1 (l.take i)).length + 1 ≤ 1000000000 by rw [numI_len,List.length_take];omega) (by decide)) ?_;refine qB ?_;refine zai (by first|omega|assumption|decide|(simp only [zds];omega)|(simp <;> omega)) ?_;exact ⟨i + 1,by omega,by first|omega|(simp <;> omega),qQ ⟨rfl,rfl,rfl,rfl,(qT (by omega))⟩ ⟨rfl,(rlbox_eq (by omega)),(qX (by rw [hsn];exact rfl))⟩ rfl⟩
   ·try simp only [decide_eq_false_iff_not,Int.not_lt] at h26
    try simp only [zds] at h26
    refine qY ?_;refine qC ?_;refine qB ?_;refine yF [2] ?_;refine qL ?_;rw [List.take_of_length_le (by omega)];exact rfl
theorem refOf_err (s : ByteArray) (hs : s.size ≤ 60000) {at_ n : Int} (hp : xD s = .inl (at_,n)) : qS Tryz.prog 8 [is s] (.tup [(true,[.lit (.slice none 0 0),.lit (.int .i64 0)]),(false,[.lit (.int .i64 at_)]),(false,[.lit (.int .i64 n)])]):=by
  have hpa:=refParse_a s hs;rw [hp] at hpa;have hne:=parse_ne hp;refine acall_ofc (rs:=[.cell 2 31,.tmp 3,.tmp 4]) Tryz.func8 rfl rfl rfl teOk rfl ?_;refine qC ?_;refine qB ?_;refine qC ?_;refine qB ?_;refine Or.inl ?_;refine zai (rfl) ?_;refine zei _ (zai (hpa) ?_);refine qC ?_;refine qC ?_;refine qB ?_;refine qK rfl (fun h18=>?_) (fun h18=>?_)
  ·try simp only [decide_eq_false_iff_not,Bool.not_eq_true'] at h18
   try simp only [zds] at h18
   refine qC ?_;refine qB ?_;refine qL ?_;rfl
  ·try simp only [decide_eq_true_eq,Bool.not_eq_false'] at h18
   try simp only [zds] at h18
   exact absurd h18 hne
theorem stzL_snoc {es : List Ent} {i : Nat} (h : i < es.length) : stzL (es.take (i + 1)) = stzL (es.take i) ++ if live (es.getD i (((0 : Int),ByteArray.empty,([] : List Fld)),(0 : Int))) then [stzOf (es.getD i (((0 : Int),ByteArray.empty,([] : List Fld)),(0 : Int)))] else []:=by
  unfold stzL;rw [← yJ (((0 : Int),ByteArray.empty,([] : List Fld)),(0 : Int)) h,List.filter_append,List.map_append]
  generalize es.getD i (((0 : Int),ByteArray.empty,([] : List Fld)),(0 : Int)) = x
  cases hk : live x
  · simp [hk]
  · simp [hk]
theorem stzL_le (es : List Ent) : (stzL es).length ≤ es.length:=by
  unfold stzL;rw [List.length_map];exact live_len es
theorem refStz_c (es : List Ent) (n : Int) (hl : es.length ≤ 1000000) : qS Tryz.prog 35 [.agg (toL rRL (es,n))] (.one (.sl rStz (stzL es))):=by
  refine qR (rs:=[2]) Tryz.func35 rfl rfl rfl teOk rfl ?_;refine qC ?_;refine qB ?_;refine qC ?_;refine qB ?_;refine qC ?_;refine qC ?_;refine yM 3 62 rStz rfl ?_;refine qB ?_;refine qN ?_;refine qU (fun (i : Nat)=>i ≤ es.length) (fun (i : Nat)=>[(1,.one (.own 0 0)),(3,.one (.vec 1)),(4,ii .i64 i)]) (fun (i : Nat)=>[(0,.box 31 (toL rRL (es,n))),(1,.vec 62 rStz (stzL (es.take i)))]) 2 (fun (i : Nat)=>es.length - i) 0 (Nat.zero_le _) (qQ ⟨rfl,rfl,rfl⟩ ⟨rfl,rfl⟩ rfl) ?_;intro i hI0;refine qC ?_;refine qC ?_;refine qB ?_;intro l3_3;refine qK rfl (fun h9=>?_) (fun h9=>?_)
  ·try simp only [decide_eq_true_eq] at h9
   try simp only [zds] at h9
   have hil : i < es.length:=(by omega);have hsn:=stzL_snoc hil;have hsl:=stzL_le (es.take i);rw [List.length_take] at hsl;refine qM ?_;refine qC ?_;refine qN ?_;refine qC ?_;refine qB ?_;refine zai (by first|omega|assumption|decide|(simp only [];omega)|(simp <;> omega)) ?_;refine qK rfl (fun h18=>?_) (fun h18=>?_)
   ·try simp only [decide_eq_true_eq] at h18
    try simp only [Int.toNat_natCast,qI,qH,qF,qE] at h18
    have hk : live (es.getD i (((0 : Int),ByteArray.empty,([] : List Fld)),(0 : Int))) = true:=decide_eq_true h18;rw [hk,if_pos rfl] at hsn;refine xM rfl ?_;refine qJ 0 rfl rfl rfl (by kernel_rfl) ?_;refine qJ 1 rfl rfl rfl (by kernel_rfl) ?_;refine qJ 3 rfl rfl rfl (by kernel_rfl) ?_;refine qJ 7 rfl rfl rfl (by kernel_rfl) ?_;refine qJ 9 rfl rfl rfl (by kernel_rfl) ?_;refine qG [2,8] (by kernel_rfl) rfl ?_;refine zai ?_ ?_
    ·refine qJ 4 rfl rfl rfl (by kernel_rfl) ?_;refine zai (by first|omega|assumption|decide|(simp only [];omega)|(simp <;> omega)) ?_;refine qG [5,8] (by kernel_rfl) rfl ?_;refine zai ?_ ?_
     ·refine qG [6,8] (by kernel_rfl) rfl ?_;refine zai ?_ ?_
      ·refine qG [8] (by kernel_rfl) rfl ?_;refine qJ 10 rfl rfl rfl (by kernel_rfl) ?_;refine zai (by first|omega|assumption|decide|(simp only [];omega)|(simp <;> omega)) ?_;refine qG [11] (by kernel_rfl) rfl ?_;refine qG [12] (by kernel_rfl) rfl ?_;refine qG [13] (by kernel_rfl) rfl ?_;refine qG [14] (by kernel_rfl) rfl ?_;refine qG [15] (by kernel_rfl) rfl ?_;refine qG [16] (by kernel_rfl) rfl ?_;refine zai (by exact qP (show (stzL (es.take i)).length + 1 ≤ 1000000000 by omega) (by decide)) ?_;refine qJ 17 rfl rfl rfl (by kernel_rfl) ?_;refine qO (by kernel_rfl) ?_;refine qB ?_;refine zai (by first|omega|assumption|decide|(simp only [zds];omega)|(simp <;> omega)) ?_;exact ⟨i + 1,by omega,by first|omega|(simp <;> omega),qQ ⟨rfl,rfl,(qT (by omega))⟩ ⟨rfl,(qX (by rw [hsn];try exact rfl))⟩ rfl⟩
      ·refine qJ 10 rfl rfl rfl (by kernel_rfl) ?_;refine zai (by first|omega|assumption|decide|(simp only [];omega)|(simp <;> omega)) ?_;refine qG [6,11] (by kernel_rfl) rfl ?_;refine zai ?_ ?_
       ·refine qG [11] (by kernel_rfl) rfl ?_;refine qG [12] (by kernel_rfl) rfl ?_;refine qG [13] (by kernel_rfl) rfl ?_;refine qG [14] (by kernel_rfl) rfl ?_;refine qG [15] (by kernel_rfl) rfl ?_;refine qG [16] (by kernel_rfl) rfl ?_;refine zai (by exact qP (show (stzL (es.take i)).length + 1 ≤ 1000000000 by omega) (by decide)) ?_;refine qJ 17 rfl rfl rfl (by kernel_rfl) ?_;refine qO (by kernel_rfl) ?_;refine qB ?_;refine zai (by first|omega|assumption|decide|(simp only [zds];omega)|(simp <;> omega)) ?_;exact ⟨i + 1,by omega,by first|omega|(simp <;> omega),qQ ⟨rfl,rfl,(qT (by omega))⟩ ⟨rfl,(qX (by rw [hsn];try exact rfl))⟩ rfl⟩
       ·refine qG [6,12] (by kernel_rfl) rfl ?_;refine zai ?_ ?_
        ·refine qG [12] (by kernel_rfl) rfl ?_;refine qG [13] (by kernel_rfl) rfl ?_;refine qG [14] (by kernel_rfl) rfl ?_;refine qG [15] (by kernel_rfl) rfl ?_;refine qG [16] (by kernel_rfl) rfl ?_;refine zai (by exact qP (show (stzL (es.take i)).length + 1 ≤ 1000000000 by omega) (by decide)) ?_;refine qJ 17 rfl rfl rfl (by kernel_rfl) ?_;refine qO (by kernel_rfl) ?_;refine qB ?_;refine zai (by first|omega|assumption|decide|(simp only [zds];omega)|(simp <;> omega)) ?_;exact ⟨i + 1,by omega,by first|omega|(simp <;> omega),qQ ⟨rfl,rfl,(qT (by omega))⟩ ⟨rfl,(qX (by rw [hsn];try exact rfl))⟩ rfl⟩
        ·refine qG [6,13] (by kernel_rfl) rfl ?_;refine zai ?_ ?_
         ·refine qG [13] (by kernel_rfl) rfl ?_;refine qG [14] (by kernel_rfl) rfl ?_;refine qG [15] (by kernel_rfl) rfl ?_;refine qG [16] (by kernel_rfl) rfl ?_;refine zai (by exact qP (show (stzL (es.take i)).length + 1 ≤ 1000000000 by omega) (by decide)) ?_;refine qJ 17 rfl rfl rfl (by kernel_rfl) ?_;refine qO (by kernel_rfl) ?_;refine qB ?_;refine zai (by first|omega|assumption|decide|(simp only [zds];omega)|(simp <;> omega)) ?_;exact ⟨i + 1,by omega,by first|omega|(simp <;> omega),qQ ⟨rfl,rfl,(qT (by omega))⟩ ⟨rfl,(qX (by rw [hsn];try exact rfl))⟩ rfl⟩
         ·refine qG [6] (by kernel_rfl) rfl ?_;refine qG [14] (by kernel_rfl) rfl ?_;refine qG [15] (by kernel_rfl) rfl ?_;refine qG [16] (by kernel_rfl) rfl ?_;refine zai (by exact qP (show (stzL (es.take i)).length + 1 ≤ 1000000000 by omega) (by decide)) ?_;refine qJ 17 rfl rfl rfl (by kernel_rfl) ?_;refine qO (by kernel_rfl) ?_;refine qB ?_;refine zai (by first|omega|assumption|decide|(simp only [zds];omega)|(simp <;> omega)) ?_;exact ⟨i + 1,by omega,by first|omega|(simp <;> omega),qQ ⟨rfl,rfl,(qT (by omega))⟩ ⟨rfl,(qX (by rw [hsn];try exact rfl))⟩ rfl⟩
     ·refine qJ 10 rfl rfl rfl (by kernel_rfl) ?_;refine zai (by first|omega|assumption|decide|(simp only [];omega)|(simp <;> omega)) ?_;refine qG [5,11] (by kernel_rfl) rfl ?_;refine zai ?_ ?_
      ·refine qG [6,11] (by kernel_rfl) rfl ?_;refine zai ?_ ?_
       ·refine qG [11] (by kernel_rfl) rfl ?_;refine qG [12] (by kernel_rfl) rfl ?_;refine qG [13] (by kernel_rfl) rfl ?_;refine qG [14] (by kernel_rfl) rfl ?_;refine qG [15] (by kernel_rfl) rfl ?_;refine qG [16] (by kernel_rfl) rfl ?_;refine zai (by exact qP (show (stzL (es.take i)).length + 1 ≤ 1000000000 by omega) (by decide)) ?_;refine qJ 17 rfl rfl rfl (by kernel_rfl) ?_;refine qO (by kernel_rfl) ?_;refine qB ?_;refine zai (by first|omega|assumption|decide|(simp only [zds];omega)|(simp <;> omega)) ?_;exact ⟨i + 1,by omega,by first|omega|(simp <;> omega),qQ ⟨rfl,rfl,(qT (by omega))⟩ ⟨rfl,(qX (by rw [hsn];try exact rfl))⟩ rfl⟩
       ·refine qG [6,12] (by kernel_rfl) rfl ?_;refine zai ?_ ?_
        ·refine qG [12] (by kernel_rfl) rfl ?_;refine qG [13] (by kernel_rfl) rfl ?_;refine qG [14] (by kernel_rfl) rfl ?_;refine qG [15] (by kernel_rfl) rfl ?_;refine qG [16] (by kernel_rfl) rfl ?_;refine zai (by exact qP (show (stzL (es.take i)).length + 1 ≤ 1000000000 by omega) (by decide)) ?_;refine qJ 17 rfl rfl rfl (by kernel_rfl) ?_;refine qO (by kernel_rfl) ?_;refine qB ?_;refine zai (by first|omega|assumption|decide|(simp only [zds];omega)|(simp <;> omega)) ?_;exact ⟨i + 1,by omega,by first|omega|(simp <;> omega),qQ ⟨rfl,rfl,(qT (by omega))⟩ ⟨rfl,(qX (by rw [hsn];try exact rfl))⟩ rfl⟩
        ·refine qG [6,13] (by kernel_rfl) rfl ?_;refine zai ?_ ?_
         ·refine qG [13] (by kernel_rfl) rfl ?_;refine qG [14] (by kernel_rfl) rfl ?_;refine qG [15] (by kernel_rfl) rfl ?_;refine qG [16] (by kernel_rfl) rfl ?_;refine zai (by exact qP (show (stzL (es.take i)).length + 1 ≤ 1000000000 by omega) (by decide)) ?_;refine qJ 17 rfl rfl rfl (by kernel_rfl) ?_;refine qO (by kernel_rfl) ?_;refine qB ?_;refine zai (by first|omega|assumption|decide|(simp only [zds];omega)|(simp <;> omega)) ?_;exact ⟨i + 1,by omega,by first|omega|(simp <;> omega),qQ ⟨rfl,rfl,(qT (by omega))⟩ ⟨rfl,(qX (by rw [hsn];try exact rfl))⟩ rfl⟩
         ·refine qG [6] (by kernel_rfl) rfl ?_;refine qG [14] (by kernel_rfl) rfl ?_;refine qG [15] (by kernel_rfl) rfl ?_;refine qG [16] (by kernel_rfl) rfl ?_;refine zai (by exact qP (show (stzL (es.take i)).length + 1 ≤ 1000000000 by omega) (by decide)) ?_;refine qJ 17 rfl rfl rfl (by kernel_rfl) ?_;refine qO (by kernel_rfl) ?_;refine qB ?_;refine zai (by first|omega|assumption|decide|(simp only [zds];omega)|(simp <;> omega)) ?_;exact ⟨i + 1,by omega,by first|omega|(simp <;> omega),qQ ⟨rfl,rfl,(qT (by omega))⟩ ⟨rfl,(qX (by rw [hsn];try exact rfl))⟩ rfl⟩
      ·refine qG [5,12] (by kernel_rfl) rfl ?_;refine zai ?_ ?_
       ·refine qG [6,12] (by kernel_rfl) rfl ?_;refine zai ?_ ?_
        ·refine qG [12] (by kernel_rfl) rfl ?_;refine qG [13] (by kernel_rfl) rfl ?_;refine qG [14] (by kernel_rfl) rfl ?_;refine qG [15] (by kernel_rfl) rfl ?_;refine qG [16] (by kernel_rfl) rfl ?_;refine zai (by exact qP (show (stzL (es.take i)).length + 1 ≤ 1000000000 by omega) (by decide)) ?_;refine qJ 17 rfl rfl rfl (by kernel_rfl) ?_;refine qO (by kernel_rfl) ?_;refine qB ?_;refine zai (by first|omega|assumption|decide|(simp only [zds];omega)|(simp <;> omega)) ?_;exact ⟨i + 1,by omega,by first|omega|(simp <;> omega),qQ ⟨rfl,rfl,(qT (by omega))⟩ ⟨rfl,(qX (by rw [hsn];try exact rfl))⟩ rfl⟩
        ·refine qG [6,13] (by kernel_rfl) rfl ?_;refine zai ?_ ?_
         ·refine qG [13] (by kernel_rfl) rfl ?_;refine qG [14] (by kernel_rfl) rfl ?_;refine qG [15] (by kernel_rfl) rfl ?_;refine qG [16] (by kernel_rfl) rfl ?_;refine zai (by exact qP (show (stzL (es.take i)).length + 1 ≤ 1000000000 by omega) (by decide)) ?_;refine qJ 17 rfl rfl rfl (by kernel_rfl) ?_;refine qO (by kernel_rfl) ?_;refine qB ?_;refine zai (by first|omega|assumption|decide|(simp only [zds];omega)|(simp <;> omega)) ?_;exact ⟨i + 1,by omega,by first|omega|(simp <;> omega),qQ ⟨rfl,rfl,(qT (by omega))⟩ ⟨rfl,(qX (by rw [hsn];try exact rfl))⟩ rfl⟩
         ·refine qG [6] (by kernel_rfl) rfl ?_;refine qG [14] (by kernel_rfl) rfl ?_;refine qG [15] (by kernel_rfl) rfl ?_;refine qG [16] (by kernel_rfl) rfl ?_;refine zai (by exact qP (show (stzL (es.take i)).length + 1 ≤ 1000000000 by omega) (by decide)) ?_;refine qJ 17 rfl rfl rfl (by kernel_rfl) ?_;refine qO (by kernel_rfl) ?_;refine qB ?_;refine zai (by first|omega|assumption|decide|(simp only [zds];omega)|(simp <;> omega)) ?_;exact ⟨i + 1,by omega,by first|omega|(simp <;> omega),qQ ⟨rfl,rfl,(qT (by omega))⟩ ⟨rfl,(qX (by rw [hsn];try exact rfl))⟩ rfl⟩
       ·refine qG [5,13] (by kernel_rfl) rfl ?_;refine zai ?_ ?_
        ·refine qG [6,13] (by kernel_rfl) rfl ?_;refine zai ?_ ?_
         ·refine qG [13] (by kernel_rfl) rfl ?_;refine qG [14] (by kernel_rfl) rfl ?_;refine qG [15] (by kernel_rfl) rfl ?_;refine qG [16] (by kernel_rfl) rfl ?_;refine zai (by exact qP (show (stzL (es.take i)).length + 1 ≤ 1000000000 by omega) (by decide)) ?_;refine qJ 17 rfl rfl rfl (by kernel_rfl) ?_;refine qO (by kernel_rfl) ?_;refine qB ?_;refine zai (by first|omega|assumption|decide|(simp only [zds];omega)|(simp <;> omega)) ?_;exact ⟨i + 1,by omega,by first|omega|(simp <;> omega),qQ ⟨rfl,rfl,(qT (by omega))⟩ ⟨rfl,(qX (by rw [hsn];try exact rfl))⟩ rfl⟩
         ·refine qG [6] (by kernel_rfl) rfl ?_;refine qG [14] (by kernel_rfl) rfl ?_;refine qG [15] (by kernel_rfl) rfl ?_;refine qG [16] (by kernel_rfl) rfl ?_;refine zai (by exact qP (show (stzL (es.take i)).length + 1 ≤ 1000000000 by omega) (by decide)) ?_;refine qJ 17 rfl rfl rfl (by kernel_rfl) ?_;refine qO (by kernel_rfl) ?_;refine qB ?_;refine zai (by first|omega|assumption|decide|(simp only [zds];omega)|(simp <;> omega)) ?_;exact ⟨i + 1,by omega,by first|omega|(simp <;> omega),qQ ⟨rfl,rfl,(qT (by omega))⟩ ⟨rfl,(qX (by rw [hsn];try exact rfl))⟩ rfl⟩
        ·refine qG [5] (by kernel_rfl) rfl ?_;refine qG [6] (by kernel_rfl) rfl ?_;refine qG [14] (by kernel_rfl) rfl ?_;refine qG [15] (by kernel_rfl) rfl ?_;refine qG [16] (by kernel_rfl) rfl ?_;refine zai (by exact qP (show (stzL (es.take i)).length + 1 ≤ 1000000000 by omega) (by decide)) ?_;refine qJ 17 rfl rfl rfl (by kernel_rfl) ?_;refine qO (by kernel_rfl) ?_;refine qB ?_;refine zai (by first|omega|assumption|decide|(simp only [zds];omega)|(simp <;> omega)) ?_;exact ⟨i + 1,by omega,by first|omega|(simp <;> omega),qQ ⟨rfl,rfl,(qT (by omega))⟩ ⟨rfl,(qX (by rw [hsn];try exact rfl))⟩ rfl⟩
    ·refine qJ 10 rfl rfl rfl (by kernel_rfl) ?_;refine zai (by first|omega|assumption|decide|(simp only [];omega)|(simp <;> omega)) ?_;refine qG [2,11] (by kernel_rfl) rfl ?_;refine zai ?_ ?_
     ·refine qJ 4 rfl rfl rfl (by kernel_rfl) ?_;refine zai (by first|omega|assumption|decide|(simp only [];omega)|(simp <;> omega)) ?_;refine qG [5,11] (by kernel_rfl) rfl ?_;refine zai ?_ ?_
      ·refine qG [6,11] (by kernel_rfl) rfl ?_;refine zai ?_ ?_
       ·refine qG [11] (by kernel_rfl) rfl ?_;refine qG [12] (by kernel_rfl) rfl ?_;refine qG [13] (by kernel_rfl) rfl ?_;refine qG [14] (by kernel_rfl) rfl ?_;refine qG [15] (by kernel_rfl) rfl ?_;refine qG [16] (by kernel_rfl) rfl ?_;refine zai (by exact qP (show (stzL (es.take i)).length + 1 ≤ 1000000000 by omega) (by decide)) ?_;refine qJ 17 rfl rfl rfl (by kernel_rfl) ?_;refine qO (by kernel_rfl) ?_;refine qB ?_;refine zai (by first|omega|assumption|decide|(simp only [zds];omega)|(simp <;> omega)) ?_;exact ⟨i + 1,by omega,by first|omega|(simp <;> omega),qQ ⟨rfl,rfl,(qT (by omega))⟩ ⟨rfl,(qX (by rw [hsn];try exact rfl))⟩ rfl⟩
       ·refine qG [6,12] (by kernel_rfl) rfl ?_;refine zai ?_ ?_
        ·refine qG [12] (by kernel_rfl) rfl ?_;refine qG [13] (by kernel_rfl) rfl ?_;refine qG [14] (by kernel_rfl) rfl ?_;refine qG [15] (by kernel_rfl) rfl ?_;refine qG [16] (by kernel_rfl) rfl ?_;refine zai (by exact qP (show (stzL (es.take i)).length + 1 ≤ 1000000000 by omega) (by decide)) ?_;refine qJ 17 rfl rfl rfl (by kernel_rfl) ?_;refine qO (by kernel_rfl) ?_;refine qB ?_;refine zai (by first|omega|assumption|decide|(simp only [zds];omega)|(simp <;> omega)) ?_;exact ⟨i + 1,by omega,by first|omega|(simp <;> omega),qQ ⟨rfl,rfl,(qT (by omega))⟩ ⟨rfl,(qX (by rw [hsn];try exact rfl))⟩ rfl⟩
        ·refine qG [6,13] (by kernel_rfl) rfl ?_;refine zai ?_ ?_
         ·refine qG [13] (by kernel_rfl) rfl ?_;refine qG [14] (by kernel_rfl) rfl ?_;refine qG [15] (by kernel_rfl) rfl ?_;refine qG [16] (by kernel_rfl) rfl ?_;refine zai (by exact qP (show (stzL (es.take i)).length + 1 ≤ 1000000000 by omega) (by decide)) ?_;refine qJ 17 rfl rfl rfl (by kernel_rfl) ?_;refine qO (by kernel_rfl) ?_;refine qB ?_;refine zai (by first|omega|assumption|decide|(simp only [zds];omega)|(simp <;> omega)) ?_;exact ⟨i + 1,by omega,by first|omega|(simp <;> omega),qQ ⟨rfl,rfl,(qT (by omega))⟩ ⟨rfl,(qX (by rw [hsn];try exact rfl))⟩ rfl⟩
         ·refine qG [6] (by kernel_rfl) rfl ?_;refine qG [14] (by kernel_rfl) rfl ?_;refine qG [15] (by kernel_rfl) rfl ?_;refine qG [16] (by kernel_rfl) rfl ?_;refine zai (by exact qP (show (stzL (es.take i)).length + 1 ≤ 1000000000 by omega) (by decide)) ?_;refine qJ 17 rfl rfl rfl (by kernel_rfl) ?_;refine qO (by kernel_rfl) ?_;refine qB ?_;refine zai (by first|omega|assumption|decide|(simp only [zds];omega)|(simp <;> omega)) ?_;exact ⟨i + 1,by omega,by first|omega|(simp <;> omega),qQ ⟨rfl,rfl,(qT (by omega))⟩ ⟨rfl,(qX (by rw [hsn];try exact rfl))⟩ rfl⟩
      ·refine qG [5,12] (by kernel_rfl) rfl ?_;refine zai ?_ ?_
       ·refine qG [6,12] (by kernel_rfl) rfl ?_;refine zai ?_ ?_
        ·refine qG [12] (by kernel_rfl) rfl ?_;refine qG [13] (by kernel_rfl) rfl ?_;refine qG [14] (by kernel_rfl) rfl ?_;refine qG [15] (by kernel_rfl) rfl ?_;refine qG [16] (by kernel_rfl) rfl ?_;refine zai (by exact qP (show (stzL (es.take i)).length + 1 ≤ 1000000000 by omega) (by decide)) ?_;refine qJ 17 rfl rfl rfl (by kernel_rfl) ?_;refine qO (by kernel_rfl) ?_;refine qB ?_;refine zai (by first|omega|assumption|decide|(simp only [zds];omega)|(simp <;> omega)) ?_;exact ⟨i + 1,by omega,by first|omega|(simp <;> omega),qQ ⟨rfl,rfl,(qT (by omega))⟩ ⟨rfl,(qX (by rw [hsn];try exact rfl))⟩ rfl⟩
        ·refine qG [6,13] (by kernel_rfl) rfl ?_;refine zai ?_ ?_
         ·refine qG [13] (by kernel_rfl) rfl ?_;refine qG [14] (by kernel_rfl) rfl ?_;refine qG [15] (by kernel_rfl) rfl ?_;refine qG [16] (by kernel_rfl) rfl ?_;refine zai (by exact qP (show (stzL (es.take i)).length + 1 ≤ 1000000000 by omega) (by decide)) ?_;refine qJ 17 rfl rfl rfl (by kernel_rfl) ?_;refine qO (by kernel_rfl) ?_;refine qB ?_;refine zai (by first|omega|assumption|decide|(simp only [zds];omega)|(simp <;> omega)) ?_;exact ⟨i + 1,by omega,by first|omega|(simp <;> omega),qQ ⟨rfl,rfl,(qT (by omega))⟩ ⟨rfl,(qX (by rw [hsn];try exact rfl))⟩ rfl⟩
         ·refine qG [6] (by kernel_rfl) rfl ?_;refine qG [14] (by kernel_rfl) rfl ?_;refine qG [15] (by kernel_rfl) rfl ?_;refine qG [16] (by kernel_rfl) rfl ?_;refine zai (by exact qP (show (stzL (es.take i)).length + 1 ≤ 1000000000 by omega) (by decide)) ?_;refine qJ 17 rfl rfl rfl (by kernel_rfl) ?_;refine qO (by kernel_rfl) ?_;refine qB ?_;refine zai (by first|omega|assumption|decide|(simp only [zds];omega)|(simp <;> omega)) ?_;exact ⟨i + 1,by omega,by first|omega|(simp <;> omega),qQ ⟨rfl,rfl,(qT (by omega))⟩ ⟨rfl,(qX (by rw [hsn];try exact rfl))⟩ rfl⟩
       ·refine qG [5,13] (by kernel_rfl) rfl ?_;refine zai ?_ ?_
        ·refine qG [6,13] (by kernel_rfl) rfl ?_;refine zai ?_ ?_
         ·refine qG [13] (by kernel_rfl) rfl ?_;refine qG [14] (by kernel_rfl) rfl ?_;refine qG [15] (by kernel_rfl) rfl ?_;refine qG [16] (by kernel_rfl) rfl ?_;refine zai (by exact qP (show (stzL (es.take i)).length + 1 ≤ 1000000000 by omega) (by decide)) ?_;refine qJ 17 rfl rfl rfl (by kernel_rfl) ?_;refine qO (by kernel_rfl) ?_;refine qB ?_;refine zai (by first|omega|assumption|decide|(simp only [zds];omega)|(simp <;> omega)) ?_;exact ⟨i + 1,by omega,by first|omega|(simp <;> omega),qQ ⟨rfl,rfl,(qT (by omega))⟩ ⟨rfl,(qX (by rw [hsn];try exact rfl))⟩ rfl⟩
         ·refine qG [6] (by kernel_rfl) rfl ?_;refine qG [14] (by kernel_rfl) rfl ?_;refine qG [15] (by kernel_rfl) rfl ?_;refine qG [16] (by kernel_rfl) rfl ?_;refine zai (by exact qP (show (stzL (es.take i)).length + 1 ≤ 1000000000 by omega) (by decide)) ?_;refine qJ 17 rfl rfl rfl (by kernel_rfl) ?_;refine qO (by kernel_rfl) ?_;refine qB ?_;refine zai (by first|omega|assumption|decide|(simp only [zds];omega)|(simp <;> omega)) ?_;exact ⟨i + 1,by omega,by first|omega|(simp <;> omega),qQ ⟨rfl,rfl,(qT (by omega))⟩ ⟨rfl,(qX (by rw [hsn];try exact rfl))⟩ rfl⟩
        ·refine qG [5] (by kernel_rfl) rfl ?_;refine qG [6] (by kernel_rfl) rfl ?_;refine qG [14] (by kernel_rfl) rfl ?_;refine qG [15] (by kernel_rfl) rfl ?_;refine qG [16] (by kernel_rfl) rfl ?_;refine zai (by exact qP (show (stzL (es.take i)).length + 1 ≤ 1000000000 by omega) (by decide)) ?_;refine qJ 17 rfl rfl rfl (by kernel_rfl) ?_;refine qO (by kernel_rfl) ?_;refine qB ?_;refine zai (by first|omega|assumption|decide|(simp only [zds];omega)|(simp <;> omega)) ?_;exact ⟨i + 1,by omega,by first|omega|(simp <;> omega),qQ ⟨rfl,rfl,(qT (by omega))⟩ ⟨rfl,(qX (by rw [hsn];try exact rfl))⟩ rfl⟩
     ·refine qG [2,12] (by kernel_rfl) rfl ?_;refine zai ?_ ?_
      ·refine qJ 4 rfl rfl rfl (by kernel_rfl) ?_;refine zai (by first|omega|assumption|decide|(simp only [];omega)|(simp <;> omega)) ?_;refine qG [5,12] (by kernel_rfl) rfl ?_;refine zai ?_ ?_
       ·refine qG [6,12] (by kernel_rfl) rfl ?_;refine zai ?_ ?_
        ·refine qG [12] (by kernel_rfl) rfl ?_;refine qG [13] (by kernel_rfl) rfl ?_;refine qG [14] (by kernel_rfl) rfl ?_;refine qG [15] (by kernel_rfl) rfl ?_;refine qG [16] (by kernel_rfl) rfl ?_;refine zai (by exact qP (show (stzL (es.take i)).length + 1 ≤ 1000000000 by omega) (by decide)) ?_;refine qJ 17 rfl rfl rfl (by kernel_rfl) ?_;refine qO (by kernel_rfl) ?_;refine qB ?_;refine zai (by first|omega|assumption|decide|(simp only [zds];omega)|(simp <;> omega)) ?_;exact ⟨i + 1,by omega,by first|omega|(simp <;> omega),qQ ⟨rfl,rfl,(qT (by omega))⟩ ⟨rfl,(qX (by rw [hsn];try exact rfl))⟩ rfl⟩
        ·refine qG [6,13] (by kernel_rfl) rfl ?_;refine zai ?_ ?_
         ·refine qG [13] (by kernel_rfl) rfl ?_;refine qG [14] (by kernel_rfl) rfl ?_;refine qG [15] (by kernel_rfl) rfl ?_;refine qG [16] (by kernel_rfl) rfl ?_;refine zai (by exact qP (show (stzL (es.take i)).length + 1 ≤ 1000000000 by omega) (by decide)) ?_;refine qJ 17 rfl rfl rfl (by kernel_rfl) ?_;refine qO (by kernel_rfl) ?_;refine qB ?_;refine zai (by first|omega|assumption|decide|(simp only [zds];omega)|(simp <;> omega)) ?_;exact ⟨i + 1,by omega,by first|omega|(simp <;> omega),qQ ⟨rfl,rfl,(qT (by omega))⟩ ⟨rfl,(qX (by rw [hsn];try exact rfl))⟩ rfl⟩
         ·refine qG [6] (by kernel_rfl) rfl ?_;refine qG [14] (by kernel_rfl) rfl ?_;refine qG [15] (by kernel_rfl) rfl ?_;refine qG [16] (by kernel_rfl) rfl ?_;refine zai (by exact qP (show (stzL (es.take i)).length + 1 ≤ 1000000000 by omega) (by decide)) ?_;refine qJ 17 rfl rfl rfl (by kernel_rfl) ?_;refine qO (by kernel_rfl) ?_;refine qB ?_;refine zai (by first|omega|assumption|decide|(simp only [zds];omega)|(simp <;> omega)) ?_;exact ⟨i + 1,by omega,by first|omega|(simp <;> omega),qQ ⟨rfl,rfl,(qT (by omega))⟩ ⟨rfl,(qX (by rw [hsn];try exact rfl))⟩ rfl⟩
       ·refine qG [5,13] (by kernel_rfl) rfl ?_;refine zai ?_ ?_
        ·refine qG [6,13] (by kernel_rfl) rfl ?_;refine zai ?_ ?_
         ·refine qG [13] (by kernel_rfl) rfl ?_;refine qG [14] (by kernel_rfl) rfl ?_;refine qG [15] (by kernel_rfl) rfl ?_;refine qG [16] (by kernel_rfl) rfl ?_;refine zai (by exact qP (show (stzL (es.take i)).length + 1 ≤ 1000000000 by omega) (by decide)) ?_;refine qJ 17 rfl rfl rfl (by kernel_rfl) ?_;refine qO (by kernel_rfl) ?_;refine qB ?_;refine zai (by first|omega|assumption|decide|(simp only [zds];omega)|(simp <;> omega)) ?_;exact ⟨i + 1,by omega,by first|omega|(simp <;> omega),qQ ⟨rfl,rfl,(qT (by omega))⟩ ⟨rfl,(qX (by rw [hsn];try exact rfl))⟩ rfl⟩
         ·refine qG [6] (by kernel_rfl) rfl ?_;refine qG [14] (by kernel_rfl) rfl ?_;refine qG [15] (by kernel_rfl) rfl ?_;refine qG [16] (by kernel_rfl) rfl ?_;refine zai (by exact qP (show (stzL (es.take i)).length + 1 ≤ 1000000000 by omega) (by decide)) ?_;refine qJ 17 rfl rfl rfl (by kernel_rfl) ?_;refine qO (by kernel_rfl) ?_;refine qB ?_;refine zai (by first|omega|assumption|decide|(simp only [zds];omega)|(simp <;> omega)) ?_;exact ⟨i + 1,by omega,by first|omega|(simp <;> omega),qQ ⟨rfl,rfl,(qT (by omega))⟩ ⟨rfl,(qX (by rw [hsn];try exact rfl))⟩ rfl⟩
        ·refine qG [5] (by kernel_rfl) rfl ?_;refine qG [6] (by kernel_rfl) rfl ?_;refine qG [14] (by kernel_rfl) rfl ?_;refine qG [15] (by kernel_rfl) rfl ?_;refine qG [16] (by kernel_rfl) rfl ?_;refine zai (by exact qP (show (stzL (es.take i)).length + 1 ≤ 1000000000 by omega) (by decide)) ?_;refine qJ 17 rfl rfl rfl (by kernel_rfl) ?_;refine qO (by kernel_rfl) ?_;refine qB ?_;refine zai (by first|omega|assumption|decide|(simp only [zds];omega)|(simp <;> omega)) ?_;exact ⟨i + 1,by omega,by first|omega|(simp <;> omega),qQ ⟨rfl,rfl,(qT (by omega))⟩ ⟨rfl,(qX (by rw [hsn];try exact rfl))⟩ rfl⟩
      ·refine qG [2,13] (by kernel_rfl) rfl ?_;refine zai ?_ ?_
       ·refine qJ 4 rfl rfl rfl (by kernel_rfl) ?_;refine zai (by first|omega|assumption|decide|(simp only [];omega)|(simp <;> omega)) ?_;refine qG [5,13] (by kernel_rfl) rfl ?_;refine zai ?_ ?_
        ·refine qG [6,13] (by kernel_rfl) rfl ?_;refine zai ?_ ?_
         ·refine qG [13] (by kernel_rfl) rfl ?_;refine qG [14] (by kernel_rfl) rfl ?_;refine qG [15] (by kernel_rfl) rfl ?_;refine qG [16] (by kernel_rfl) rfl ?_;refine zai (by exact qP (show (stzL (es.take i)).length + 1 ≤ 1000000000 by omega) (by decide)) ?_;refine qJ 17 rfl rfl rfl (by kernel_rfl) ?_;refine qO (by kernel_rfl) ?_;refine qB ?_;refine zai (by first|omega|assumption|decide|(simp only [zds];omega)|(simp <;> omega)) ?_;exact ⟨i + 1,by omega,by first|omega|(simp <;> omega),qQ ⟨rfl,rfl,(qT (by omega))⟩ ⟨rfl,(qX (by rw [hsn];try exact rfl))⟩ rfl⟩
         ·refine qG [6] (by kernel_rfl) rfl ?_;refine qG [14] (by kernel_rfl) rfl ?_;refine qG [15] (by kernel_rfl) rfl ?_;refine qG [16] (by kernel_rfl) rfl ?_;refine zai (by exact qP (show (stzL (es.take i)).length + 1 ≤ 1000000000 by omega) (by decide)) ?_;refine qJ 17 rfl rfl rfl (by kernel_rfl) ?_;refine qO (by kernel_rfl) ?_;refine qB ?_;refine zai (by first|omega|assumption|decide|(simp only [zds];omega)|(simp <;> omega)) ?_;exact ⟨i + 1,by omega,by first|omega|(simp <;> omega),qQ ⟨rfl,rfl,(qT (by omega))⟩ ⟨rfl,(qX (by rw [hsn];try exact rfl))⟩ rfl⟩
        ·refine qG [5] (by kernel_rfl) rfl ?_;refine qG [6] (by kernel_rfl) rfl ?_;refine qG [14] (by kernel_rfl) rfl ?_;refine qG [15] (by kernel_rfl) rfl ?_;refine qG [16] (by kernel_rfl) rfl ?_;refine zai (by exact qP (show (stzL (es.take i)).length + 1 ≤ 1000000000 by omega) (by decide)) ?_;refine qJ 17 rfl rfl rfl (by kernel_rfl) ?_;refine qO (by kernel_rfl) ?_;refine qB ?_;refine zai (by first|omega|assumption|decide|(simp only [zds];omega)|(simp <;> omega)) ?_;exact ⟨i + 1,by omega,by first|omega|(simp <;> omega),qQ ⟨rfl,rfl,(qT (by omega))⟩ ⟨rfl,(qX (by rw [hsn];try exact rfl))⟩ rfl⟩
       ·refine qG [2] (by kernel_rfl) rfl ?_;refine qJ 4 rfl rfl rfl (by kernel_rfl) ?_;refine zai (by first|omega|assumption|decide|(simp only [];omega)|(simp <;> omega)) ?_;refine qG [5] (by kernel_rfl) rfl ?_;refine qG [6] (by kernel_rfl) rfl ?_;refine qG [14] (by kernel_rfl) rfl ?_;refine qG [15] (by kernel_rfl) rfl ?_;refine qG [16] (by kernel_rfl) rfl ?_;refine zai (by exact qP (show (stzL (es.take i)).length + 1 ≤ 1000000000 by omega) (by decide)) ?_;refine qJ 17 rfl rfl rfl (by kernel_rfl) ?_;refine qO (by kernel_rfl) ?_;refine qB ?_;refine zai (by first|omega|assumption|decide|(simp only [zds];omega)|(simp <;> omega)) ?_;exact ⟨i + 1,by omega,by first|omega|(simp <;> omega),qQ ⟨rfl,rfl,(qT (by omega))⟩ ⟨rfl,(qX (by rw [hsn];try exact rfl))⟩ rfl⟩
   ·try simp only [decide_eq_false_iff_not,Int.not_lt] at h18
    try simp only [Int.toNat_natCast,qI,qH,qF,qE] at h18
    have hk : live (es.getD i (((0 : Int),ByteArray.empty,([] : List Fld)),(0 : Int))) = false:=decide_eq_false (by omega);rw [hk,if_neg Bool.false_ne_true,List.append_nil] at hsn;refine qM ?_;refine qB ?_;refine zai (by first|omega|assumption|decide|(simp only [zds];omega)|(simp <;> omega)) ?_;exact ⟨i + 1,by omega,by first|omega|(simp <;> omega),qQ ⟨rfl,rfl,(qT (by omega))⟩ ⟨rfl,(qX (by rw [hsn];try exact rfl))⟩ rfl⟩
  ·try simp only [decide_eq_false_iff_not,Int.not_lt] at h9
   try simp only [zds] at h9
   refine qY ?_;refine qC ?_;refine qB ?_;refine qL ?_;rw [List.take_of_length_le (by omega)];exact rfl
end Q
end Ab
end Go.Proofs.YtehmiepjeffloaaGreatDoor
namespace Go.Proofs.YtehmiepjeffloaaGreatDoor
open Go.RowKit
namespace Ab
set_option maxRecDepth 100000
namespace Q
theorem fstV_drop (k : ByteArray) {l : List Fld} {q : Nat} (h : q < l.length) : fstV k (l.drop q) = if (l.getD q (ByteArray.empty,ByteArray.empty)).1 = k then (l.getD q (ByteArray.empty,ByteArray.empty)).2 else fstV k (l.drop (q + 1)):=by
  rw [List.drop_eq_getElem_cons h,← getD_get h (ByteArray.empty,ByteArray.empty)];rfl
theorem rowX_snoc {keys : List ByteArray} {x : Stz} {i : Nat} (h : i < keys.length) : rowX (keys.take (i + 1)) x = rowX (keys.take i) x ++ [fstV (keys.getD i ByteArray.empty) x.2]:=by
  unfold rowX;rw [← yJ ByteArray.empty h,List.map_append];rfl
theorem rexp_nil (es : List Ent) (n : Int) : qS Tryz.prog 10 [.agg (toL rRL (es,n)),.one (.sl .str [])] (.tup [(false,[.lit (.string ⟨#[]⟩)]),(false,[.lit (.int .i64 2)])]):=by
  refine qR (rs:=[4,5]) Tryz.func10 rfl rfl rfl teOk rfl ?_;refine qC ?_;refine qB ?_;refine qC ?_;refine qC ?_;refine qB ?_;intro l1_1
  try simp only [zds] at l1_1
  refine qK rfl (fun h15=>?_) (fun h15=>?_)
  ·try simp only [decide_eq_true_eq] at h15
   try simp only [zds] at h15
   refine qC ?_;refine qB ?_;refine qL ?_;rfl
  ·try simp only [decide_eq_false_iff_not] at h15
   try simp only [zds] at h15
   simp at h15
theorem rexp_bad (es : List Ent) (n : Int) (keys : List ByteArray) (h0 : 0 < keys.length) (hk : keysOk keys = false) : qS Tryz.prog 10 [.agg (toL rRL (es,n)),.one (.sl .str keys)] (.tup [(false,[.lit (.string ⟨#[]⟩)]),(false,[.lit (.int .i64 5)])]):=by
  refine qR (rs:=[4,5]) Tryz.func10 rfl rfl rfl teOk rfl ?_;refine qC ?_;refine qB ?_;refine qC ?_;refine qC ?_;refine qB ?_;intro l1_1
  try simp only [zds] at l1_1
  refine qK rfl (fun h15=>?_) (fun h15=>?_)
  ·try simp only [decide_eq_true_eq] at h15
   try simp only [zds] at h15
   omega
  ·try simp only [decide_eq_false_iff_not] at h15
   try simp only [zds] at h15
   refine qM ?_;refine qC ?_;refine qC ?_;refine qB ?_;refine Or.inl ?_;refine zai (rfl) ?_;refine zei _ (zai (refGoodsA_c keys) ?_);refine qK rfl (fun h18=>?_) (fun h18=>?_)
   ·try simp only [Bool.not_eq_true'] at h18
    try simp only [zds] at h18
    refine qC ?_;refine qB ?_;refine qL ?_;rfl
   ·try simp only [Bool.not_eq_false'] at h18
    try simp only [zds] at h18
    rw [hk] at h18;cases h18
theorem rexp_ok (es : List Ent) (n : Int) (keys : List ByteArray) (h0 : 0 < keys.length) (hk : keysOk keys = true) (hl : es.length ≤ 1000000) (h12 : keys.length ≤ 12) (hs : ∀ x ∈ stzL es,∀ f ∈ x.2,f.2.size ≤ 1000) (hn : (stzL es).length ≤ 400) : qS Tryz.prog 10 [.agg (toL rRL (es,n)),.one (.sl .str keys)] (.tup [(false,[.lit (.string (bytes (yV (lst (rowsX keys (stzL es))))))]),(false,[.lit (.int .i64 0)])]):=by
  have hw:=refWriteS_c (rowsX keys (stzL es)) (rowsX_m hk h12 hs hn) (by unfold rowsX;rw [List.length_cons,List.length_map];omega);have hst:=refStz_c es n hl;obtain ⟨ss,hss⟩ : ∃ ss,stzL es = ss:=⟨_,rfl⟩;rw [hss] at hw hn hst ⊢;refine qR (rs:=[4,5]) Tryz.func10 rfl rfl rfl teOk rfl ?_;refine qC ?_;refine qB ?_;refine qC ?_;refine qC ?_;refine qB ?_;intro l1_1
  try simp only [zds] at l1_1
  refine qK rfl (fun h15=>?_) (fun h15=>?_)
  ·try simp only [decide_eq_true_eq] at h15
   try simp only [zds] at h15
   omega
  ·try simp only [decide_eq_false_iff_not] at h15
   try simp only [zds] at h15
   refine qM ?_;refine qC ?_;refine qC ?_;refine qB ?_;refine Or.inl ?_;refine zai (rfl) ?_;refine zei _ (zai (refGoodsA_c keys) ?_);refine qK rfl (fun h18=>?_) (fun h18=>?_)
   ·try simp only [Bool.not_eq_true'] at h18
    try simp only [zds] at h18
    rw [hk] at h18;cases h18
   ·try simp only [Bool.not_eq_false'] at h18
    try simp only [zds] at h18
    refine qM ?_;refine qC ?_;refine qB ?_;refine qC ?_;refine qB ?_;refine Or.inl ?_;refine zai (rfl) ?_;refine zei _ (zai (hst) ?_);refine qC ?_;refine qC ?_;refine qB ?_;refine qN ?_;refine qU (fun (i : Nat)=>i ≤ ss.length) (fun (i : Nat)=>[(1,.one (.sl .str keys)),(6,.one (.vec 1)),(7,.one (.sl rStz ss)),(8,ii .i64 i)]) (fun (i : Nat)=>[(1,.vec 22 (.sl .str) (rowsX keys (ss.take i)))]) 2 (fun (i : Nat)=>ss.length - i) 0 (Nat.zero_le _) (qQ ⟨rfl,rfl,rfl,rfl⟩ rfl rfl) ?_;intro i hI0;refine qC ?_;refine qC ?_;refine qB ?_;intro l8_2
    try simp only [zds] at l8_2
    refine qK rfl (fun h26=>?_) (fun h26=>?_)
    ·try simp only [decide_eq_true_eq] at h26
     try simp only [zds] at h26
     have hil : i < ss.length:=(by omega);have hsn:=rowsX_snoc (keys:=keys) hil;have hrl : (rowsX keys (ss.take i)).length ≤ 401:=(by unfold rowsX;rw [List.length_cons,List.length_map,List.length_take];omega);refine qM ?_;refine qC ?_;refine qN ?_;refine qC ?_;refine qB ?_;refine qC ?_;refine qC ?_;refine yM 9 9 .str rfl ?_;refine qB ?_;refine qN ?_;refine qU (fun (k : Nat)=>k ≤ keys.length) (fun (k : Nat)=>[(1,.one (.sl .str keys)),(6,.one (.vec 1)),(7,.one (.sl rStz ss)),(8,ii .i64 i),(9,.one (.vec 2)),(10,ii .i64 k)]) (fun (k : Nat)=>[(1,.vec 22 (.sl .str) (rowsX keys (ss.take i))),(2,.vec 9 .str (rowX (keys.take k) (ss.getD i ((0 : Int),([] : List Fld)))))]) 3 (fun (k : Nat)=>keys.length - k) 0 (Nat.zero_le _) (qQ ⟨rfl,rfl,rfl,rfl,rfl,rfl⟩ ⟨rfl,rfl⟩ rfl) ?_;intro k hI2;refine qC ?_;refine qC ?_;refine qB ?_;intro l12_2
     try simp only [zds] at l12_2
     refine qK rfl (fun h32=>?_) (fun h32=>?_)
     ·try simp only [decide_eq_true_eq] at h32
      try simp only [zds] at h32
      have hkl : k < keys.length:=(by omega);have hrn:=rowX_snoc (x:=ss.getD i ((0 : Int),([] : List Fld))) hkl;have hrk : (rowX (keys.take k) (ss.getD i ((0 : Int),([] : List Fld)))).length ≤ 12:=(by unfold rowX;rw [List.length_map,List.length_take];omega);refine qM ?_;refine qC ?_;refine qN ?_;refine qC ?_;refine qB ?_;refine qC ?_;refine qC ?_;refine qB ?_;refine zai (by first|omega|assumption|decide|(simp only [zds];omega)|(simp <;> omega)) ?_;intro l15_5
      try simp only [Int.toNat_natCast,qI,qH,qE] at l15_5
      refine zai (by first|omega|assumption|decide|(simp only [Int.toNat_natCast,qI,qH,qE];omega)|(simp <;> omega)) ?_;refine qN ?_;refine qU (fun (q : Nat)=>q ≤ (ss.getD i ((0 : Int),([] : List Fld))).2.length) (fun (q : Nat)=>[(1,.one (.sl .str keys)),(6,.one (.vec 1)),(7,.one (.sl rStz ss)),(8,ii .i64 i),(9,.one (.vec 2)),(10,ii .i64 k),(11,is (fstV (keys.getD k ByteArray.empty) ((ss.getD i ((0 : Int),([] : List Fld))).2.drop q))),(12,ii .i64 ((q : Int) - 1))]) (fun (q : Nat)=>[(1,.vec 22 (.sl .str) (rowsX keys (ss.take i))),(2,.vec 9 .str (rowX (keys.take k) (ss.getD i ((0 : Int),([] : List Fld)))))]) 3 (fun (q : Nat)=>q) (ss.getD i ((0 : Int),([] : List Fld))).2.length (Nat.le_refl _) (qQ ⟨rfl,rfl,rfl,rfl,rfl,rfl,(is_eq (by rw [List.drop_length];rfl)),rfl⟩ ⟨rfl,rfl⟩ rfl) ?_;intro q hI4;refine qC ?_;refine qC ?_;refine qB ?_;refine qK rfl (fun h43=>?_) (fun h43=>?_)
      ·try simp only [decide_eq_true_eq] at h43
       try simp only [zds] at h43
       obtain ⟨p,rfl⟩ : ∃ p,q = p + 1:=⟨q - 1,by omega⟩;rw [show ((p + 1 : Nat) : Int) - 1 = (p : Int) by omega];have hq1 : p < (ss.getD i ((0 : Int),([] : List Fld))).2.length:=(by omega);have hdr:=fstV_drop (keys.getD k ByteArray.empty) hq1;refine qM ?_;refine qC ?_;refine qN ?_;refine qC ?_;refine acode_draw rfl (by kernel_rfl) ?_;refine zai (by first|omega|assumption|decide|(simp only [zds];omega)|(simp <;> omega)) ?_;refine zai (by first|omega|assumption|decide|(simp only [Int.toNat_natCast,qI,qH,qE];omega)|(simp <;> omega)) ?_;refine zai (by first|omega|assumption|decide|(simp only [zds];omega)|(simp <;> omega)) ?_;refine qK rfl (fun h59=>?_) (fun h59=>?_)
       ·try simp only [decide_eq_true_eq] at h59
        try simp only [Int.toNat_natCast,qI,qH,qF,qE] at h59
        rw [if_pos h59] at hdr;refine qB ?_;refine zai (by first|omega|assumption|decide|(simp only [zds];omega)|(simp <;> omega)) ?_;refine zai (by first|omega|assumption|decide|(simp only [Int.toNat_natCast,qI,qH,qE];omega)|(simp <;> omega)) ?_;refine qB ?_;refine zai (by first|omega|assumption|decide|(simp only [zds];omega)|(simp <;> omega)) ?_;exact ⟨p,by omega,by first|omega|(simp <;> omega),qQ ⟨rfl,rfl,rfl,rfl,rfl,rfl,(is_eq hdr.symm),(qT (by omega))⟩ ⟨rfl,rfl⟩ rfl⟩
       ·try simp only [decide_eq_false_iff_not] at h59
        try simp only [Int.toNat_natCast,qI,qH,qF,qE] at h59
        rw [if_neg h59] at hdr;refine qM ?_;refine qB ?_;refine zai (by first|omega|assumption|decide|(simp only [zds];omega)|(simp <;> omega)) ?_;exact ⟨p,by omega,by first|omega|(simp <;> omega),qQ ⟨rfl,rfl,rfl,rfl,rfl,rfl,(is_eq hdr.symm),(qT (by omega))⟩ ⟨rfl,rfl⟩ rfl⟩
      ·try simp only [decide_eq_false_iff_not,Int.not_le] at h43
       try simp only [zds] at h43
       refine qY ?_;have hq0 : q = 0:=(by omega);subst hq0;refine qB ?_;refine zai (by show ((rowX (keys.take k) (ss.getD i ((0 : Int),([] : List Fld)))).length + 1) * 16 ≤ 140737488355328;omega) ?_;refine qB ?_;refine zai (by first|omega|assumption|decide|(simp only [zds];omega)|(simp <;> omega)) ?_;exact ⟨k + 1,by omega,by first|omega|(simp <;> omega),qQ ⟨rfl,rfl,rfl,rfl,rfl,(qT (by omega))⟩ ⟨rfl,(qX (by rw [hrn];try exact rfl))⟩ rfl⟩
     ·try simp only [decide_eq_false_iff_not,Int.not_lt] at h32
      try simp only [zds] at h32
      refine qY ?_;rw [List.take_of_length_le (show keys.length ≤ k by omega)];refine qB ?_;refine zai (by exact qP (show (rowsX keys (ss.take i)).length + 1 ≤ 1000000000 by omega) (by decide)) ?_;refine qB ?_;refine zai (by first|omega|assumption|decide|(simp only [zds];omega)|(simp <;> omega)) ?_;exact ⟨i + 1,by omega,by first|omega|(simp <;> omega),qQ ⟨rfl,rfl,rfl,(qT (by omega))⟩ (qX (by rw [hsn];try exact rfl)) rfl⟩
    ·try simp only [decide_eq_false_iff_not,Int.not_lt] at h26
     try simp only [zds] at h26
     refine qY ?_;rw [List.take_of_length_le (show ss.length ≤ i by omega)];refine qC ?_;refine qB ?_;refine Or.inl ?_;refine zai (rfl) ?_;refine zei _ (zai (hw) ?_);refine qL ?_;rfl
theorem rkeys_c (es : List Ent) (n : Int) (hl : es.length ≤ 1000000) (hn : (stzL es).length ≤ 400) (hx : ∀ x ∈ stzL es,x.2.length ≤ 1000) : qS Tryz.prog 15 [.agg (toL rRL (es,n))] (.one (.sl .str (keysX (stzL es)))):=by
  have hst:=refStz_c es n hl;obtain ⟨ss,hss⟩ : ∃ ss,stzL es = ss:=⟨_,rfl⟩;rw [hss] at hn hst hx ⊢;refine qR (rs:=[2]) Tryz.func15 rfl rfl rfl teOk rfl ?_;refine qC ?_;refine qB ?_;refine qC ?_;refine qB ?_;refine qC ?_;refine yM 3 9 .str rfl ?_;refine qB ?_;refine Or.inl ?_;refine zai (rfl) ?_;refine zei _ (zai (hst) ?_);refine qC ?_;refine qC ?_;refine qB ?_;refine qN ?_;refine qU (fun (i : Nat)=>i ≤ ss.length) (fun (i : Nat)=>[(3,.one (.vec 1)),(4,.one (.sl rStz ss)),(5,ii .i64 i)]) (fun (i : Nat)=>[(1,.vec 9 .str (keysX (ss.take i)))]) 2 (fun (i : Nat)=>ss.length - i) 0 (Nat.zero_le _) (qQ ⟨rfl,rfl,rfl⟩ rfl rfl) ?_;intro i hI0;refine qC ?_;refine qC ?_;refine qB ?_;intro l4_2
  try simp only [zds] at l4_2
  refine qK rfl (fun h14=>?_) (fun h14=>?_)
  ·try simp only [decide_eq_true_eq] at h14
   try simp only [zds] at h14
   have hil : i < ss.length:=(by omega);have hsn:=keysX_snoc hil;have hxl:=hx _ (xF hil ((0 : Int),([] : List Fld)));have hkl:=keysX_len 1000 (fun x hxm=>hx x (List.mem_of_mem_take (i:=i) hxm));rw [List.length_take] at hkl;have hkm : min i ss.length * 1000 ≤ 400000:=(by omega);refine qM ?_;refine qC ?_;refine qN ?_;refine qC ?_;refine qB ?_;refine qN ?_;refine qU (fun (j : Nat)=>j ≤ (ss.getD i ((0 : Int),([] : List Fld))).2.length) (fun (j : Nat)=>[(3,.one (.vec 1)),(4,.one (.sl rStz ss)),(5,ii .i64 i),(6,ii .i64 j)]) (fun (j : Nat)=>[(1,.vec 9 .str (((ss.getD i ((0 : Int),([] : List Fld))).2.take j).foldl addK (keysX (ss.take i))))]) 2 (fun (j : Nat)=>(ss.getD i ((0 : Int),([] : List Fld))).2.length - j) 0 (Nat.zero_le _) (qQ ⟨rfl,rfl,rfl,rfl⟩ rfl rfl) ?_;intro j hI2;refine qC ?_;refine qC ?_;refine qB ?_;refine zai (by first|omega|assumption|decide|(simp only [zds];omega)|(simp <;> omega)) ?_;intro l7_6
   try simp only [Int.toNat_natCast,qI,qH,qE] at l7_6
   refine qK rfl (fun h24=>?_) (fun h24=>?_)
   ·try simp only [decide_eq_true_eq] at h24
    try simp only [Int.toNat_natCast,qI,qH,qE] at h24
    have hjl : j < (ss.getD i ((0 : Int),([] : List Fld))).2.length:=(by omega);have hsm:=addK_snoc (keysX (ss.take i)) hjl;have hal:=addKs_len ((ss.getD i ((0 : Int),([] : List Fld))).2.take j) (keysX (ss.take i));rw [List.length_take] at hal;obtain ⟨out,hout⟩ : ∃ out,((ss.getD i ((0 : Int),([] : List Fld))).2.take j).foldl addK (keysX (ss.take i)) = out:=⟨_,rfl⟩;rw [hout] at hal hsm ⊢;refine qM ?_;refine qC ?_;refine qN ?_;refine qC ?_;refine qB ?_;refine qC ?_;refine qC ?_;refine qB ?_;refine qN ?_;refine qU (fun (r : Nat)=>r ≤ out.length) (fun (r : Nat)=>[(3,.one (.vec 1)),(4,.one (.sl rStz ss)),(5,ii .i64 i),(6,ii .i64 j),(7,ib ((out.take r).any fun y=>decide (y = ((ss.getD i ((0 : Int),([] : List Fld))).2.getD j (ByteArray.empty,ByteArray.empty)).1))),(8,ii .i64 r)]) (fun (r : Nat)=>[(1,.vec 9 .str out)]) 2 (fun (r : Nat)=>out.length - r) 0 (Nat.zero_le _) (qQ ⟨rfl,rfl,rfl,rfl,rfl,rfl⟩ rfl rfl) ?_;intro r hI4;refine qC ?_;refine qC ?_;refine qB ?_;intro l11_2
    try simp only [zds] at l11_2
    refine qK rfl (fun h30=>?_) (fun h30=>?_)
    ·try simp only [decide_eq_true_eq] at h30
     try simp only [zds] at h30
     have hrl : r < out.length:=(by omega);refine qM ?_;refine qC ?_;refine qN ?_;refine acode_draw rfl (by kernel_rfl) ?_;refine zai (fun h=>trivial) ?_;refine zai (fun h=>trivial) ?_;refine zai (fun h=>⟨⟨⟨h,trivial⟩,⟨h,trivial⟩,trivial⟩,by first|omega|decide|(simp only [zds];omega)|(have h9:=of_decide_eq_true h;omega)|(simp [gq] at h;omega)⟩) ?_;refine zai (fun h=>⟨⟨⟨h,trivial⟩,trivial⟩,by first|omega|(simp only [Int.toNat_natCast];omega)⟩) ?_;refine zai (fun h=>trivial) ?_;refine zai (fun h=>trivial) ?_;refine zai (fun h=>⟨⟨⟨h,trivial⟩,⟨h,trivial⟩,trivial⟩,by first|omega|decide|(simp only [zds];omega)|(have h9:=of_decide_eq_true h;omega)|(simp [gq] at h;omega)⟩) ?_;refine zai (fun h=>⟨⟨h,trivial⟩,trivial⟩) ?_;refine zai (fun h=>⟨⟨h,trivial⟩,trivial⟩) ?_;refine zai (fun h=>trivial) ?_;refine zai (fun h=>⟨⟨⟨h,trivial⟩,⟨h,trivial⟩,trivial⟩,by first|omega|decide|(simp only [Int.toNat_natCast,qI,qH,qE];omega)|(have h9:=of_decide_eq_true h;omega)|(simp [gq] at h;omega)⟩) ?_;refine zai (fun h=>⟨⟨h,trivial⟩,trivial⟩) ?_;refine zai (fun h=>⟨⟨h,trivial⟩,trivial⟩) ?_;refine zai (fun h=>⟨⟨h,trivial⟩,⟨h,trivial⟩,trivial⟩) ?_;refine zai (by first|(intro h;rw [h];rfl)|(intro h;cases h)) ?_;refine qB ?_;refine zai (by first|omega|assumption|decide|(simp only [zds];omega)|(simp <;> omega)) ?_;exact ⟨r + 1,by omega,by first|omega|(simp <;> omega),qQ ⟨rfl,rfl,rfl,rfl,(ib_eq (by rw [take_any out _ ByteArray.empty r hrl];try rfl)),(qT (by omega))⟩ rfl rfl⟩
    ·try simp only [decide_eq_false_iff_not,Int.not_lt] at h30
     try simp only [zds] at h30
     refine qY ?_;rw [List.take_of_length_le (show out.length ≤ r by omega)];have hmem : (out.any fun y=>decide (y = ((ss.getD i ((0 : Int),([] : List Fld))).2.getD j (ByteArray.empty,ByteArray.empty)).1)) = hasK ((ss.getD i ((0 : Int),([] : List Fld))).2.getD j (ByteArray.empty,ByteArray.empty)).1 out:=(by unfold hasK;congr 1;funext y;exact decide_eq_decide.2 eq_comm);rw [hmem];refine qC ?_;refine qB ?_;refine qK rfl (fun h51=>?_) (fun h51=>?_)
     ·try simp only [Bool.not_eq_true'] at h51
      try simp only [zds] at h51
      rw [addK_new h51] at hsm;refine qB ?_;refine zai (by first|omega|assumption|decide|(simp only [zds];omega)|(simp <;> omega)) ?_;refine zai (by first|omega|assumption|decide|(simp only [Int.toNat_natCast,qI,qH,qE];omega)|(simp <;> omega)) ?_;refine zai (by show (out.length + 1) * 16 ≤ 140737488355328;omega) ?_;refine qB ?_;refine zai (by first|omega|assumption|decide|(simp only [zds];omega)|(simp <;> omega)) ?_;exact ⟨j + 1,by omega,by first|omega|(simp <;> omega),qQ ⟨rfl,rfl,rfl,(qT (by omega))⟩ (qX (by rw [hsm];try exact rfl)) rfl⟩
     ·try simp only [Bool.not_eq_false'] at h51
      try simp only [zds] at h51
      rw [addK_old h51] at hsm;refine qM ?_;refine qB ?_;refine zai (by first|omega|assumption|decide|(simp only [zds];omega)|(simp <;> omega)) ?_;exact ⟨j + 1,by omega,by first|omega|(simp <;> omega),qQ ⟨rfl,rfl,rfl,(qT (by omega))⟩ (qX (by rw [hsm];try exact rfl)) rfl⟩
   ·try simp only [decide_eq_false_iff_not,Int.not_lt] at h24
    try simp only [Int.toNat_natCast,qI,qH,qE] at h24
    refine qY ?_;rw [List.take_of_length_le (show (ss.getD i ((0 : Int),([] : List Fld))).2.length ≤ j by omega)];refine qB ?_;refine zai (by first|omega|assumption|decide|(simp only [zds];omega)|(simp <;> omega)) ?_;exact ⟨i + 1,by omega,by first|omega|(simp <;> omega),qQ ⟨rfl,rfl,(qT (by omega))⟩ (qX (by rw [hsn];try exact rfl)) rfl⟩
  ·try simp only [decide_eq_false_iff_not,Int.not_lt] at h14
   try simp only [zds] at h14
   refine qY ?_;refine qC ?_;refine qB ?_;refine qL ?_;rw [List.take_of_length_le (show ss.length ≤ i by omega)];exact rfl
end Q
end Ab
end Go.Proofs.YtehmiepjeffloaaGreatDoor
namespace Go.Proofs.YtehmiepjeffloaaGreatDoor
open Go.RowKit
namespace Ab
set_option maxRecDepth 100000
namespace Q
end Q
end Ab
end Go.Proofs.YtehmiepjeffloaaGreatDoor
namespace Go.Proofs.YtehmiepjeffloaaGreatDoor
open Go.RowKit
namespace Ab
set_option maxRecDepth 100000
namespace Q
end Q
end Ab
end Go.Proofs.YtehmiepjeffloaaGreatDoor
namespace Go.Proofs.YtehmiepjeffloaaGreatDoor
open Go.RowKit
namespace Ab
set_option maxRecDepth 100000
namespace Q
def itmOf (f : List Fld) : Itm:=(3,bytes (foldL f),f)
end Q
end Ab
end Go.Proofs.YtehmiepjeffloaaGreatDoor
namespace Go.Proofs.YtehmiepjeffloaaGreatDoor
open Go.RowKit
namespace Ab
set_option maxRecDepth 100000
abbrev Edt:=Int × Int × List Fld
abbrev rEdt : Rd Edt:=.st (.int .i64) (.st (.int .i64) (.sl rFld))
namespace Q
def heavyB (l : List Edt) : Bool:=decide (51 < l.length) || l.any fun e=>muchB e.2.2
def spF : Fld:=(⟨#[115,112,111,105,108,116]⟩,⟨#[115,112,111,105,108,116]⟩)
end Q
end Ab
end Go.Proofs.YtehmiepjeffloaaGreatDoor
namespace Go.Proofs.YtehmiepjeffloaaGreatDoor
open Go.RowKit
namespace Ab
set_option maxRecDepth 100000
namespace Q
def doL (L : Lst) (e : Edt) : Lst :=
  if e.1 = 1 then
    if atE L.1 e.2.1 < 0 then L else if (chkR e.2.2).2 ≠ 0 then L else (replE L.1 (atE L.1 e.2.1).toNat (itmOf e.2.2),L.2)
  else if e.1 = 2 then
    if atE L.1 e.2.1 < 0 then L else (delE L.1 (atE L.1 e.2.1).toNat,L.2.1,L.2.2 - 1)
  else if atE L.1 e.2.1 < 0 ∧ e.2.1 ≠ 0 then L else if (chkR e.2.2).2 ≠ 0 then L else if 400 ≤ L.2.2 then L else
    (insE L.1 (atE L.1 e.2.1 + 1).toNat (itmOf e.2.2,L.2.1),L.2.1 + 1,L.2.2 + 1)
def refRep (M : RLs) (id : Int) (f : List Fld) : RLs × Int × Int :=
  if atE M.1 id < 0 then (M,-9,7) else if (chkR f).2 ≠ 0 then (M,(chkR f).1,(chkR f).2) else ((replE M.1 (atE M.1 id).toNat (itmOf f),M.2),-9,0)
def refDel (M : RLs) (id : Int) : RLs × Int :=
  if atE M.1 id < 0 then (M,7) else ((delE M.1 (atE M.1 id).toNat,M.2),0)
def refIns (M : RLs) (id : Int) (f : List Fld) : RLs × Int × Int × Int :=
  if atE M.1 id < 0 ∧ id ≠ 0 then (M,0,-9,7) else if (chkR f).2 ≠ 0 then (M,0,(chkR f).1,(chkR f).2) else if 400 ≤ ((M.1.filter live).length : Int) then (M,0,-9,11) else
    ((insE M.1 (atE M.1 id + 1).toNat (itmOf f,M.2),M.2 + 1),M.2,-9,0)
def posI (n : Int) : Bool:=decide (0 < n)
def nmsL (es : List Ent) : List Int:=(es.map (·.2)).filter posI
theorem ids_eq (es : List Ent) : (es.filter live).map (·.2) = nmsL es:=by
  unfold nmsL;rw [List.filter_map];rfl
theorem ids_len (es : List Ent) : (nmsL es).length = (es.filter live).length:=by rw [← ids_eq,List.length_map]
structure LOk (c : Nat) (L : Lst) : Prop where
  flds : ∀ e ∈ L.1,FldsOk e.1.2.2
  ids : ∀ e ∈ L.1,0 ≤ e.2 ∧ e.2 < L.2.1
  nd : (nmsL L.1).Nodup
  many : L.2.2 = ((nmsL L.1).length : Int)
  next : 1 ≤ L.2.1 ∧ L.2.1 ≤ c
  len : L.1.length ≤ c
theorem ids_cons (e : Ent) (b : List Ent) : nmsL (e :: b) = if 0 < e.2 then e.2 :: nmsL b else nmsL b:=by
  unfold nmsL;rw [List.map_cons,List.filter_cons];unfold posI
  by_cases h : 0 < e.2
  · rw [if_pos h,if_pos (decide_eq_true h)]
  · rw [if_neg h,if_neg (by simpa using h)]
theorem ids_num : ∀ (l : List Itm) (n : Int),1 ≤ n → nmsL (numI n l) = (List.range (cntR l)).map (fun k : Nat=>n + (k : Int)) ∧ ∀ e ∈ numI n l,0 ≤ e.2 ∧ e.2 < n + (cntR l : Int)
  | [],n,_=>⟨rfl,fun e he=>by cases he⟩
  | x :: r,n,hn=>by
    unfold numI;split
    · rename_i h;obtain ⟨h1,h2⟩:=ids_num r (n + 1) (by omega);have hc : cntR (x :: r) = cntR r + 1:=by simp [cntR,h]
      rw [hc];refine ⟨?_,fun e he=>?_⟩
      · rw [ids_cons,if_pos (show 0 < n by omega),h1,List.range_succ_eq_map,List.map_cons,List.map_map]
        congr 1
        · simp
        · apply List.map_congr_left;intro k _;simp only [Function.comp];omega
      · rcases List.mem_cons.1 he with rfl|he
        · show 0 ≤ n ∧ n < _;omega
        · have:=h2 e he;omega
    · rename_i h;obtain ⟨h1,h2⟩:=ids_num r n hn;have hc : cntR (x :: r) = cntR r:=by simp [cntR,h]
      rw [hc];refine ⟨?_,fun e he=>?_⟩
      · rw [ids_cons,if_neg (show ¬ (0 : Int) < 0 by omega),h1]
      · rcases List.mem_cons.1 he with rfl|he
        · show 0 ≤ (0 : Int) ∧ (0 : Int) < _;omega
        · exact h2 e he
theorem ofT_ok {l : List Itm} {c : Nat} (hl : l.length < c) (hf : ∀ x ∈ l,FldsOk x.2.2) : LOk c (ofT l):=by
  obtain ⟨h1,h2⟩:=ids_num l 1 (Int.le_refl _);have h3:=List.length_filter_le isRec l;have h4 : cntR l ≤ l.length:=h3;refine ⟨fun e he=>?_,h2,?_,?_,⟨?_,?_⟩,?_⟩
  · have : e.1 ∈ (numI 1 l).map (·.1):=List.mem_map.2 ⟨e,he,rfl⟩;rw [numI_items] at this;exact hf _ this
  · show (nmsL (numI 1 l)).Nodup;rw [h1];refine List.Pairwise.map _ ?_ List.nodup_range;intro a b hab e;apply hab;omega
  · show (cntR l : Int) = _;rw [show nmsL (ofT l).1 = _ from h1,List.length_map,List.length_range]
  · show 1 ≤ 1 + (cntR l : Int);omega
  · show 1 + (cntR l : Int) ≤ c;omega
  · show (numI 1 l).length ≤ c;rw [numI_len];omega
def refDo (M : RLs) (e : Edt) : RLs:=if e.1 = 1 then (refRep M e.2.1 e.2.2).1 else if e.1 = 2 then (refDel M e.2.1).1 else (refIns M e.2.1 e.2.2).1
end Q
end Ab
end Go.Proofs.YtehmiepjeffloaaGreatDoor
namespace Go.Proofs.YtehmiepjeffloaaGreatDoor
open Go.RowKit
namespace Ab
set_option maxRecDepth 100000
namespace Q
def BlankI (x : Itm) : Prop:=∃ t : ByteArray,x = (1,t ++ ⟨#[10]⟩,[]) ∧ yA (ls t) = 1 ∧ (10 : UInt8) ∉ ls t
def Good1 (x : Itm) : Prop:=BlankI x ∨ (x.1 ≠ 1 ∧ Blk x)
def BIP (p : PSt) : Prop:=(∀ x ∈ p.its,x.1 = 1 → BlankI x) ∧ p.recs = (cntR p.its : Int)
theorem isRec1 (t : ByteArray) : isRec (1,t,[]) = false:=by unfold isRec;simp
theorem close_bi {p : PSt} (h : BIP p) : BIP (xO p):=by
  unfold xO;split
  · exact h
  · by_cases hf : p.flds = []
    · simp only [if_pos hf];refine ⟨fun x hx hx1=>?_,?_⟩
      · rcases List.mem_append.1 hx with hx|hx
        · exact h.1 x hx hx1
        · rw [List.mem_singleton.1 hx] at hx1;cases hx1
      · simp only [cntR_app];rw [h.2];simp [cntR,isRec]
    · simp only [if_neg hf];refine ⟨fun x hx hx1=>?_,?_⟩
      · rcases List.mem_append.1 hx with hx|hx
        · exact h.1 x hx hx1
        · rw [List.mem_singleton.1 hx] at hx1;cases hx1
      · simp only [cntR_app];rw [h.2];simp [cntR,isRec]
theorem flush_bi {p q : PSt} (h : BIP p) (hf : yN p = .inr q) : BIP q:=by
  unfold BIP;rw [(flush_same hf).1,flush_recs hf];exact h
theorem end_bi {p q : PSt} (h : BIP p) (hf : endS p = .inr q) : BIP q:=by
  unfold endS at hf;cases e : yN p with
  | inl x=>rw [e] at hf;cases hf
  | inr r=>rw [e] at hf;cases hf;exact close_bi (flush_bi h e)
theorem take_bi {p q : PSt} {l : Lne} (h : BIP p) (hf : yQ p l = .inr q) (hn : (10 : UInt8) ∉ ls l.2.2.1) : BIP q:=by
  unfold yQ at hf;cases e : yP p l (yA (ls l.2.2.1)) with
  | inl x=>rw [e] at hf;cases hf
  | inr r =>
    rw [e] at hf;have hr : BIP r:=by
      unfold yP at e;split at e
      · split at e
        · cases e
        · split at e
          · cases e;exact h
          · exact flush_bi (p:={ p with lns:=p.lns ++ [l.2.2.1] }) h e
      · split at e
        · exact end_bi h e
        · exact flush_bi h e
    simp only at hf;unfold lineS at hf;split at hf
    · cases hf
    · split at hf
      · rename_i hk;cases hf;refine ⟨fun x hx hx1=>?_,?_⟩
        · rcases List.mem_append.1 hx with hx|hx
          · exact hr.1 x hx hx1
          · exact ⟨l.2.2.1,List.mem_singleton.1 hx,hk,hn⟩
        · simp only [cntR_app];rw [hr.2];simp [cntR,isRec1]
      · split at hf
        · cases hf;exact hr
        · cases hf;exact hr
theorem run_bi : ∀ (L : List Lne) (p q : PSt),BIP p → runS p L = .inr q → (∀ l ∈ L,(10 : UInt8) ∉ ls l.2.2.1) → BIP q
  | [],p,q,hp,h,_=>by cases h;exact hp
  | l :: r,p,q,hp,h,hn=>by
    simp only [runS] at h;cases e : yQ p l with
    | inl x=>rw [e] at h;cases h
    | inr p1 =>
      rw [e] at h;exact run_bi r p1 q (take_bi hp e (hn l List.mem_cons_self)) h (fun x hx=>hn x (List.mem_cons_of_mem _ hx))
theorem parse_good {s : ByteArray} {l : List Itm} (hp : xD s = .inr l) : (∀ x ∈ l,Good1 x) ∧ cntR l ≤ 400:=by
  have hb:=parse_blks hp;unfold xD at hp;cases e : runS pst0 (yB s) with
  | inl x=>rw [e] at hp;cases hp
  | inr p =>
    rw [e] at hp;simp only at hp;cases e2 : endS p with
    | inl x=>rw [e2] at hp;cases hp
    | inr q =>
      rw [e2] at hp;cases hp;have hno : ∀ l ∈ yB s,(10 : UInt8) ∉ ls l.2.2.1:=fun l hl=>by
        have h1 : l.2.2 ∈ (yB s).map (·.2.2):=List.mem_map_of_mem hl;rw [lines_text] at h1;exact linesB_no _ _ _ h1
      have h1 : BIP q:=end_bi (run_bi _ _ _ ⟨(fun _ h=>by cases h),rfl⟩ e hno) e2;have h2:=(end_par (run_par _ _ _ ⟨[],0,[],pst0,rel_0,rfl,rfl,rfl,(fun _ h=>by cases h),(fun _ h=>by cases h)⟩ e hno) e2).2.2.2;refine ⟨fun x hx=>?_,by have:=h1.2;omega⟩
      by_cases hx1 : x.1 = 1
      · exact .inl (h1.1 x hx hx1)
      · exact .inr ⟨hx1,hb x hx hx1⟩
def HF (p : PSt) : Prop:=p.lns ≠ [] ∨ p.flds ≠ []
end Q
end Ab
end Go.Proofs.YtehmiepjeffloaaGreatDoor
namespace Go.Proofs.YtehmiepjeffloaaGreatDoor
open Go.RowKit
namespace Ab
set_option maxRecDepth 100000
namespace Q
structure LGd (B : Nat) (L : Lst) : Prop where
  good : ∀ e ∈ L.1,Good1 e.1 ∧ isRec e.1 = live e
  m4 : L.2.2 ≤ 400
  sz : szI (itmL L.1) ≤ B
theorem num_good : ∀ (l : List Itm) (n : Int),1 ≤ n → (∀ x ∈ l,Good1 x) → ∀ e ∈ numI n l,Good1 e.1 ∧ isRec e.1 = live e
  | [],_,_,_,e,he=>by cases he
  | x :: r,n,hn,hg,e,he=>by
    unfold numI at he;split at he
    · rename_i hr;rcases List.mem_cons.1 he with rfl|he
      · refine ⟨hg x List.mem_cons_self,?_⟩;rw [hr];unfold live;rw [decide_eq_true (by simp only;omega)]
      · exact num_good r (n + 1) (by omega) (fun y hy=>hg y (List.mem_cons_of_mem _ hy)) e he
    · rename_i hr;rcases List.mem_cons.1 he with rfl|he
      · refine ⟨hg x List.mem_cons_self,?_⟩;rw [hr];rfl
      · exact num_good r n hn (fun y hy=>hg y (List.mem_cons_of_mem _ hy)) e he
theorem ofT_gd {s : ByteArray} {l : List Itm} (hp : xD s = .inr l) : LGd s.size (ofT l):=by
  obtain ⟨h1,h2⟩:=parse_good hp;refine ⟨num_good l 1 (Int.le_refl _) h1,by show (cntR l : Int) ≤ 400;omega,?_⟩;show szI (itmL (numI 1 l)) ≤ _;unfold itmL;rw [numI_items];have h3:=raws_text hp;rw [← raws_sz,← h3,qZ];exact Nat.le_refl _
end Q
end Ab
end Go.Proofs.YtehmiepjeffloaaGreatDoor
namespace Go.Proofs.YtehmiepjeffloaaGreatDoor
open Go.RowKit
namespace Ab
set_option maxRecDepth 100000
namespace Q
end Q
end Ab
end Go.Proofs.YtehmiepjeffloaaGreatDoor
namespace Go.Proofs.YtehmiepjeffloaaGreatDoor
open Go.RowKit
namespace Ab
set_option maxRecDepth 100000
namespace Q
end Q
end Ab
end Go.Proofs.YtehmiepjeffloaaGreatDoor
namespace Go.Proofs.YtehmiepjeffloaaGreatDoor
open Go.RowKit
namespace Ab
set_option maxRecDepth 100000
namespace Q
end Q
end Ab
end Go.Proofs.YtehmiepjeffloaaGreatDoor
namespace Go.Proofs.YtehmiepjeffloaaGreatDoor
open Go.RowKit
namespace Ab
set_option maxRecDepth 100000
namespace Q
abbrev zRL : List C:=[.lit (.slice none 0 0),.lit (.int .i64 0)]
end Q
end Ab
end Go.Proofs.YtehmiepjeffloaaGreatDoor
namespace Go.Proofs.YtehmiepjeffloaaGreatDoor
open Go.RowKit
namespace Ab
set_option maxRecDepth 100000
namespace Q
def insT (es : List Ent) (j : Nat) (e : Ent) (i : Nat) : List Ent:=if i < j then es.take i else insE (es.take i) j e
end Q
end Ab
end Go.Proofs.YtehmiepjeffloaaGreatDoor
namespace Go.Proofs.YtehmiepjeffloaaGreatDoor
open Go.RowKit
namespace Ab
set_option maxRecDepth 100000
namespace Q
def doB (num at_ id bad at2 want : Int) : Bool:=((true && decide (num = bad)) && decide (at_ = at2)) && decide (id = want)
end Q
end Ab
end Go.Proofs.YtehmiepjeffloaaGreatDoor
namespace Go.Proofs.YtehmiepjeffloaaGreatDoor
open Go.RowKit
namespace Ab
set_option maxRecDepth 100000
namespace Q
def plays (L : Lst) (s : List Edt) (i : Nat) : Lst:=(s.take i).foldl doL L
theorem items_len {s : ByteArray} {l : List Itm} (hp : xD s = .inr l) : l.length ≤ 2 * s.size + 1:=by
  have h0:=parse_ref s;rw [hp] at h0;obtain ⟨h1,_⟩:=linesT_len s;have key : ∀ (L : List Lne) (t : RSt) (bh : Bool) (l : List Itm),runR bh t L = .inr l → l.length ≤ t.out.length + 1 + 2 * L.length:=by
    intro L
    induction L with
    | nil =>
      intro t bh l h;unfold runR at h;cases h;split <;> simp
    | cons a r ih =>
      intro t bh l h;unfold runR at h;split at h
      · cases h
      · have i1:=ih _ _ _ h;have so : (yT t a r).out.length ≤ t.out.length + 2:=by
          unfold yT;split
          · simp only;split <;> simp
          · split <;> simp
        rw [List.length_cons];omega
  have k1:=key _ _ _ _ h0.symm;simp only [rst0,List.length_nil] at k1;omega
theorem of_lok {s : ByteArray} {l : List Itm} (hs : s.size ≤ 4000) (hp : xD s = .inr l) : LOk 9000 (ofT l):=by
  have h1:=items_len hp;exact ofT_ok (by omega) fun x hx=>fldsOk_of (items_small hp x hx).1 (items_small hp x hx).2
theorem LOk.f1 {c : Nat} {L : Lst} (h : LOk c L) : ∀ e ∈ L.1,e.1.2.2.length ≤ 1000000:=fun e he=>Nat.le_trans (h.flds e he).1 (by decide)
end Q
end Ab
end Go.Proofs.YtehmiepjeffloaaGreatDoor
namespace Go.Proofs.YtehmiepjeffloaaGreatDoor
open Go.RowKit
namespace Ab
set_option maxRecDepth 100000
namespace Q
theorem aText : bytes (yV (lst ([[⟨#[97]⟩,⟨#[98,34,99]⟩]] : List (List ByteArray)))) = ⟨#[97,44,34,98,34,34,99,34,10]⟩:=by decide +kernel
theorem read_of (rows : List (List ByteArray)) (hg : shGood rows = true) (s : ByteArray) (hs : s = bytes (yV (lst rows))) (hz : s.size ≤ 60000) : qS Tryz.prog 27 [is s] (.tup [(false,[.sl (.sl .str) rows]),(false,[.lit .nilIface])]):=by
  have h1 : shGood (lst rows) = true:=by
    rw [← hg];simp only [shGood,lst,List.all_map];congr 1;funext r;simp [lss]
  have h2:=Read_c s hz;rw [hs,show ls (bytes (yV (lst rows))) = yV (lst rows) from qW _,shread_write h1] at h2;have h3 : unt (lst rows) = rows:=by
    simp only [unt,lst,List.map_map]
    conv=>rhs;rw [← List.map_id rows]
    refine List.map_congr_left fun x _=>?_
    simp only [Function.comp,uns,lss,List.map_map]
    conv=>rhs;rw [id,← List.map_id x]
    exact List.map_congr_left fun y _=>bytes_ls y
  rw [hs];have h4 : shReadA (some (lst rows)) = .tup [(false,[.sl (.sl .str) rows]),(false,[.lit .nilIface])]:=by show A.tup [(false,[.sl (.sl .str) (unt (lst rows))]),(false,[.lit .nilIface])] = _;rw [h3]
  rw [← h4];exact h2
theorem alive28_c : qS Tryz.prog 6 [] (ib true):=by
  have hw:=write_yes [[⟨#[97]⟩,⟨#[98,34,99]⟩]] (by decide) (by decide) (by decide);rw [aText] at hw;have hr:=read_of [[⟨#[97]⟩,⟨#[98,34,99]⟩]] (by decide) ⟨#[97,44,34,98,34,34,99,34,10]⟩ aText.symm (by decide);refine qR (rs:=[0]) Tryz.func6 rfl rfl rfl teOk rfl ?_;refine qC ?_;refine qB ?_;refine qC ?_;refine qB ?_;refine Or.inl ?_;refine zai (rfl) ?_;refine zei _ (zai (hw) ?_);refine qC ?_;refine qB ?_;refine Or.inl ?_;refine zai (rfl) ?_;refine zei _ (zai (hr) ?_);refine qC ?_;refine qB ?_;refine zai (fun h=>trivial) ?_;refine zai (fun h=>⟨⟨h,trivial⟩,trivial⟩) ?_;refine zai (by exact fun h=>h) ?_;refine zai (fun h=>trivial) ?_;refine zai (fun h=>⟨⟨h,trivial⟩,trivial⟩) ?_;refine zai (by exact fun h=>h) ?_;refine zai (fun h=>trivial) ?_;refine zai (fun h=>⟨⟨h,trivial⟩,trivial⟩) ?_;refine zai (fun h=>⟨⟨h,trivial⟩,trivial⟩) ?_;refine zai (by exact fun h=>h) ?_;refine zai (fun h=>trivial) ?_;refine zai (fun h=>⟨⟨⟨h,trivial⟩,trivial⟩,by first|omega|decide|(simp only [zds];omega)|(have h9:=of_decide_eq_true h;omega)|(simp [gq] at h;omega)⟩) ?_;refine zai (fun h=>⟨⟨h,trivial⟩,trivial⟩) ?_;refine zai (fun h=>⟨⟨h,trivial⟩,trivial⟩) ?_;refine zai (fun h=>⟨⟨h,trivial⟩,trivial⟩) ?_;refine zai (by exact fun h=>h) ?_;refine zai (fun h=>trivial) ?_;refine zai (fun h=>⟨⟨⟨h,trivial⟩,trivial⟩,by first|omega|decide|(simp only [zds];omega)|(have h9:=of_decide_eq_true h;omega)|(simp [gq] at h;omega)⟩) ?_;refine zai (fun h=>⟨⟨h,trivial⟩,trivial⟩) ?_;refine zai (fun h=>⟨⟨⟨h,trivial⟩,trivial⟩,by first|omega|decide|(simp only [zds];omega)|(have h9:=of_decide_eq_true h;omega)|(simp [gq] at h;omega)⟩) ?_;refine zai (fun h=>⟨⟨h,trivial⟩,trivial⟩) ?_;refine zai (fun h=>⟨⟨h,trivial⟩,trivial⟩) ?_;refine zai (by exact fun h=>h) ?_;refine qL ?_;exact ib_eq (by decide)
def minR (r : List ByteArray) : Nat:=(r.map fun c=>min c.size 9999).sum
def minT (t : List (List ByteArray)) : Nat:=(t.map minR).sum
end Q
end Ab
end Go.Proofs.YtehmiepjeffloaaGreatDoor
namespace Go.Proofs.YtehmiepjeffloaaGreatDoor
open Go.RowKit
namespace Ab
set_option maxRecDepth 100000
namespace Q
theorem of_stz {s : ByteArray} {l : List Itm} (hs : s.size ≤ 4000) (hp : xD s = .inr l) : (∀ x ∈ stzL (ofT l).1,∀ f ∈ x.2,f.2.size ≤ 1000) ∧ (∀ x ∈ stzL (ofT l).1,x.2.length ≤ 1000) ∧ (stzL (ofT l).1).length ≤ 400:=by
  have h1 : ∀ x ∈ stzL (ofT l).1,∃ y ∈ l,x.2 = y.2.2:=fun x hx=>by
    obtain ⟨e,he,rfl⟩:=List.mem_map.1 hx;have he1 : e ∈ numI 1 l:=(List.mem_filter.1 he).1;refine ⟨e.1,?_,rfl⟩;have:=List.mem_map_of_mem (f:=fun e : Ent=>e.1) he1
    rwa [numI_items] at this
  refine ⟨fun x hx f hf=>?_,fun x hx=>?_,?_⟩
  · obtain ⟨y,hy,e⟩:=h1 x hx;exact ((items_small hp y hy).1 f (e ▸ hf)).2
  · obtain ⟨y,hy,e⟩:=h1 x hx;rw [e];exact Nat.le_trans (items_small hp y hy).2 (by decide)
  · have h2:=(of_lok hs hp).many;have h3:=(ofT_gd hp).m4;have h4 : (stzL (ofT l).1).length = (nmsL (ofT l).1).length:=by rw [ids_len];exact List.length_map _
    omega
theorem kcases (keys : List ByteArray) : keys = [] ∨ (0 < keys.length ∧ keysOk keys = false) ∨ (0 < keys.length ∧ keysOk keys = true):=by
  rcases keys with _|⟨k,t⟩
  · exact .inl rfl
  · cases h : keysOk (k :: t)
    · exact .inr (.inl ⟨Nat.zero_lt_succ _,rfl⟩)
    · exact .inr (.inr ⟨Nat.zero_lt_succ _,rfl⟩)
theorem textsT (a : List ByteArray) : qS Tryz.prog 12 [.one (.sl .str a),.one (.sl .str a)] (ib true):=by
  have:=texts_c a a
  rwa [decide_eq_true rfl] at this
theorem SheetExports_c (s : ByteArray) (keys : List ByteArray) : qS Tryz.prog 3 [is s,.one (.sl .str keys)] (ib true):=by
  refine qR (rs:=[4]) Tryz.func3 rfl rfl rfl teOk rfl ?_;refine qC ?_;refine qB ?_;refine qC ?_;refine qC ?_;refine qB ?_;refine Or.inl ?_;refine zai (rfl) ?_;refine zei _ (zai (alive28_c) ?_);refine qK rfl (fun h16=>?_) (fun h16=>?_)
  ·try simp only [Bool.not_eq_true'] at h16
   try simp only [zds] at h16
   simp at h16
  ·try simp only [Bool.not_eq_false'] at h16
   try simp only [zds] at h16
   refine qM ?_;refine qC ?_;refine qC ?_;refine qB ?_;refine zai (fun h=>trivial) ?_;refine zai (fun h=>⟨⟨h,trivial⟩,trivial⟩) ?_;refine zai (fun h=>⟨⟨h,trivial⟩,trivial⟩) ?_;refine zai (by first|(intro h;rw [h];rfl)|(intro h;cases h)) ?_;refine qK rfl (fun h24=>?_) (fun h24=>?_)
   ·try simp only [decide_eq_true_eq,Bool.or_eq_true] at h24
    try simp only [zds] at h24
    refine qC ?_;refine qB ?_;refine qL ?_
    first|rfl|exact ib_eq (by simp)
   ·try simp only [decide_eq_false_iff_not,Bool.or_eq_false_iff,Int.not_lt] at h24
    try simp only [zds] at h24
    refine qM ?_;refine qC ?_;rcases hra : xD s with e|l
    ·refine qB ?_;refine Or.inl ?_;refine zai (rfl) ?_;refine zei _ (zai (of_err s (by omega) (at_:=e.1) (n:=e.2) hra) ?_);refine qC ?_;refine qB ?_;refine Or.inl ?_;refine zai (rfl) ?_;refine zei _ (zai (refOf_err s (by omega) (at_:=e.1) (n:=e.2) hra) ?_);refine qC ?_;refine qC ?_;refine qB ?_;refine zai (fun h=>trivial) ?_;refine zai (fun h=>⟨⟨h,trivial⟩,trivial⟩) ?_;refine zai (by first|(intro h;rw [h];rfl)|(intro h;cases h)) ?_;refine qK rfl (fun h41=>?_) (fun h41=>?_)
     ·try simp only [decide_eq_false_iff_not,Bool.not_eq_true',Bool.or_eq_true] at h41
      try simp only [zds] at h41
      refine qC ?_;refine qB ?_;refine zai (fun h=>trivial) ?_;refine zai (fun h=>⟨⟨h,trivial⟩,trivial⟩) ?_;refine zai (by exact fun h=>h) ?_;refine qL ?_;exact ib_eq (by have:=parse_ne (at_:=e.1) hra;simp [this])
     ·try simp only [decide_eq_true_eq,Bool.not_eq_false',Bool.or_eq_false_iff] at h41
      try simp only [zds] at h41
      simp at h41
    ·refine qB ?_;refine Or.inr (Or.inl (zei [] (zei [] (zei _ (zei _ (zei _ (zei _ (zei _ (zai (of_ok s (by omega) hra) (zai rfl (zai True.intro (zai rfl ?_))))))))))));refine qC ?_;refine qB ?_;refine Or.inl ?_;refine zai (rfl) ?_;refine zei _ (zai (refOf_ok s (by omega) hra) ?_);refine qC ?_;refine qC ?_;refine qB ?_;refine zai (fun h=>trivial) ?_;refine zai (fun h=>⟨⟨h,trivial⟩,trivial⟩) ?_;refine zai (by first|(intro h;rw [h];rfl)|(intro h;cases h)) ?_;refine qK rfl (fun h41=>?_) (fun h41=>?_)
     ·try simp only [decide_eq_false_iff_not,Bool.not_eq_true',Bool.or_eq_true] at h41
      try simp only [zds] at h41
      simp at h41
     ·try simp only [decide_eq_true_eq,Bool.not_eq_false',Bool.or_eq_false_iff] at h41
      try simp only [zds] at h41
      have hlk:=of_lok (by omega) hra;have hgd:=ofT_gd hra;obtain ⟨hs1,hs2,hs3⟩:=of_stz (by omega) hra;obtain ⟨L0,hL0⟩ : ∃ L0,ofT l = L0:=⟨_,rfl⟩;have hRL : ((numI 1 l,1 + (cntR l : Int)) : RLs) = (L0.1,L0.2.1):=(by rw [← hL0];rfl);rw [hL0] at hlk hgd hs1 hs2 hs3 ⊢;rw [hRL];have hll:=hlk.len;have hf1:=hlk.f1;have hf2 : ∀ e ∈ L0.1,e.1.2.2.length ≤ 1000:=(fun e he=>(hlk.flds e he).1);refine qM ?_;refine qC ?_;refine qB ?_;refine zai (by first|exact qP (by first|omega|(simp only [List.length_nil];omega)|(simp;omega)) (by decide)|omega|assumption|decide|(simp only [zds];omega)|(simp <;> omega)) ?_;refine qC ?_;rcases kcases keys with rfl|⟨hk0,hko⟩|⟨hk0,hko⟩
      ·refine yF [3] ?_;refine qB ?_;refine Or.inr (Or.inr (Or.inl ?_));refine zai rfl ?_;refine zei _ (zai (exp_nil L0.1 L0.2.1 L0.2.2) ?_);refine qC ?_;refine qB ?_;refine Or.inl ?_;refine zai (rfl) ?_;refine zei _ (zai (rexp_nil L0.1 L0.2.1) ?_);refine qC ?_;refine qB ?_;refine Or.inl ?_;refine zai (rfl) ?_;refine zei _ (zai (expN_c _) ?_);refine qC ?_;refine acode_draw rfl (by kernel_rfl) ?_;refine zai (fun h=>trivial) ?_;refine zai (rfl) ?_;refine zei _ (zai (fun h=>⟨⟨⟨h,trivial⟩,trivial⟩,num_errno 2 (by decide)⟩) ?_);refine zai (fun h=>trivial) ?_;refine zai (fun h=>⟨⟨h,trivial⟩,⟨h,trivial⟩,trivial⟩) ?_;refine zai (by exact fun h=>h) ?_;refine zai (fun h=>trivial) ?_;refine zai (fun h=>trivial) ?_;refine zai (rfl) ?_;refine zei _ (zai (fun h=>⟨⟨⟨h,trivial⟩,⟨h,trivial⟩,trivial⟩,textsT _⟩) ?_);refine zai (by exact fun h=>h) ?_;refine zai (fun h=>trivial) ?_;refine zai (rfl) ?_;refine zei _ (zai (fun h=>⟨⟨⟨h,trivial⟩,trivial⟩,isNoneL_c⟩) ?_);refine zai (by exact fun h=>h) ?_;refine zai (fun h=>trivial) ?_;refine zai (rfl) ?_;refine zei _ (zai (fun h=>⟨⟨⟨h,trivial⟩,trivial⟩,keys_c L0.1 L0.2.1 L0.2.2 (by omega) hf2 hs3 hs2⟩) ?_);refine zai (fun h=>trivial) ?_;refine zai (rfl) ?_;refine zei _ (zai (fun h=>⟨⟨⟨h,trivial⟩,trivial⟩,rkeys_c L0.1 L0.2.1 (by omega) hs3 hs2⟩) ?_);refine zai (rfl) ?_;refine zei _ (zai (fun h=>⟨⟨⟨h,trivial⟩,⟨h,trivial⟩,trivial⟩,textsT _⟩) ?_);refine zai (by exact fun h=>h) ?_;refine zai (rfl) ?_;refine zei _ (zai (fun h=>⟨trivial,keysN_c⟩) ?_);refine zai (fun h=>⟨⟨h,trivial⟩,trivial⟩) ?_;refine zai (fun h=>⟨⟨h,trivial⟩,trivial⟩) ?_;refine zai (by exact fun h=>h) ?_;refine qL ?_
       first|rfl|exact ib_eq (by simp)
      ·refine yF [3] ?_;refine qB ?_;refine Or.inr (Or.inr (Or.inl ?_));refine zai rfl ?_;refine zei _ (zai (exp_bad L0.1 L0.2.1 L0.2.2 keys hk0 hko) ?_);refine qC ?_;refine qB ?_;refine Or.inl ?_;refine zai (rfl) ?_;refine zei _ (zai (rexp_bad L0.1 L0.2.1 keys hk0 hko) ?_);refine qC ?_;refine qB ?_;refine Or.inl ?_;refine zai (rfl) ?_;refine zei _ (zai (expN_c _) ?_);refine qC ?_;refine acode_draw rfl (by kernel_rfl) ?_;refine zai (fun h=>trivial) ?_;refine zai (rfl) ?_;refine zei _ (zai (fun h=>⟨⟨⟨h,trivial⟩,trivial⟩,num_errno 5 (by decide)⟩) ?_);refine zai (fun h=>trivial) ?_;refine zai (fun h=>⟨⟨h,trivial⟩,⟨h,trivial⟩,trivial⟩) ?_;refine zai (by exact fun h=>h) ?_;refine zai (fun h=>trivial) ?_;refine zai (fun h=>trivial) ?_;refine zai (rfl) ?_;refine zei _ (zai (fun h=>⟨⟨⟨h,trivial⟩,⟨h,trivial⟩,trivial⟩,textsT _⟩) ?_);refine zai (by exact fun h=>h) ?_;refine zai (fun h=>trivial) ?_;refine zai (rfl) ?_;refine zei _ (zai (fun h=>⟨⟨⟨h,trivial⟩,trivial⟩,isNoneL_c⟩) ?_);refine zai (by exact fun h=>h) ?_;refine zai (fun h=>trivial) ?_;refine zai (rfl) ?_;refine zei _ (zai (fun h=>⟨⟨⟨h,trivial⟩,trivial⟩,keys_c L0.1 L0.2.1 L0.2.2 (by omega) hf2 hs3 hs2⟩) ?_);refine zai (fun h=>trivial) ?_;refine zai (rfl) ?_;refine zei _ (zai (fun h=>⟨⟨⟨h,trivial⟩,trivial⟩,rkeys_c L0.1 L0.2.1 (by omega) hs3 hs2⟩) ?_);refine zai (rfl) ?_;refine zei _ (zai (fun h=>⟨⟨⟨h,trivial⟩,⟨h,trivial⟩,trivial⟩,textsT _⟩) ?_);refine zai (by exact fun h=>h) ?_;refine zai (rfl) ?_;refine zei _ (zai (fun h=>⟨trivial,keysN_c⟩) ?_);refine zai (fun h=>⟨⟨h,trivial⟩,trivial⟩) ?_;refine zai (fun h=>⟨⟨h,trivial⟩,trivial⟩) ?_;refine zai (by exact fun h=>h) ?_;refine qL ?_
       first|rfl|exact ib_eq (by simp)
      ·refine yF [3] ?_;refine qB ?_;refine Or.inr (Or.inr (Or.inl ?_));refine zai rfl ?_;refine zei _ (zai (exp_ok L0.1 L0.2.1 L0.2.2 keys hk0 hko (by omega) hf1 (by omega) hs1 hs3) ?_);refine qC ?_;refine qB ?_;refine Or.inl ?_;refine zai (rfl) ?_;refine zei _ (zai (rexp_ok L0.1 L0.2.1 keys hk0 hko (by omega) (by omega) hs1 hs3) ?_);refine qC ?_;refine qB ?_;refine Or.inl ?_;refine zai (rfl) ?_;refine zei _ (zai (expN_c _) ?_);refine qC ?_;refine acode_draw rfl (by kernel_rfl) ?_;refine zai (fun h=>trivial) ?_;refine zai (rfl) ?_;refine zei _ (zai (fun h=>⟨⟨⟨h,trivial⟩,trivial⟩,num_nil⟩) ?_);refine zai (fun h=>trivial) ?_;refine zai (fun h=>⟨⟨h,trivial⟩,⟨h,trivial⟩,trivial⟩) ?_;refine zai (by exact fun h=>h) ?_;refine zai (fun h=>trivial) ?_;refine zai (fun h=>trivial) ?_;refine zai (rfl) ?_;refine zei _ (zai (fun h=>⟨⟨⟨h,trivial⟩,⟨h,trivial⟩,trivial⟩,textsT _⟩) ?_);refine zai (by exact fun h=>h) ?_;refine zai (fun h=>trivial) ?_;refine zai (rfl) ?_;refine zei _ (zai (fun h=>⟨⟨⟨h,trivial⟩,trivial⟩,isNoneL_c⟩) ?_);refine zai (by exact fun h=>h) ?_;refine zai (fun h=>trivial) ?_;refine zai (rfl) ?_;refine zei _ (zai (fun h=>⟨⟨⟨h,trivial⟩,trivial⟩,keys_c L0.1 L0.2.1 L0.2.2 (by omega) hf2 hs3 hs2⟩) ?_);refine zai (fun h=>trivial) ?_;refine zai (rfl) ?_;refine zei _ (zai (fun h=>⟨⟨⟨h,trivial⟩,trivial⟩,rkeys_c L0.1 L0.2.1 (by omega) hs3 hs2⟩) ?_);refine zai (rfl) ?_;refine zei _ (zai (fun h=>⟨⟨⟨h,trivial⟩,⟨h,trivial⟩,trivial⟩,textsT _⟩) ?_);refine zai (by exact fun h=>h) ?_;refine zai (rfl) ?_;refine zei _ (zai (fun h=>⟨trivial,keysN_c⟩) ?_);refine zai (fun h=>⟨⟨h,trivial⟩,trivial⟩) ?_;refine zai (fun h=>⟨⟨h,trivial⟩,trivial⟩) ?_;refine zai (by exact fun h=>h) ?_;refine qL ?_
       first|rfl|exact ib_eq (by simp)
end Q
end Ab
end Go.Proofs.YtehmiepjeffloaaGreatDoor
namespace Go.Proofs.YtehmiepjeffloaaGreatDoor
open Go.RowKit
namespace Ab
set_option maxRecDepth 100000
theorem o_str : Opens Tryz.prog 9 .str:=opens_str Tryz.underlying9 (by kernel_rfl)
theorem globAt {W : World} (h : W.ShapedOpen Tryz.prog) : GlobAt AllOk W:=by
  have hc : GlobCell W:=cell_of_shapedOpen_int (g:=0) (t:=3) (zero:=#[.int .i64 0]) h (of_decide_eq_true (by kernel_rfl)) (by kernel_rfl) rfl (by kernel_rfl) (by kernel_rfl) Tryz.underlying3;refine ⟨trivial,?_,hc⟩;obtain ⟨m,hm⟩:=hc;rcases Nat.lt_or_ge 0 W.heap.size with h1|h1
  · exact h1
  · exfalso
    simp only [World.cell?,Array.getElem?_eq_none h1] at hm;cases hm
end Ab
end Go.Proofs.YtehmiepjeffloaaGreatDoor
namespace Go.Proofs.YtehmiepjeffloaaGreatDoor
open Go.RowKit
namespace Ab
set_option maxRecDepth 100000
theorem o_strs : Opens Tryz.prog 22 (.sl .str):=opens_sl (by decide) Tryz.underlying22 (by kernel_rfl) o_str
theorem open_strs {H : Type} {enc : TypeId × Value → H} {W : World} {base : Nat} {v : Value} {d : DataW H} {p : List MemPlace} (hv : Value.okWide Tryz.prog W .any base 22 v) (h : DataW.Trod enc Tryz.prog W 0 (fun _=>true) true 22 v d p) :
    ∃ xs,(C.sl .str xs).rep AllOk yL W v:=open_sl Tryz.underlying22 o_strs hv h
end Ab
end Go.Proofs.YtehmiepjeffloaaGreatDoor
