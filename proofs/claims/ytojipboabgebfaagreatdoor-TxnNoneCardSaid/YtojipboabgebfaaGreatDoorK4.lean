/-
  The texts of this proof, joined: abstract values, the library, the functions of the program and what they compute (part 4). No condition.
-/
import Derived.Lib.UnsafeStr
import Derived.Shelf.RegionOpenPlain
import Derived.Shelf.Spec.SlicesInsert
import Derived.Lib.AppendZerosOnto
import Derived.Laws.NewBlocks
import Derived.Shelf.Vars
import Derived.KernelRfl
import Derived.Test.YtojipboabgebfaaGreatDoorK1
import Derived.Test.YtojipboabgebfaaGreatDoorK2
import Derived.Test.YtojipboabgebfaaGreatDoorK3
namespace Go.Proofs.YtojipboabgebfaaGreatDoor
open Go.RowKit
namespace Ab
set_option maxRecDepth 100000
namespace Q
theorem yD {k : Nat} (l : List Fld) (hl : l.length ≤ 1000000) : qW Tryz.prog 69 [.one (.slk k rFld l)] (.one (.sl rFld l)):=by
  refine qV (rs:=[2]) Tryz.func69 rfl rfl rfl teOk rfl ?_;refine qD ?_;refine qB ?_;refine qD ?_;refine qD ?_;refine acode_isnil (q:=k) [_] _ (R:=rFld) (xs:=l) rfl rfl rfl rfl (e:=107) rfl rfl ?_;refine ⟨rfl,fun b hb=>?_⟩;refine qM rfl (fun h4=>?_) (fun h4=>?_)
  ·have hl0:=hb h4;subst hl0;refine qD ?_;refine qB ?_;refine acode_nilvec 2 107 rFld rfl ?_;refine qN ?_;rfl
  ·refine qO ?_;refine qD ?_;refine qB ?_;refine zai (by first|exact qQ (show l.length ≤ 1000000000 by omega) (by decide)|exact qQ (show 0 + l.length ≤ 1000000000 by omega) (by decide)) ?_;refine qN ?_;rfl
theorem copied_c (x : Itm) (hx : x.2.2.length ≤ 1000000) : qW Tryz.prog 170 [.agg (toL rItm x)] (.agg (toL rItm x)):=by
  refine acall_ofc (rs:=[.cell 2 136]) Tryz.func170 rfl rfl rfl teOk rfl ?_;refine qD ?_;refine qB ?_;refine qD ?_;refine qB ?_;refine Or.inl ?_;refine zai (rfl) ?_;refine zei _ (zai (yD x.2.2 hx) ?_);refine qD ?_;refine qB ?_;refine qN ?_;rfl
theorem render_c (l m : List Itm) (hm : m.length ≤ 1000000) (hs : szI m ≤ 100000000) (ha : qW Tryz.prog 143 [.one (.sl rItm l)] (.one (.sl rItm m))) : qW Tryz.prog 104 [.one (.sl rItm l)] (is (bytes (rawsL m))):=by
  refine qV (rs:=[2]) Tryz.func104 rfl rfl rfl teOk rfl ?_;refine qD ?_;refine qB ?_;refine qD ?_;refine qB ?_;refine Or.inl ?_;refine zai (rfl) ?_;refine zei _ (zai (ha) ?_);refine Or.inl ?_;refine zai (rfl) ?_;refine zei _ (zai (joinI_c m hm hs) ?_);refine qN ?_;rfl
theorem apartK_snoc : ∀ (l : List Itm) (k : Int) (x : Itm),apartK k (l ++ [x]) = apartK k l ++ (if lastK k l ≠ 1 ∧ x.1 ≠ 1 then [(1,⟨#[10]⟩,[]),x] else [x])
  | [],k,x=>by
    unfold lastK;rw [List.nil_append];unfold apartK
    by_cases h : k ≠ 1 ∧ x.1 ≠ 1
    · rw [if_pos h,if_pos h];rfl
    · rw [if_neg h,if_neg h];rfl
  | y :: r,k,x=>by
    have ih:=apartK_snoc r y.1 x;rw [List.cons_append];unfold apartK lastK;rw [ih]
    by_cases h : k ≠ 1 ∧ y.1 ≠ 1
    · rw [if_pos h,if_pos h];rfl
    · rw [if_neg h,if_neg h];rfl
theorem lastK_take {l : List Itm} {i : Nat} (h : i < l.length) (k : Int) : lastK k (l.take (i + 1)) = (l.getD i ((0 : Int),ByteArray.empty,([] : List Fld))).1:=by
  rw [List.take_succ_eq_append_getElem h,lastK_app,getD_get h ((0 : Int),ByteArray.empty,([] : List Fld))];rfl
theorem apart_snoc (l : List Itm) (i : Nat) (h : i < l.length) : apartL (l.take (i + 1)) = apartL (l.take i) ++ (if (0 < i ∧ (l.getD (i - 1) ((0 : Int),ByteArray.empty,([] : List Fld))).1 ≠ 1) ∧ (l.getD i ((0 : Int),ByteArray.empty,([] : List Fld))).1 ≠ 1 then [(1,⟨#[10]⟩,[]),l.getD i ((0 : Int),ByteArray.empty,([] : List Fld))] else [l.getD i ((0 : Int),ByteArray.empty,([] : List Fld))]):=by
  unfold apartL;rw [List.take_succ_eq_append_getElem h,apartK_snoc,getD_get h ((0 : Int),ByteArray.empty,([] : List Fld))];have e : lastK 1 (l.take i) ≠ 1 ↔ (0 < i ∧ (l.getD (i - 1) ((0 : Int),ByteArray.empty,([] : List Fld))).1 ≠ 1):=by
    cases i with
    | zero=>simp [lastK]
    | succ i=>rw [lastK_take (by omega),Nat.add_sub_cancel];simp
  congr 1
  by_cases hh : lastK 1 (l.take i) ≠ 1 ∧ (l.getD i ((0 : Int),ByteArray.empty,([] : List Fld))).1 ≠ 1
  · rw [if_pos hh,if_pos ⟨e.1 hh.1,hh.2⟩]
  · rw [if_neg hh,if_neg (fun g=>hh ⟨e.2 g.1,g.2⟩)]
theorem apartK_len : ∀ (l : List Itm) (k : Int),(apartK k l).length ≤ 2 * l.length
  | [],_=>by simp [apartK]
  | x :: r,k=>by
    have:=apartK_len r x.1;unfold apartK;split <;> (simp only [List.length_cons];omega)
theorem apart_c (l : List Itm) (hl : l.length ≤ 1000000) (hf : ∀ x ∈ l,x.2.2.length ≤ 1000000) : qW Tryz.prog 143 [.one (.sl rItm l)] (.one (.sl rItm (apartL l))):=by
  refine qV (rs:=[2]) Tryz.func143 rfl rfl rfl teOk rfl ?_;refine qD ?_;refine qB ?_;refine qD ?_;refine qB ?_;refine qD ?_;refine qD ?_;refine acode_nilvec 3 136 rItm rfl ?_;refine qB ?_;intro l2_1
  try simp only [zds] at l2_1
  refine qR ?_;refine yT (fun (i : Nat)=>i ≤ l.length) (fun (i : Nat)=>[(0,.one (.sl rItm l)),(3,.one (.vec 0)),(6,.one (.sl rItm l)),(7,ii .i64 l.length),(8,ii .i64 i)]) (fun (i : Nat)=>[(0,.vec 136 rItm (apartL (l.take i)))]) 1 (fun (i : Nat)=>l.length - i) 0 (Nat.zero_le _) (qP ⟨rfl,rfl,rfl,rfl,rfl⟩ rfl rfl) ?_;intro i hI0;refine qD ?_;refine qB ?_;refine qD ?_;refine qM rfl (fun h9=>?_) (fun h9=>?_)
  ·try simp only [decide_eq_true_eq] at h9
   try simp only [zds] at h9
   have hil : i < l.length:=(by omega);have hsn:=apart_snoc l i hil;have hal:=apartK_len (l.take i) 1;rw [List.length_take] at hal;have hal : (apartL (l.take i)).length ≤ 2 * min i l.length:=hal;have e1 : ((i : Int) - 1).toNat = i - 1:=(by omega);refine qO ?_;refine qD ?_;refine qR ?_;refine qD ?_;refine qB ?_;refine zai (by first|omega|assumption|decide|(simp only [zds];omega)|(simp <;> omega)) ?_;refine qD ?_;refine qD ?_;refine qB ?_;refine zai (fun h=>trivial) ?_;refine zai (fun h=>⟨⟨h,trivial⟩,trivial⟩) ?_;refine zai (fun h=>⟨⟨h,trivial⟩,trivial⟩) ?_;refine zai (by exact fun h=>h) ?_;refine zai (fun h=>trivial) ?_;refine zai (fun h=>trivial) ?_;refine zai (fun h=>⟨⟨⟨h,trivial⟩,trivial⟩,by first|omega|decide|(simp only [zds];omega)|(have h9:=of_decide_eq_true h;omega)|(simp [gq] at h;omega)⟩) ?_;refine zai (fun h=>⟨⟨⟨h,trivial⟩,⟨h,trivial⟩,trivial⟩,by first|omega|decide|(simp only [zds];omega)|(have h9:=of_decide_eq_true h;omega)|(simp [gq] at h;omega)⟩) ?_;refine zai (fun h=>⟨⟨h,trivial⟩,trivial⟩) ?_;refine zai (fun h=>⟨⟨h,trivial⟩,trivial⟩) ?_;refine zai (fun h=>⟨⟨h,trivial⟩,trivial⟩) ?_;refine zai (by exact fun h=>h) ?_;refine qM rfl (fun h28=>?_) (fun h28=>?_)
   ·try simp only [decide_eq_true_eq,decide_eq_false_iff_not,Bool.and_eq_true,Bool.not_eq_true'] at h28
    try simp only [Int.toNat_natCast,qJ,qI,qF,qG] at h28
    rw [e1] at h28;rw [if_pos ⟨⟨by omega,h28.2⟩,h28.1.2⟩] at hsn;refine qB ?_;refine zai (by exact qQ (show (apartL (l.take i)).length + 1 ≤ 1000000000 by omega) (by decide)) ?_;refine qB ?_;refine Or.inl ?_;refine zai (rfl) ?_;refine zei _ (zai (copied_c (l.getD i ((0 : Int),ByteArray.empty,([] : List Fld))) (hf _ (getD_mem hil ((0 : Int),ByteArray.empty,([] : List Fld))))) ?_);refine zai (by exact qQ (by rw [List.length_append];show (apartL (l.take i)).length + 1 + 1 ≤ 1000000000;omega) (by decide)) ?_;refine qB ?_;refine zai (by first|omega|assumption|decide|(simp only [zds];omega)|(simp <;> omega)) ?_;exact ⟨i + 1,by omega,by first|omega|(simp <;> omega),qP ⟨rfl,rfl,rfl,rfl,(ii_eq (by omega))⟩ (qS (by rw [hsn];(try rw [List.append_assoc]);(try exact rfl))) rfl⟩
   ·try simp only [decide_eq_true_eq,decide_eq_false_iff_not,Bool.not_eq_false',Bool.and_eq_false_iff,Int.not_lt] at h28
    try simp only [Int.toNat_natCast,qJ,qI,qF,qG] at h28
    rw [e1] at h28;rw [if_neg (fun h=>h28.elim (fun g=>g.elim (fun g=>by omega) (fun g=>h.2 g)) (fun g=>h.1.2 g))] at hsn;refine qO ?_;refine qB ?_;refine Or.inl ?_;refine zai (rfl) ?_;refine zei _ (zai (copied_c (l.getD i ((0 : Int),ByteArray.empty,([] : List Fld))) (hf _ (getD_mem hil ((0 : Int),ByteArray.empty,([] : List Fld))))) ?_);refine zai (by exact qQ (show (apartL (l.take i)).length + 1 ≤ 1000000000 by omega) (by decide)) ?_;refine qB ?_;refine zai (by first|omega|assumption|decide|(simp only [zds];omega)|(simp <;> omega)) ?_;exact ⟨i + 1,by omega,by first|omega|(simp <;> omega),qP ⟨rfl,rfl,rfl,rfl,(ii_eq (by omega))⟩ (qS (by rw [hsn];(try rw [List.append_assoc]);(try exact rfl))) rfl⟩
  ·try simp only [decide_eq_false_iff_not,Int.not_lt] at h9
   try simp only [zds] at h9
   refine xB ?_;refine qD ?_;refine qB ?_;refine qN ?_;rw [List.take_of_length_le (by omega)];rfl
def al6 : List (List Fld):=[[(⟨#[65]⟩,⟨#[49]⟩)],[(⟨#[66]⟩,⟨#[50]⟩)]]
end Q
end Ab
end Go.Proofs.YtojipboabgebfaaGreatDoor
namespace Go.Proofs.YtojipboabgebfaaGreatDoor
open Go.RowKit
namespace Ab
set_option maxRecDepth 100000
abbrev Edt:=Int × Int × List Fld
abbrev rEdt : Rd Edt:=.st (.int .i64) (.st (.int .i64) (.sl rFld))
namespace Q
def heavyB (l : List Edt) : Bool:=decide (51 < l.length) || l.any fun e=>muchB e.2.2
def spF : Fld:=(⟨#[115,112,111,105,108,116]⟩,⟨#[115,112,111,105,108,116]⟩)
end Q
end Ab
end Go.Proofs.YtojipboabgebfaaGreatDoor
namespace Go.Proofs.YtojipboabgebfaaGreatDoor
open Go.RowKit
namespace Ab
set_option maxRecDepth 100000
set_option maxHeartbeats 2000000
namespace Q
abbrev z4 : List Value:=[.int .i64 0,.string ⟨#[]⟩,.slice none 0 0,.int .i64 0]
theorem step_append_runI {P : Program} {ops : Array Oper} {o : Oper} {a : Act} {w : World} {K : Act → World → Prop} {Q : Exit → Act → World → Prop} {E : Prop}
    (hg : o.guard = none) (d x : Operand) (dT sT : TypeId) (hop : o.op = Op.call { callee:=Callee.builtin Builtin.append,args:=#[d,x],argTypes:=#[dT,sT] })
    (v u : Value) (hd : a.eval d = v) (hx : a.eval x = u) {v' : Value} {w' : World} (hr : (Builtin.append_ #[dT,sT] o.type #[v,u]).run P w = .ok v' w') (hK : K (a.put o.dst v') w') :
    if Region.wanted o (yielded ops a.tmps) = true then Oper.wp P o a w K Q else E:=by
  have hw : Region.wanted o (yielded ops a.tmps) = true:=by simp [Region.wanted,hg]
  rw [if_pos hw];unfold Oper.wp;simp [execOp,hop,resolve,invoke,builtin,hd,hx,hr,Result.andThen];exact hK
theorem wpList_clear_runI {P : Program} (w : World) {ops : Array Oper} {rest : List Oper} {o : Oper} {a : Act} {Q : Exit → Act → World → Prop} (hgd : o.guard = none) (d : Operand) (t : TypeId)
    (ho : o.op = .call { callee:=.builtin .clear,args:=#[d],argTypes:=#[t] }) (v : Value) (hd : a.eval d = v) {v' : Value} {w' : World}
    (hr : (Builtin.clear_ #[t] o.type #[v]).run P w = .ok v' w') (h : wpList P ops Q rest (a.put o.dst v') w') : wpList P ops Q (o :: rest) a w :=
  wpList_plain hgd fun K hK=>by
    unfold Oper.wp execOp;simp only [ho,resolve,invoke,builtin,Sem.run_bind,Sem.run_pure,Result.andThen_ok,List.map_toArray,List.map_cons,List.map_nil,hd,hr];exact hK _ _ h
theorem zs_len {P : Program} {t : TypeId} {i : TyI} (h : TyOk P t i) (n : Nat) : (Builtin.zeroCells i.zeroV.cells n).toList.length = n * i.size:=by
  rw [Array.length_toList,size_zeroCells,h.zeroCells,List.size_toArray,h.zlen]
theorem zs_one {P : Program} {t : TypeId} {i : TyI} (h : TyOk P t i) (n : Nat) : ∀ v ∈ (Builtin.zeroCells i.zeroV.cells n).toList,v.oneCell' = true:=by
  intro v hv;unfold Builtin.zeroCells at hv;rw [h.zeroCells] at hv;simp only [Array.toList_map,Array.toList_range,List.mem_map,List.mem_range,List.size_toArray] at hv;obtain ⟨k,hk,rfl⟩:=hv;have hlt : k % i.zero.length < i.zero.length:=Nat.mod_lt _ (by
    rcases Nat.eq_zero_or_pos i.zero.length with h0|h0
    · rw [h0,Nat.mul_zero] at hk;omega
    · exact h0)
  have e : (i.zero.toArray)[k % i.zero.length]! = i.zero[k % i.zero.length]:=by simp [hlt]
  rw [e];exact plain_one (h.zplain _ (List.getElem_mem hlt))
theorem run_clear_row {P : Program} {t e ty : TypeId} {ei : TyI} (ht : P.underlying t = some (.slice e)) (he : TyOk P e ei) (w : World) (b o n c : Nat) {cur : Array Value} {T : TypeId} (hb : w.heap[b]? = some (.cells cur T (0,0))) (hn : 0 < n) (hfit : o + n * ei.size ≤ cur.size) :
    (Builtin.clear_ #[t] ty #[.slice (some ⟨b,o,none⟩) n c]).run P w = .ok (.tuple #[]) (w.setRow b (cur.toList.take o ++ (Builtin.zeroCells ei.zeroV.cells n).toList ++ cur.toList.drop (o + n * ei.size)).toArray):=by
  have hst:=run_storeCells_at P b o T (Builtin.zeroCells ei.zeroV.cells n).toList 0 cur w hb (by rw [zs_len he];omega) (zs_one he n);simp only [Nat.add_zero,zs_len he] at hst;obtain ⟨m,rfl⟩ : ∃ m,n = m + 1:=⟨n - 1,by omega⟩;simp [Builtin.clear_,run_underlying ht,he.zeroValue,hst]
theorem tyEnt : TyOk Tryz.prog 138 ty138:=tyOk138
theorem del_w (b cap n i j : Nat) (cur : Array Value) (w : World) (hb : w.heap[b]? = some (.cells cur 138 (0,0))) (hcs : cur.size = cap * 4) (hnc : n ≤ cap) (_hcm : cap ≤ maxLen) (hij : i < j) (hj : j ≤ n) (h1 : ∀ v ∈ cur.toList.take (n * 4),v.oneCell' = true) :
    Calls Tryz.prog 90 #[.slice (some ⟨b,0,none⟩) n cap,.int .i64 i,.int .i64 j] w fun e w'=>e = .returned (.slice (some ⟨b,0,none⟩) (n - (j - i)) cap) ∧ ∃ cur',Grew w w' (some b) ∧ w'.heap[b]? = some (.cells cur' 138 (0,0)) ∧ cur'.size = cap * 4 ∧ cur'.toList.take ((n - (j - i)) * 4) = cur.toList.take (i * 4) ++ (cur.toList.drop (j * 4)).take ((n - j) * 4):=by
  have mixed : Tryz.prog.follows .mixedOrders = true:=by kernel_rfl
  have hic : i ≤ cap:=by omega
  have hjc : j ≤ cap:=by omega
  obtain ⟨news,hnews⟩ : ∃ news,(cur.toList.drop (j * 4)).take ((n - j) * 4) = news:=⟨_,rfl⟩;have hlen : news.length = (n - j) * 4:=by
    rw [← hnews,List.length_take,List.length_drop,Array.length_toList,hcs];have : (n - j) * 4 ≤ cap * 4 - j * 4:=by omega
    omega
  obtain ⟨i0,hi0,hz0,hz1,hz2⟩:=tyEnt.info;obtain ⟨A,hA,hsrc⟩ : ∃ A : Addr,(if cap = j then (some ⟨b,0,none⟩ : Option Addr) else some ⟨b,j * 4,none⟩) = some A ∧ (∀ t u,news[t]? = some u → w.drew.cell? (A.add t) = some u):=by
    by_cases h : cap = j
    · refine ⟨_,if_pos h,fun t u hu=>?_⟩;have h0 : news.length = 0:=by rw [hlen];omega
      rw [List.length_eq_zero_iff.1 h0] at hu;simp at hu
    · refine ⟨_,if_neg h,fun t u hu=>?_⟩;have ht:=(List.getElem?_eq_some_iff.1 hu).1;rw [← hnews,List.getElem?_take_of_lt (by omega),List.getElem?_drop] at hu;rw [Go.WideShapes.add_plain];show w.cell? _ = _;simp only [World.cell?,hb,Option.isSome_none,Bool.false_eq_true,if_false];rw [← hu];simp
  have hone : ∀ u ∈ news,u.oneCell' = true:=by
    intro u hu;rw [← hnews,show (n - j) * 4 = n * 4 - j * 4 by omega,← List.drop_take] at hu;exact h1 u (List.mem_of_mem_drop hu)
  obtain ⟨cur1,hcur1⟩ : ∃ c : Array Value,(cur.toList.take (i * 4) ++ news ++ cur.toList.drop (i * 4 + news.length)).toArray = c:=⟨_,rfl⟩;have hsz1 : cur1.size = cap * 4:=by
    rw [← hcur1];simp only [List.size_toArray,List.length_append,List.length_take,List.length_drop,Array.length_toList,hcs,hlen];omega
  obtain ⟨W1,hW1⟩ : ∃ W1,w.drew.setRow b cur1 = W1:=⟨_,rfl⟩;have hap : ∀ ty,(Builtin.append_ #[132,132] ty #[.slice (some ⟨b,0,none⟩) i cap,.slice (some A) (n - j) (cap - j)]).run Tryz.prog w.drew = .ok (.slice (some ⟨b,0,none⟩) (i + (n - j)) cap) W1:=by
    intro ty;have:=run_append_room (P:=Tryz.prog) w.drew 132 ty 138 i0 Tryz.underlying132 hi0 b i cap cur hb A (n - j) (cap - j) news (by rw [hlen,hz0];rfl) hsrc hone (by omega) (by rw [hz0,hlen,hcs];show i * 4 + _ ≤ _;omega);rw [show i0.size = 4 from hz0,hcur1,hW1] at this;exact this
  have hb1 : W1.heap[b]? = some (.cells cur1 138 (0,0)):=by rw [← hW1];exact setRow_heap w.drew b cur cur1 _ _ hb
  have hk : i + (n - j) < n:=by omega
  have hkc : ¬ cap = i + (n - j):=by omega
  obtain ⟨W2,cur2,hW2,hcl⟩ : ∃ W2 cur2,W2 = W1.setRow b cur2 ∧ cur2.size = cap * 4 ∧ cur2.toList.take ((i + (n - j)) * 4) = cur1.toList.take ((i + (n - j)) * 4) ∧ ∀ ty,(Builtin.clear_ #[132] ty #[.slice (some ⟨b,(i + (n - j)) * 4,none⟩) (n - (i + (n - j))) (cap - (i + (n - j)))]).run Tryz.prog W1 = .ok (.tuple #[]) W2:=by
    have hz:=zs_len tyEnt (n - (i + (n - j)));have hz4 : ty138.size = 4:=rfl;rw [hz4] at hz;refine ⟨_,_,rfl,?_,?_,fun ty=>run_clear_row Tryz.underlying132 tyEnt W1 b _ _ _ hb1 (by omega) (by rw [hsz1,hz4];omega)⟩
    · simp only [List.size_toArray,List.length_append,List.length_take,List.length_drop,Array.length_toList,hsz1,hz,hz4];omega
    · rw [List.append_assoc,List.take_append_of_le_length (by rw [List.length_take,Array.length_toList,hsz1];omega),List.take_take,Nat.min_self]
  obtain ⟨hsz2,htk,hcl⟩:=hcl;have fin : W2.heap[b]? = some (.cells cur2 138 (0,0)) ∧ Grew w W2 (some b):=by
    rw [hW2];exact ⟨setRow_heap W1 b cur1 cur2 _ _ hb1,by rw [← hW1,setRow_setRow];exact ⟨rfl,rfl,rfl,by simp,fun k hk hne=>setRow_other w.drew b k _ (fun e=>hne (by rw [e]))⟩⟩
  have hres : cur2.toList.take ((i + (n - j)) * 4) = cur.toList.take (i * 4) ++ news:=by
    rw [htk,← hcur1,List.take_append_of_le_length (by simp only [List.length_append,List.length_take,Array.length_toList,hcs,hlen];omega),List.take_of_length_le (by simp only [List.length_append,List.length_take,Array.length_toList,hcs,hlen];omega)]
  have hnn : n - (j - i) = i + (n - j):=by omega
  rw [hnn];rw [← hnews] at hres;clear hW2 hW1 htk hcur1 hb hb1 hsrc hone hlen hnews h1
  go_enter Tryz.func90,Tryz.ntmps90
  go_wp2
  go_region_law_o (refine step_append_runI rfl (.tmp 22) (.tmp 25) 132 132 rfl (.slice (some ⟨b,0,none⟩) i cap) (.slice (some A) (n - j) (cap - j)) (by simp [Act.eval,Act.put]) (by simp [Act.eval,Act.put]) (hap _) ?_)
  go_wp2_with (at_builtin;refine wpList_clear_runI _ rfl _ _ rfl _ rfl (hcl _) ?_)
  go_ret
  exact ⟨rfl,cur2,fin.2,fin.1,hsz2,hres⟩
end Q
end Ab
end Go.Proofs.YtojipboabgebfaaGreatDoor
namespace Go.Proofs.YtojipboabgebfaaGreatDoor
open Go.RowKit
namespace Ab
set_option maxRecDepth 100000
set_option maxHeartbeats 4000000
namespace Q
def RowTo (w w' : World) (v u : Value) (n : Nat) (cs : List Value) : Prop :=
  w'.ownsRow 0 138 4 u n cs ∧ Grew w w' (blk (some v)) ∧ (∀ b,blk (some u) = some b → blk (some v) = some b ∨ (w.heap.size ≤ b ∧ b < w'.heap.size)) ∧ ∃ a n c,u = .slice a n c
theorem rowCells {w : World} {b n cap : Nat} {cs : List Value} (h : w.ownsRow 0 138 4 (.slice (some ⟨b,0,none⟩) n cap) n cs) : ∃ cur,w.heap[b]? = some (.cells cur 138 (0,0)) ∧ n ≤ cap ∧ cap ≤ maxLen ∧ cur.size = cap * 4 ∧ cur.toList.take (n * 4) = cs ∧ cs.length = n * 4:=by
  rcases h.2 with ⟨h0,_⟩|⟨g,c,cur,hsl,_,hg,hnc,hcm,hcs,htake⟩
  · cases h0
  · injection hsl with e1 e2 e3
    injection e1 with e1
    injection e1 with e1 _ _
    subst e1 e3;exact ⟨cur,hg,hnc,hcm,hcs,htake,h.1⟩
theorem take4 {α : Type} (l : List α) (a b : Nat) (h : a ≤ b) : (l.take b).take a = l.take a:=by rw [List.take_take,Nat.min_eq_left h]
end Q
end Ab
end Go.Proofs.YtojipboabgebfaaGreatDoor
namespace Go.Proofs.YtojipboabgebfaaGreatDoor
open Go.RowKit
namespace Ab
set_option maxRecDepth 100000
namespace Q
theorem flat_take {n : Nat} : ∀ (css : List (List Value)) (k : Nat),(∀ c ∈ css,c.length = n) → (css.take k).flatten = css.flatten.take (k * n)
  | [],_,_=>by simp
  | c :: r,0,_=>by simp
  | c :: r,k + 1,h=>by
    have h0 : c.length = n:=h c (by simp);have ih:=flat_take r k fun d hd=>h d (by simp [hd])
    rw [List.take_succ_cons,List.flatten_cons,List.flatten_cons,ih,Nat.add_mul,Nat.one_mul,Nat.add_comm (k * n) n]
    conv=>rhs;rw [← h0]
    rw [List.take_length_add_append,h0]
theorem flat_drop {n : Nat} : ∀ (css : List (List Value)) (k : Nat),(∀ c ∈ css,c.length = n) → (css.drop k).flatten = css.flatten.drop (k * n)
  | [],_,_=>by simp
  | c :: r,0,_=>by simp
  | c :: r,k + 1,h=>by
    have h0 : c.length = n:=h c (by simp);have ih:=flat_drop r k fun d hd=>h d (by simp [hd])
    rw [List.drop_succ_cons,List.flatten_cons,ih,Nat.add_mul,Nat.one_mul,Nat.add_comm (k * n) n,← List.drop_drop,← h0,List.drop_left,h0]
section
variable {cx : Cx} {ob : Obs} {nx : Nat} {ρ : Nat → Option Value} {w w' : World}
theorem ent_lens {ok : Oks} {xs : List Ent} {css : List (List Value)} (h1 : css.length = xs.length) (h2 : ∀ i (h : i < xs.length),rEnt.is ok w (css.getD i []) xs[i]) : ∀ c ∈ css,c.length = 4:=css_lens h1 h2
theorem ent_ones {ok : Oks} {xs : List Ent} {css : List (List Value)} (h1 : css.length = xs.length) (h2 : ∀ i (h : i < xs.length),rEnt.is ok w (css.getD i []) xs[i]) : ∀ v ∈ css.flatten,v.oneCell' = true:=css_ones h1 h2
theorem row_st (hs : StOk cx [] ob nx ρ ⟨#[],[]⟩ w) {xs xs' : List Ent} (hg : getO ob 0 = some (.vec 138 rEnt xs)) {v u : Value} (hv : ρ 0 = some v) {css' : List (List Value)} (hl : css'.length = xs'.length)
    (hR : ∀ i (h : i < xs'.length),rEnt.is (okOf cx ρ ob) w (css'.getD i []) xs'[i]) (hrow : RowTo w w' v u xs'.length css'.flatten) :
    ∃ ρ',StOk cx [] (setO 0 (.vec 138 rEnt xs') (subOb 0 .any ob)) nx ρ' ⟨#[],[]⟩ w' ∧ (C.vec 0).rep (okOf cx ρ' (setO 0 (.vec 138 rEnt xs') (subOb 0 .any ob))) ρ' w' u:=by
  obtain ⟨h1,h2,h3,h4⟩:=hrow;rw [← hv] at h2;have h3' : ∀ b,blk (some u) = some b → blk (ρ 0) = some b ∨ (w.heap.size ≤ b ∧ b < w'.heap.size):=by rw [hv];exact h3
  have hkp:=okOf_swap (o':=.vec 138 rEnt xs') hs hg h2 (fun b hb=>(h3' b hb).imp (fun h=>h) (·.1));refine ⟨upd ρ 0 u,hs.swap hg h2 h3' ⟨u,yM,css',hl,fun i hi=>Rd.kept _ hkp (hR i hi),h1⟩,yM,h4⟩
end
theorem getD_app {α : Type} (a b : List α) (i : Nat) (d : α) : (a ++ b).getD i d = if i < a.length then a.getD i d else b.getD (i - a.length) d:=by
  simp only [List.getD_eq_getElem?_getD];split
  · rename_i h;rw [List.getElem?_append_left h]
  · rename_i h;rw [List.getElem?_append_right (by omega)]
theorem delete_x (xs : List Ent) (i j : Nat) (hij : i < j) (hj : j ≤ xs.length) : ACallX Tryz.prog 90 [.one (.vec 0),ii .i64 i,ii .i64 j] [(0,.vec 138 rEnt xs)] 1 (.one (.vec 0)) [(0,.vec 138 rEnt (xs.take i ++ xs.drop j))] 1 []:=by
  refine ⟨⟨_,Tryz.func90,rfl,rfl⟩,fun cx ρ w vs _ _ _ hs hvs=>?_⟩;obtain ⟨v,r1,rfl,⟨hv,_⟩,vi,r2,rfl,hvi,vj,r3,rfl,hvj,hr3⟩:=hvs;rw [show r3 = [] from hr3,show vi = _ from hvi,show vj = _ from hvj];obtain ⟨v',hv',css,h1,h2,hown⟩ : ∃ v,ρ 0 = some v ∧ VecOk (okOf cx ρ [(0,.vec 138 rEnt xs)]) w v 138 rEnt xs:=hs.obs (0,.vec 138 rEnt xs) (by simp);rw [hv] at hv';obtain rfl:=Option.some.inj hv';have hfl:=ent_lens h1 h2;have hon:=ent_ones h1 h2;rcases id hown.2 with ⟨_,h0⟩|⟨b,cap,cur,rfl,_⟩
  · omega
  obtain ⟨cur,hb,hnc,hcm,hcz,htk,hcl⟩:=rowCells hown;refine (del_w b cap xs.length i j cur w hb hcz hnc hcm hij hj (by rw [htk];exact hon)).mono ?_
  rintro e w' ⟨rfl,cur',hgr,hb',hcz',hrow⟩
  have hnl : xs.length - (j - i) = (xs.take i ++ xs.drop j).length:=by rw [List.length_append,List.length_take,List.length_drop];omega
  have hf : (css.take i ++ css.drop j).flatten = cur.toList.take (i * 4) ++ (cur.toList.drop (j * 4)).take ((xs.length - j) * 4):=by
    rw [List.flatten_append,flat_take css i hfl,flat_drop css j hfl,← htk,take4 _ _ _ (by omega),List.drop_take]
    congr 2
    omega
  have hown' : w'.ownsRow 0 138 4 (.slice (some ⟨b,0,none⟩) (xs.length - (j - i)) cap) (xs.length - (j - i)) (css.take i ++ css.drop j).flatten:=by
    rw [hf,← hrow];have hcl' : cur'.toList.length = cap * 4:=by simpa using hcz'
    exact ⟨by rw [List.length_take,hcl'];omega,.inr ⟨b,cap,cur',rfl,Nat.zero_le _,hb',by omega,hcm,hcz',rfl⟩⟩
  rw [hnl] at hown' ⊢;obtain ⟨ρ',h3,h4⟩:=row_st (xs':=xs.take i ++ xs.drop j) (css':=css.take i ++ css.drop j) (u:=.slice (some ⟨b,0,none⟩) (xs.take i ++ xs.drop j).length cap) hs rfl hv (by simp [h1]) (fun k hk=>by
    rw [List.length_append,List.length_take,List.length_drop] at hk;rw [getD_app,List.getElem_append];simp only [List.length_take,h1];split
    · rename_i hlt;have:=h2 k (by omega);rw [List.getElem_take];rw [List.getD_eq_getElem?_getD] at this ⊢;rw [List.getElem?_take_of_lt (by omega)];exact this
    · rename_i hlt;have:=h2 (j + (k - min i xs.length)) (by omega);rw [List.getElem_drop];rw [List.getD_eq_getElem?_getD] at this ⊢;rw [List.getElem?_drop];exact this) ⟨hown',hgr,fun _ h=>.inl h,_,_,_,rfl⟩
  exact ⟨_,ρ',rfl,h3,h4,fun k hk=>by cases hk⟩
theorem cloneE_o {k : Nat} (es : List Ent) (hl : es.length ≤ 1000000) : qY Tryz.prog 108 [.one (.slk k rEnt es)] [] 0 (.one (.vec 0)) [(0,.vec 138 rEnt es)] 1:=by
  refine qU (rs:=[2]) Tryz.func108 rfl rfl rfl teOk (by decide) rfl ?_;refine qD ?_;refine qB ?_;refine qD ?_;refine qD ?_;refine acode_isnil (q:=k) [_] _ (R:=rEnt) (xs:=es) rfl rfl rfl rfl (e:=138) rfl rfl ?_;refine ⟨rfl,fun b hb=>?_⟩;refine qM rfl (fun h4=>?_) (fun h4=>?_)
  ·have hl0:=hb h4;subst hl0;refine qD ?_;refine qB ?_;refine acode_nilvec 2 138 rEnt rfl ?_;refine qN ?_;exact ⟨rfl,rfl,rfl⟩
  ·refine qO ?_;refine qD ?_;refine qB ?_;refine zai (by first|exact qQ (show es.length ≤ 1000000000 by omega) (by decide)|exact qQ (show 0 + es.length ≤ 1000000000 by omega) (by decide)) ?_;refine qN ?_;exact ⟨rfl,rfl,rfl⟩
def itEs (es : List Ent) : List (List A):=(es.filter live).map fun e=>[A.agg (toL rEnt e)]
def cntL (es : List Ent) : Nat:=(es.filter live).length
theorem index_E (f : FuncId) {k : Nat} {β : Type} (S : Rd β) (y : β) (l : List Ent) (p : Ent → Bool) (hp : ∀ x ∈ l,qW Tryz.prog f [.agg (toL rEnt x),.one (.addr S y)] (ib (p x))) : qW Tryz.prog 130 [.one (.slk k rEnt l),.one (.clo f (.addr S y))] (ii .i64 (ixOf p l)):=by
  refine qV (rs:=[4]) Tryz.func130 rfl rfl rfl teOk rfl ?_;refine qD ?_;refine qB ?_;refine qD ?_;refine qD ?_;refine qB ?_;intro l1_1
  try simp only [zds] at l1_1
  refine qR ?_;refine yT (fun (i : Nat)=>i ≤ l.length ∧ (l.take i).any p = false) (fun (i : Nat)=>[(0,.one (.slk k rEnt l)),(1,.one (.clo f (.addr S y))),(7,ii .i64 l.length),(8,ii .i64 i)]) (fun (i : Nat)=>[]) 0 (fun (i : Nat)=>l.length - i) 0 (⟨Nat.zero_le _,rfl⟩) (qP ⟨rfl,rfl,rfl,rfl⟩ trivial rfl) ?_;intro i hI0;obtain ⟨hi,hn⟩:=hI0;refine qD ?_;refine qB ?_;refine qD ?_;refine qM rfl (fun h9=>?_) (fun h9=>?_)
  ·try simp only [decide_eq_true_eq] at h9
   try simp only [zds] at h9
   refine qO ?_;refine qD ?_;refine qR ?_;refine qD ?_;refine qB ?_;refine qD ?_;refine qB ?_;refine zai (by first|omega|assumption|decide|(simp only [zds];omega)|(simp <;> omega)) ?_;refine Or.inl ?_;refine zai (rfl) ?_;refine zei _ (zai (hp _ (getD_mem (show i < l.length by omega) _)) ?_);refine qM rfl (fun h16=>?_) (fun h16=>?_)
   ·try simp only [zbq] at h16
    try simp only [Int.toNat_natCast,qJ,qI,qF,qG] at h16
    refine qD ?_;refine qB ?_;refine qN ?_;exact ii_eq (ixOf_at (((0 : Int),ByteArray.empty,([] : List Fld)),(0 : Int)) (by omega) hn h16).symm
   ·try simp only [zbq] at h16
    try simp only [Int.toNat_natCast,qJ,qI,qF,qG] at h16
    refine qO ?_;refine qB ?_;refine zai (by first|omega|assumption|decide|(simp only [zds];omega)|(simp <;> omega)) ?_;exact ⟨i + 1,⟨by omega,by rw [take_any l p (((0 : Int),ByteArray.empty,([] : List Fld)),(0 : Int)) i (by omega),hn];exact h16⟩,by first|omega|(simp <;> omega),qP ⟨rfl,rfl,rfl,rfl⟩ trivial rfl⟩
  ·try simp only [decide_eq_false_iff_not,Int.not_lt] at h9
   try simp only [zds] at h9
   refine xB ?_;refine qD ?_;refine qB ?_;refine qN ?_;have e : i = l.length:=by omega
   subst e;rw [List.take_length] at hn;exact ii_eq (ixOf_none hn).symm
theorem at1_c (id : Int) (e : Ent) : qW Tryz.prog 131 [.agg (toL rEnt e),.one (.addr (.int .i64) id)] (ib (hasId id e)):=by
  refine qV (rs:=[3]) Tryz.func131 rfl rfl rfl teOk rfl ?_;refine qD ?_;refine qB ?_;refine qD ?_;refine qB ?_;refine qN ?_;rfl
theorem at_c {k : Nat} (es : List Ent) (n m id : Int) : qW Tryz.prog 88 [.one (.adk k (rLst k) (es,n,m)),ii .i64 id] (ii .i64 (atE es id)):=by
  refine qV (rs:=[4]) Tryz.func88 rfl rfl rfl teOk rfl ?_;refine qD ?_;refine qB ?_;refine qD ?_;refine qD ?_;refine qB ?_;refine zai (fun h=>trivial) ?_;refine zai (fun h=>⟨⟨h,trivial⟩,trivial⟩) ?_;refine zai (by first|(intro h;rw [h];rfl)|(intro h;cases h)) ?_;refine qM rfl (fun h10=>?_) (fun h10=>?_)
  ·try simp only [decide_eq_true_eq,Bool.or_eq_true] at h10
   try simp only [zds] at h10
   have h10 : id < 1:=h10.elim (fun h=>by cases h) (fun h=>h);refine qD ?_;refine qB ?_;refine qN ?_;exact ii_eq (by unfold atE;rw [if_pos h10])
  ·try simp only [decide_eq_false_iff_not,Bool.or_eq_false_iff,Int.not_lt] at h10
   try simp only [zds] at h10
   have h10 : ¬ id < 1:=(by simp at h10;omega);refine qO ?_;refine qD ?_;refine qB ?_;refine Or.inl ?_;refine zai (rfl) ?_;refine zei _ (zai (index_E _ (.int .i64) id es (hasId id) (fun x _=>at1_c id x)) ?_);refine qN ?_;exact ii_eq (by unfold atE;rw [if_neg h10])
theorem len_c {k : Nat} (es : List Ent) (n m : Int) : qW Tryz.prog 62 [.one (.adk k (rLst k) (es,n,m))] (ii .i64 m):=by
  refine qV (rs:=[2]) Tryz.func62 rfl rfl rfl teOk rfl ?_;refine qD ?_;refine qB ?_;refine qD ?_;refine qD ?_;refine qB ?_;refine qM rfl (fun h4=>?_) (fun h4=>?_)
  ·try simp only [zbq] at h4
   try simp only [zds] at h4
   simp at h4
  ·skip
   refine qO ?_;refine qD ?_;refine qB ?_;refine qN ?_;rfl
def stT (es : List Ent) (i : Nat) : List Stz:=((es.filter live).take i).map stzOf
theorem itmL_snoc {es : List Ent} {i : Nat} (h : i < es.length) : itmL (es.take (i + 1)) = itmL (es.take i) ++ [(es.getD i (((0 : Int),ByteArray.empty,([] : List Fld)),(0 : Int))).1]:=by
  unfold itmL;rw [← take_snoc (((0 : Int),ByteArray.empty,([] : List Fld)),(0 : Int)) h,List.map_append];rfl
theorem itmsL_c {k : Nat} (es : List Ent) (n m : Int) (hl : es.length ≤ 1000000) (hf : ∀ e ∈ es,e.1.2.2.length ≤ 1000000) : qW Tryz.prog 105 [.one (.adk k (rLst k) (es,n,m))] (.one (.sl rItm (itmL es))):=by
  refine qV (rs:=[2]) Tryz.func105 rfl rfl rfl teOk rfl ?_;refine qD ?_;refine qB ?_;refine qD ?_;refine qB ?_;refine qD ?_;refine qD ?_;refine qB ?_;refine qM rfl (fun h8=>?_) (fun h8=>?_)
  ·try simp only [zbq] at h8
   try simp only [zds] at h8
   simp at h8
  ·skip
   refine qO ?_;refine qD ?_;refine qD ?_;refine acode_nilvec 3 136 rItm rfl ?_;refine qB ?_;intro l4_4;refine qR ?_;refine yT (fun (i : Nat)=>i ≤ es.length) (fun (i : Nat)=>[(3,.one (.vec 0)),(12,.one (.slk k rEnt es)),(13,ii .i64 es.length),(14,ii .i64 i)]) (fun (i : Nat)=>[(0,.vec 136 rItm (itmL (es.take i)))]) 1 (fun (i : Nat)=>es.length - i) 0 (Nat.zero_le _) (qP ⟨rfl,rfl,rfl,rfl⟩ rfl rfl) ?_;intro i hI0;refine qD ?_;refine qB ?_;refine qD ?_;refine qM rfl (fun h15=>?_) (fun h15=>?_)
   ·try simp only [decide_eq_true_eq] at h15
    try simp only [zds] at h15
    have hil : i < es.length:=(by omega);have hsn:=itmL_snoc hil;refine qO ?_;refine qD ?_;refine qR ?_;refine qD ?_;refine qB ?_;refine zai (by first|omega|assumption|decide|(simp only [zds];omega)|(simp <;> omega)) ?_;refine qD ?_;refine qB ?_;refine qD ?_;refine qB ?_;refine Or.inl ?_;refine zai (rfl) ?_;refine zei _ (zai (yD (es.getD i (((0 : Int),ByteArray.empty,([] : List Fld)),(0 : Int))).1.2.2 (hf _ (getD_mem hil (((0 : Int),ByteArray.empty,([] : List Fld)),(0 : Int))))) ?_);refine qB ?_;refine zai (by exact qQ (show (itmL (es.take i)).length + 1 ≤ 1000000000 by unfold itmL;rw [List.length_map,List.length_take];omega) (by decide)) ?_;refine qB ?_;refine zai (by first|omega|assumption|decide|(simp only [zds];omega)|(simp <;> omega)) ?_;exact ⟨i + 1,by omega,by first|omega|(simp <;> omega),qP ⟨rfl,rfl,rfl,(ii_eq (by omega))⟩ (qS (by rw [hsn];try exact rfl)) rfl⟩
   ·try simp only [decide_eq_false_iff_not,Int.not_lt] at h15
    try simp only [zds] at h15
    refine xB ?_;refine qD ?_;refine qB ?_;refine qN ?_;rw [List.take_of_length_le (by omega)];exact rfl
theorem textL_c {k : Nat} (es : List Ent) (n m : Int) (hl : es.length ≤ 400000) (hf : ∀ e ∈ es,e.1.2.2.length ≤ 1000000) (hs : szI (apartL (itmL es)) ≤ 100000000) : qW Tryz.prog 60 [.one (.adk k (rLst k) (es,n,m))] (is (bytes (txtL es))):=by
  have h1 : (itmL es).length ≤ 1000000:=by unfold itmL;rw [List.length_map];omega
  have h2 : ∀ x ∈ itmL es,x.2.2.length ≤ 1000000:=fun x hx=>by obtain ⟨e,he,rfl⟩:=List.mem_map.1 hx;exact hf e he
  have h3 : (apartL (itmL es)).length ≤ 1000000:=by
    have:=apartK_len (itmL es) 1;have h4 : (apartL (itmL es)).length ≤ 2 * (itmL es).length:=this;rw [show (itmL es).length = es.length from List.length_map _] at h4;omega
  have hr:=render_c (itmL es) (apartL (itmL es)) h3 hs (apart_c _ h1 h2);refine qV (rs:=[2]) Tryz.func60 rfl rfl rfl teOk rfl ?_;refine qD ?_;refine qB ?_;refine qD ?_;refine qB ?_;refine Or.inl ?_;refine zai (rfl) ?_;refine zei _ (zai (itmsL_c es n m (by omega) hf) ?_);refine Or.inl ?_;refine zai (rfl) ?_;refine zei _ (zai (hr) ?_);refine qN ?_;rfl
def prPl (es : List Ent) (id : Int) : Bool → Nat → Nat × Int → Prop
  | false,j,x=>x.1 = j ∧ x.2 = 0 ∧ ((es.filter live).take x.1).any (hasId id) = false
  | true,_,x=>x.2 = plcL es id
theorem cntR_at {l : List Itm} {i : Nat} (h : i < l.length) : cntR (l.take (i + 1)) = cntR (l.take i) + if isRec (l.getD i ((0 : Int),ByteArray.empty,([] : List Fld))) then 1 else 0:=by
  rw [← take_snoc ((0 : Int),ByteArray.empty,([] : List Fld)) h,cntR_app]
  generalize l.getD i ((0 : Int),ByteArray.empty,([] : List Fld)) = x
  cases hk : isRec x
  · simp [cntR,hk]
  · simp [cntR,hk]
theorem numI_at {l : List Itm} {i : Nat} (h : i < l.length) : numI 1 (l.take (i + 1)) = numI 1 (l.take i) ++ [(l.getD i ((0 : Int),ByteArray.empty,([] : List Fld)),if isRec (l.getD i ((0 : Int),ByteArray.empty,([] : List Fld))) then 1 + (cntR (l.take i) : Int) else 0)]:=by
  rw [← take_snoc ((0 : Int),ByteArray.empty,([] : List Fld)) h];exact numI_snoc (l.take i) 1 _
theorem cntR_le (l : List Itm) : cntR l ≤ l.length:=List.length_filter_le _ _
def lsO (l : Lst) : Obs:=[(0,.box 134 [.vec 1,.lit (.int .i64 l.2.1),.lit (.int .i64 l.2.2)]),(1,.vec 138 rEnt l.1)]
theorem lbox_eq {a b c d : Int} (h1 : a = c) (h2 : b = d) : some (Ob.box 134 [.vec 1,.lit (.int .i64 a),.lit (.int .i64 b)]) = some (Ob.box 134 [.vec 1,.lit (.int .i64 c),.lit (.int .i64 d)]):=by rw [h1,h2]
theorem of_ok (s : ByteArray) (hs : s.size ≤ 60000) {l : List Itm} (hp : parseS s = .inr l) : qY Tryz.prog 29 [is s] [] 0 (.tup [(false,[.own 0 0]),(false,[.lit .nilIface])]) (lsO (ofT l)) 2:=by
  have hpa:=parse_a s hs;rw [hp] at hpa;obtain ⟨hl1,hl2⟩:=items_flds hs hp;refine qU (rs:=[2,3]) Tryz.func29 rfl rfl rfl teOk (by decide) rfl ?_;refine qD ?_;refine qB ?_;refine qD ?_;refine qB ?_;refine Or.inl ?_;refine zai (rfl) ?_;refine zei _ (zai (hpa) ?_);refine qD ?_;refine qD ?_;refine qB ?_;refine qM rfl (fun h16=>?_) (fun h16=>?_)
  ·try simp only [Bool.not_eq_true'] at h16
   try simp only [zds] at h16
   cases h16
  ·try simp only [Bool.not_eq_false'] at h16
   try simp only [zds] at h16
   refine qO ?_;refine qD ?_;refine qB ?_;refine qD ?_;refine qD ?_;refine yJ 0 0 138 rEnt rfl rfl rfl ?_;refine qB ?_;intro l5_1
   try simp only [zds] at l5_1
   refine qR ?_;refine yT (fun (i : Nat)=>i ≤ l.length) (fun (i : Nat)=>[(0,is s),(6,.one (.own 0 0)),(20,.one (.sl rItm l)),(21,ii .i64 l.length),(22,ii .i64 i)]) (fun (i : Nat)=>[(0,.box 134 [.vec 1,.lit (.int .i64 (1 + (cntR (l.take i) : Int))),.lit (.int .i64 (cntR (l.take i)))]),(1,.vec 138 rEnt (numI 1 (l.take i)))]) 2 (fun (i : Nat)=>l.length - i) 0 (Nat.zero_le _) (qP ⟨rfl,rfl,rfl,rfl,rfl⟩ ⟨rfl,rfl⟩ rfl) ?_;intro i hI0;refine qD ?_;refine qB ?_;refine qD ?_;refine qM rfl (fun h23=>?_) (fun h23=>?_)
   ·try simp only [decide_eq_true_eq] at h23
    try simp only [zds] at h23
    have hil : i < l.length:=(by omega);have hsn:=numI_at hil;have hcn:=cntR_at hil;have hcl:=cntR_le (l.take i);rw [List.length_take] at hcl;refine qO ?_;refine qD ?_;refine qR ?_;refine qD ?_;refine qB ?_;refine zai (by first|omega|assumption|decide|(simp only [zds];omega)|(simp <;> omega)) ?_;refine qD ?_;refine qB ?_;refine qD ?_;refine qD ?_;refine qB ?_;refine qM rfl (fun h30=>?_) (fun h30=>?_)
    ·try simp only [decide_eq_true_eq] at h30
     try simp only [Int.toNat_natCast,qJ,qI,qF,qG] at h30
     have hk : isRec (l.getD i ((0 : Int),ByteArray.empty,([] : List Fld))) = true:=decide_eq_true h30;rw [hk,if_pos rfl] at hsn hcn;refine qD ?_;refine qB ?_;refine qD ?_;refine qB ?_;refine zai (by first|omega|assumption|decide|(simp only [zds];omega)|(simp <;> omega)) ?_;refine qB ?_;refine zai (by first|omega|assumption|decide|(simp only [zds];omega)|(simp <;> omega)) ?_;refine yL rfl ?_;refine qH 0 rfl rfl rfl (by kernel_rfl) ?_;refine qH 1 rfl rfl rfl (by kernel_rfl) ?_;refine qH 2 rfl rfl rfl (by kernel_rfl) ?_;refine qH 3 rfl rfl rfl (by kernel_rfl) ?_;refine qC [4,5] (by kernel_rfl) rfl ?_;refine zai ?_ ?_
     ·refine qC [5] (by kernel_rfl) rfl ?_;refine qC [6] (by kernel_rfl) rfl ?_;refine qC [7] (by kernel_rfl) rfl ?_;refine zai (by exact qQ (show (numI 1 (l.take i)).length + 1 ≤ 1000000000 by rw [numI_len,List.length_take];omega) (by decide)) ?_;refine qH 8 rfl rfl rfl (by kernel_rfl) ?_;refine qH 9 rfl rfl rfl (by kernel_rfl) ?_;refine qC [10] (by kernel_rfl) rfl ?_;refine qL (by kernel_rfl) ?_;refine qB ?_;refine zai (by first|omega|assumption|decide|(simp only [zds];omega)|(simp <;> omega)) ?_;exact ⟨i + 1,by omega,by first|omega|(simp <;> omega),qP ⟨rfl,rfl,rfl,rfl,rfl⟩ ⟨(lbox_eq (by omega) (by omega)),(qS (by rw [hsn];exact rfl))⟩ rfl⟩
     ·refine qC [4,6] (by kernel_rfl) rfl ?_;refine zai ?_ ?_
      ·refine qC [6] (by kernel_rfl) rfl ?_;refine qC [7] (by kernel_rfl) rfl ?_;refine zai (by exact qQ (show (numI 1 (l.take i)).length + 1 ≤ 1000000000 by rw [numI_len,List.length_take];omega) (by decide)) ?_;refine qH 8 rfl rfl rfl (by kernel_rfl) ?_;refine qH 9 rfl rfl rfl (by kernel_rfl) ?_;refine qC [10] (by kernel_rfl) rfl ?_;refine qL (by kernel_rfl) ?_;refine qB ?_;refine zai (by first|omega|assumption|decide|(simp only [zds];omega)|(simp <;> omega)) ?_;exact ⟨i + 1,by omega,by first|omega|(simp <;> omega),qP ⟨rfl,rfl,rfl,rfl,rfl⟩ ⟨(lbox_eq (by omega) (by omega)),(qS (by rw [hsn];exact rfl))⟩ rfl⟩
      ·refine qC [4] (by kernel_rfl) rfl ?_;refine qC [7] (by kernel_rfl) rfl ?_;refine zai (by exact qQ (show (numI 1 (l.take i)).length + 1 ≤ 1000000000 by rw [numI_len,List.length_take];omega) (by decide)) ?_;refine qH 8 rfl rfl rfl (by kernel_rfl) ?_;refine qH 9 rfl rfl rfl (by kernel_rfl) ?_;refine qC [10] (by kernel_rfl) rfl ?_;refine qL (by kernel_rfl) ?_;refine qB ?_;refine zai (by first|omega|assumption|decide|(simp only [zds];omega)|(simp <;> omega)) ?_;exact ⟨i + 1,by omega,by first|omega|(simp <;> omega),qP ⟨rfl,rfl,rfl,rfl,rfl⟩ ⟨(lbox_eq (by omega) (by omega)),(qS (by rw [hsn];exact rfl))⟩ rfl⟩
    ·try simp only [decide_eq_false_iff_not] at h30
     try simp only [Int.toNat_natCast,qJ,qI,qF,qG] at h30
     have hk : isRec (l.getD i ((0 : Int),ByteArray.empty,([] : List Fld))) = false:=decide_eq_false h30;rw [hk,if_neg Bool.false_ne_true] at hsn hcn;refine qO ?_;refine yL rfl ?_;refine qH 0 rfl rfl rfl (by kernel_rfl) ?_;refine qH 1 rfl rfl rfl (by kernel_rfl) ?_;refine qH 2 rfl rfl rfl (by kernel_rfl) ?_;refine qH 3 rfl rfl rfl (by kernel_rfl) ?_;refine qC [4,5] (by kernel_rfl) rfl ?_;refine zai ?_ ?_
     ·refine qC [5] (by kernel_rfl) rfl ?_;refine qC [6] (by kernel_rfl) rfl ?_;refine qC [7] (by kernel_rfl) rfl ?_;refine zai (by exact qQ (show (numI 1 (l.take i)).length + 1 ≤ 1000000000 by rw [numI_len,List.length_take];omega) (by decide)) ?_;refine qH 8 rfl rfl rfl (by kernel_rfl) ?_;refine qH 9 rfl rfl rfl (by kernel_rfl) ?_;refine qC [10] (by kernel_rfl) rfl ?_;refine qL (by kernel_rfl) ?_;refine qB ?_;refine zai (by first|omega|assumption|decide|(simp only [zds];omega)|(simp <;> omega)) ?_;exact ⟨i + 1,by omega,by first|omega|(simp <;> omega),qP ⟨rfl,rfl,rfl,rfl,rfl⟩ ⟨(lbox_eq (by omega) (by omega)),(qS (by rw [hsn];exact rfl))⟩ rfl⟩
     ·refine qC [4,6] (by kernel_rfl) rfl ?_;refine zai ?_ ?_
      ·refine qC [6] (by kernel_rfl) rfl ?_;refine qC [7] (by kernel_rfl) rfl ?_;refine zai (by exact qQ (show (numI 1 (l.take i)).length + 1 ≤ 1000000000 by rw [numI_len,List.length_take];omega) (by decide)) ?_;refine qH 8 rfl rfl rfl (by kernel_rfl) ?_;refine qH 9 rfl rfl rfl (by kernel_rfl) ?_;refine qC [10] (by kernel_rfl) rfl ?_;refine qL (by kernel_rfl) ?_;refine qB ?_;refine zai (by first|omega|assumption|decide|(simp only [zds];omega)|(simp <;> omega)) ?_;exact ⟨i + 1,by omega,by first|omega|(simp <;> omega),qP ⟨rfl,rfl,rfl,rfl,rfl⟩ ⟨(lbox_eq (by omega) (by omega)),(qS (by rw [hsn];exact rfl))⟩ rfl⟩
      ·refine qC [4] (by kernel_rfl) rfl ?_;refine qC [7] (by kernel_rfl) rfl ?_;refine zai (by exact qQ (show (numI 1 (l.take i)).length + 1 ≤ 1000000000 by rw [numI_len,List.length_take];omega) (by decide)) ?_;refine qH 8 rfl rfl rfl (by kernel_rfl) ?_;refine qH 9 rfl rfl rfl (by kernel_rfl) ?_;refine qC [10] (by kernel_rfl) rfl ?_;refine qL (by kernel_rfl) ?_;refine qB ?_;refine zai (by first|omega|assumption|decide|(simp only [zds];omega)|(simp <;> omega)) ?_;exact ⟨i + 1,by omega,by first|omega|(simp <;> omega),qP ⟨rfl,rfl,rfl,rfl,rfl⟩ ⟨(lbox_eq (by omega) (by omega)),(qS (by rw [hsn];exact rfl))⟩ rfl⟩
   ·try simp only [decide_eq_false_iff_not,Int.not_lt] at h23
    try simp only [zds] at h23
    refine xB ?_;refine qD ?_;refine qB ?_;refine qN ?_;rw [List.take_of_length_le (by omega)];exact ⟨rfl,⟨rfl,rfl⟩,rfl⟩
def SmallF (l : List Fld) : Prop:=∀ f ∈ l,f.1.size ≤ 1000 ∧ f.2.size ≤ 1000
structure GP (p : PSt) : Prop where
  flds : SmallF p.flds
  room : p.lns ≠ [] → p.full = false → p.flds.length < 40
  len : p.flds.length ≤ 40
  its : ∀ x ∈ p.its,SmallF x.2.2 ∧ x.2.2.length ≤ 40
abbrev RLs:=List Ent × Int
abbrev rRL : Rd RLs:=.st (.sl rEnt) (.int .i64)
theorem copyL_o {k : Nat} (es : List Ent) (n m : Int) (hl : es.length ≤ 1000000) : qY Tryz.prog 68 [.one (.adk k (rLst k) (es,n,m))] [] 0 (.one (.own 1 0)) [(1,.box 134 [.vec 0,.lit (.int .i64 n),.lit (.int .i64 m)]),(0,.vec 138 rEnt es)] 2:=by
  have hcl:=cloneE_o (k:=k) es hl;refine qU (rs:=[2]) Tryz.func68 rfl rfl rfl teOk (by decide) rfl ?_;refine qD ?_;refine qB ?_;refine qD ?_;refine qD ?_;refine qB ?_;refine qM rfl (fun h4=>?_) (fun h4=>?_)
  ·try simp only [zbq] at h4
   try simp only [zds] at h4
   simp at h4
  ·try simp only [zbq] at h4
   try simp only [zds] at h4
   refine qO ?_;refine qD ?_;refine yL rfl ?_;refine qH 0 rfl rfl rfl (by kernel_rfl) ?_;refine qH 1 rfl rfl rfl (by kernel_rfl) ?_;refine qH 2 rfl rfl rfl (by kernel_rfl) ?_;refine qH 5 rfl rfl rfl (by kernel_rfl) ?_;refine qH 6 rfl rfl rfl (by kernel_rfl) ?_;refine qH 7 rfl rfl rfl (by kernel_rfl) ?_;refine qH 9 rfl rfl rfl (by kernel_rfl) ?_;refine qH 10 rfl rfl rfl (by kernel_rfl) ?_;refine qH 11 rfl rfl rfl (by kernel_rfl) ?_;refine qC [3,8,12] (by kernel_rfl) rfl ?_;refine zai ?_ ?_
   ·refine qC [4,8,12] (by kernel_rfl) rfl ?_;refine zai ?_ ?_
    ·refine Or.inr (Or.inl (zei [] (zei [] (zei _ (zei _ (zei _ (zei _ (zei _ (zai (hcl) (zai rfl (zai True.intro (zai rfl ?_))))))))))));refine qC [8,12] (by kernel_rfl) rfl ?_;refine zai ?_ ?_
     ·refine qC [12] (by kernel_rfl) rfl ?_;refine qC [13] (by kernel_rfl) rfl ?_;refine qC [14] (by kernel_rfl) rfl ?_;refine qH 15 rfl rfl rfl (by kernel_rfl) ?_;refine qL (by kernel_rfl) ?_;refine qN ?_;exact ⟨rfl,⟨rfl,rfl⟩,rfl⟩
     ·refine qC [8] (by kernel_rfl) rfl ?_;refine qC [13] (by kernel_rfl) rfl ?_;refine qC [14] (by kernel_rfl) rfl ?_;refine qH 15 rfl rfl rfl (by kernel_rfl) ?_;refine qL (by kernel_rfl) ?_;refine qN ?_;exact ⟨rfl,⟨rfl,rfl⟩,rfl⟩
    refine zai ?_ ?_
    ·refine qC [4,12] (by kernel_rfl) rfl ?_;refine zai ?_ ?_
     ·refine Or.inr (Or.inl (zei [] (zei [] (zei _ (zei _ (zei _ (zei _ (zei _ (zai (hcl) (zai rfl (zai True.intro (zai rfl ?_))))))))))));refine qC [12] (by kernel_rfl) rfl ?_;refine qC [13] (by kernel_rfl) rfl ?_;refine qC [14] (by kernel_rfl) rfl ?_;refine qH 15 rfl rfl rfl (by kernel_rfl) ?_;refine qL (by kernel_rfl) ?_;refine qN ?_;exact ⟨rfl,⟨rfl,rfl⟩,rfl⟩
     ·refine qC [4] (by kernel_rfl) rfl ?_;refine Or.inr (Or.inl (zei [] (zei [] (zei _ (zei _ (zei _ (zei _ (zei _ (zai (hcl) (zai rfl (zai True.intro (zai rfl ?_))))))))))));refine qC [13] (by kernel_rfl) rfl ?_;refine qC [14] (by kernel_rfl) rfl ?_;refine qH 15 rfl rfl rfl (by kernel_rfl) ?_;refine qL (by kernel_rfl) ?_;refine qN ?_;exact ⟨rfl,⟨rfl,rfl⟩,rfl⟩
    ·refine qC [4,8] (by kernel_rfl) rfl ?_;refine zai ?_ ?_
     ·refine Or.inr (Or.inl (zei [] (zei [] (zei _ (zei _ (zei _ (zei _ (zei _ (zai (hcl) (zai rfl (zai True.intro (zai rfl ?_))))))))))));refine qC [8] (by kernel_rfl) rfl ?_;refine qC [13] (by kernel_rfl) rfl ?_;refine qC [14] (by kernel_rfl) rfl ?_;refine qH 15 rfl rfl rfl (by kernel_rfl) ?_;refine qL (by kernel_rfl) ?_;refine qN ?_;exact ⟨rfl,⟨rfl,rfl⟩,rfl⟩
     ·refine qC [4] (by kernel_rfl) rfl ?_;refine Or.inr (Or.inl (zei [] (zei [] (zei _ (zei _ (zei _ (zei _ (zei _ (zai (hcl) (zai rfl (zai True.intro (zai rfl ?_))))))))))));refine qC [13] (by kernel_rfl) rfl ?_;refine qC [14] (by kernel_rfl) rfl ?_;refine qH 15 rfl rfl rfl (by kernel_rfl) ?_;refine qL (by kernel_rfl) ?_;refine qN ?_;exact ⟨rfl,⟨rfl,rfl⟩,rfl⟩
   refine zai ?_ ?_
   ·refine qC [3,12] (by kernel_rfl) rfl ?_;refine zai ?_ ?_
    ·refine qC [4,12] (by kernel_rfl) rfl ?_;refine zai ?_ ?_
     ·refine Or.inr (Or.inl (zei [] (zei [] (zei _ (zei _ (zei _ (zei _ (zei _ (zai (hcl) (zai rfl (zai True.intro (zai rfl ?_))))))))))));refine qC [12] (by kernel_rfl) rfl ?_;refine qC [13] (by kernel_rfl) rfl ?_;refine qC [14] (by kernel_rfl) rfl ?_;refine qH 15 rfl rfl rfl (by kernel_rfl) ?_;refine qL (by kernel_rfl) ?_;refine qN ?_;exact ⟨rfl,⟨rfl,rfl⟩,rfl⟩
     ·refine qC [4] (by kernel_rfl) rfl ?_;refine Or.inr (Or.inl (zei [] (zei [] (zei _ (zei _ (zei _ (zei _ (zei _ (zai (hcl) (zai rfl (zai True.intro (zai rfl ?_))))))))))));refine qC [13] (by kernel_rfl) rfl ?_;refine qC [14] (by kernel_rfl) rfl ?_;refine qH 15 rfl rfl rfl (by kernel_rfl) ?_;refine qL (by kernel_rfl) ?_;refine qN ?_;exact ⟨rfl,⟨rfl,rfl⟩,rfl⟩
    ·refine qC [3] (by kernel_rfl) rfl ?_;refine qC [4] (by kernel_rfl) rfl ?_;refine Or.inr (Or.inl (zei [] (zei [] (zei _ (zei _ (zei _ (zei _ (zei _ (zai (hcl) (zai rfl (zai True.intro (zai rfl ?_))))))))))));refine qC [13] (by kernel_rfl) rfl ?_;refine qC [14] (by kernel_rfl) rfl ?_;refine qH 15 rfl rfl rfl (by kernel_rfl) ?_;refine qL (by kernel_rfl) ?_;refine qN ?_;exact ⟨rfl,⟨rfl,rfl⟩,rfl⟩
   ·refine qC [3,8] (by kernel_rfl) rfl ?_;refine zai ?_ ?_
    ·refine qC [4,8] (by kernel_rfl) rfl ?_;refine zai ?_ ?_
     ·refine Or.inr (Or.inl (zei [] (zei [] (zei _ (zei _ (zei _ (zei _ (zei _ (zai (hcl) (zai rfl (zai True.intro (zai rfl ?_))))))))))));refine qC [8] (by kernel_rfl) rfl ?_;refine qC [13] (by kernel_rfl) rfl ?_;refine qC [14] (by kernel_rfl) rfl ?_;refine qH 15 rfl rfl rfl (by kernel_rfl) ?_;refine qL (by kernel_rfl) ?_;refine qN ?_;exact ⟨rfl,⟨rfl,rfl⟩,rfl⟩
     ·refine qC [4] (by kernel_rfl) rfl ?_;refine Or.inr (Or.inl (zei [] (zei [] (zei _ (zei _ (zei _ (zei _ (zei _ (zai (hcl) (zai rfl (zai True.intro (zai rfl ?_))))))))))));refine qC [13] (by kernel_rfl) rfl ?_;refine qC [14] (by kernel_rfl) rfl ?_;refine qH 15 rfl rfl rfl (by kernel_rfl) ?_;refine qL (by kernel_rfl) ?_;refine qN ?_;exact ⟨rfl,⟨rfl,rfl⟩,rfl⟩
    ·refine qC [3] (by kernel_rfl) rfl ?_;refine qC [4] (by kernel_rfl) rfl ?_;refine Or.inr (Or.inl (zei [] (zei [] (zei _ (zei _ (zei _ (zei _ (zei _ (zai (hcl) (zai rfl (zai True.intro (zai rfl ?_))))))))))));refine qC [13] (by kernel_rfl) rfl ?_;refine qC [14] (by kernel_rfl) rfl ?_;refine qH 15 rfl rfl rfl (by kernel_rfl) ?_;refine qL (by kernel_rfl) ?_;refine qN ?_;exact ⟨rfl,⟨rfl,rfl⟩,rfl⟩
theorem lDel_ok (es : List Ent) (n m id : Int) (i : Nat) (hi : i < es.length) (h : atE es id = i) (hm : 0 ≤ m ∧ m ≤ 1000000) (hl : es.length ≤ 1000000) : qY Tryz.prog 43 [.one (.own 0 0),ii .i64 id] (lsO (es,n,m)) 2 (.one (.lit .nilIface)) (lsO (delE es i,n,m - 1)) 2:=by
  refine qU (rs:=[4]) Tryz.func43 rfl rfl rfl teOk (by decide) rfl ?_;refine qD ?_;refine qB ?_;refine qD ?_;refine qB ?_;refine Or.inr (Or.inr (Or.inl ?_));refine zai rfl ?_;refine zei _ (zai ((by have:=at_c (k:=1) es n m id;rw [h] at this;exact this)) ?_);refine qD ?_;refine qD ?_;refine qB ?_;refine qM rfl (fun h10=>?_) (fun h10=>?_)
  ·try simp only [decide_eq_true_eq] at h10
   try simp only [zds] at h10
   omega
  ·try simp only [decide_eq_false_iff_not,Int.not_lt] at h10
   try simp only [zds] at h10
   refine qO ?_;refine qD ?_;refine qB ?_;refine zai (by first|omega|assumption|decide|(simp only [zds];omega)|(simp <;> omega)) ?_;refine Or.inr (Or.inr (Or.inr (zei [1] (zei [] (zei _ (zei _ (zei _ (zei _ (zei _ (zai (delete_x es i (i + 1) (Nat.lt_succ_self _) hi) (zai rfl (zai (zai (zai rfl rfl) True.intro) (zai rfl ?_)))))))))))));refine qD ?_;refine qB ?_;refine zai (by first|omega|assumption|decide|(simp only [];omega)|(simp <;> omega)) ?_;refine qD ?_;refine qB ?_;refine qN ?_;exact ⟨rfl,⟨rfl,rfl⟩,rfl⟩
theorem pitem_ok {κ : Nat} {l : List Fld} (hl : FldsOk l) (h : (chkR l).2 = 0) : qW Tryz.prog 89 [.one (.slk κ rFld l)] (.tup [(true,toL rItm (3,bytes (foldL l),l)),(false,[.lit .nilIface])]):=by
  refine acall_ofc (rs:=[.cell 2 136,.tmp 3]) Tryz.func89 rfl rfl rfl teOk rfl ?_;refine qD ?_;refine qB ?_;refine qD ?_;refine qB ?_;refine Or.inl ?_;refine zai (rfl) ?_;refine zei _ (zai (pstanza_ok hl h) ?_);refine qD ?_;refine qD ?_;refine qB ?_;refine qM rfl (fun h12=>?_) (fun h12=>?_)
  ·try simp only [Bool.not_eq_true'] at h12
   try simp only [zds] at h12
   cases h12
  ·try simp only [Bool.not_eq_false'] at h12
   try simp only [zds] at h12
   refine qO ?_;refine qD ?_;refine qB ?_;refine Or.inl ?_;refine zai (rfl) ?_;refine zei _ (zai (yD l (Nat.le_trans hl.1 (by decide))) ?_);refine qN ?_;rfl
def itmOf (f : List Fld) : Itm:=(3,bytes (foldL f),f)
theorem lRep_ok {κ : Nat} (es : List Ent) (n m id : Int) (f : List Fld) (i : Nat) (hi : i < es.length) (h : atE es id = i) (hf : FldsOk f) (hc : (chkR f).2 = 0) : qY Tryz.prog 42 [.one (.own 0 0),ii .i64 id,.one (.slk κ rFld f)] (lsO (es,n,m)) 2 (.one (.lit .nilIface)) (lsO (replE es i (itmOf f),n,m)) 2:=by
  refine qU (rs:=[6]) Tryz.func42 rfl rfl rfl teOk (by decide) rfl ?_;refine qD ?_;refine qB ?_;refine qD ?_;refine qB ?_;refine Or.inr (Or.inr (Or.inl ?_));refine zai rfl ?_;refine zei _ (zai ((by have:=at_c (k:=1) es n m id;rw [h] at this;exact this)) ?_);refine qD ?_;refine qD ?_;refine qB ?_;refine qM rfl (fun h14=>?_) (fun h14=>?_)
  ·try simp only [decide_eq_true_eq] at h14
   try simp only [zds] at h14
   omega
  ·try simp only [decide_eq_false_iff_not,Int.not_lt] at h14
   try simp only [zds] at h14
   refine qO ?_;refine qD ?_;refine qB ?_;refine Or.inl ?_;refine zai (rfl) ?_;refine zei _ (zai (pitem_ok hf hc) ?_);refine qD ?_;refine qD ?_;refine qB ?_;refine qM rfl (fun h22=>?_) (fun h22=>?_)
   ·try simp only [Bool.not_eq_true'] at h22
    try simp only [zds] at h22
    cases h22
   ·try simp only [Bool.not_eq_false'] at h22
    try simp only [zds] at h22
    refine qO ?_;refine qD ?_;refine yL rfl ?_;refine qH 0 rfl rfl rfl (by kernel_rfl) ?_;refine qH 1 rfl rfl rfl (by kernel_rfl) ?_;refine qH 2 rfl rfl rfl (by kernel_rfl) ?_;refine qH 4 rfl rfl rfl (by kernel_rfl) ?_;refine qC [3,5] (by kernel_rfl) rfl ?_;refine zai ?_ ?_
    ·refine qC [5] (by kernel_rfl) rfl ?_;refine qH 6 rfl rfl rfl (by kernel_rfl) ?_;refine zai (by first|omega|assumption|decide|(simp only [];omega)|(simp <;> omega)) ?_;refine qC [7] (by kernel_rfl) rfl ?_;refine qC [8] (by kernel_rfl) rfl ?_;refine zai (by (rw [Int.toNat_natCast];exact hi)) ?_;refine qL (by kernel_rfl) ?_;refine qD ?_;refine qB ?_;refine qN ?_;exact ⟨rfl,⟨rfl,rfl⟩,rfl⟩
    ·refine qC [3] (by kernel_rfl) rfl ?_;refine qH 6 rfl rfl rfl (by kernel_rfl) ?_;refine zai (by first|omega|assumption|decide|(simp only [];omega)|(simp <;> omega)) ?_;refine qC [7] (by kernel_rfl) rfl ?_;refine qC [8] (by kernel_rfl) rfl ?_;refine zai (by (rw [Int.toNat_natCast];exact hi)) ?_;refine qL (by kernel_rfl) ?_;refine qD ?_;refine qB ?_;refine qN ?_;exact ⟨rfl,⟨rfl,rfl⟩,rfl⟩
def doL (L : Lst) (e : Edt) : Lst :=
  if e.1 = 1 then
    if atE L.1 e.2.1 < 0 then L else if (chkR e.2.2).2 ≠ 0 then L else (replE L.1 (atE L.1 e.2.1).toNat (itmOf e.2.2),L.2)
  else if e.1 = 2 then
    if atE L.1 e.2.1 < 0 then L else (delE L.1 (atE L.1 e.2.1).toNat,L.2.1,L.2.2 - 1)
  else if atE L.1 e.2.1 < 0 ∧ e.2.1 ≠ 0 then L else if (chkR e.2.2).2 ≠ 0 then L else if 400 ≤ L.2.2 then L else
    (insE L.1 (atE L.1 e.2.1 + 1).toNat (itmOf e.2.2,L.2.1),L.2.1 + 1,L.2.2 + 1)
def refRep (M : RLs) (id : Int) (f : List Fld) : RLs × Int × Int :=
  if atE M.1 id < 0 then (M,-9,7) else if (chkR f).2 ≠ 0 then (M,(chkR f).1,(chkR f).2) else ((replE M.1 (atE M.1 id).toNat (itmOf f),M.2),-9,0)
def refDel (M : RLs) (id : Int) : RLs × Int :=
  if atE M.1 id < 0 then (M,7) else ((delE M.1 (atE M.1 id).toNat,M.2),0)
def refIns (M : RLs) (id : Int) (f : List Fld) : RLs × Int × Int × Int :=
  if atE M.1 id < 0 ∧ id ≠ 0 then (M,0,-9,7) else if (chkR f).2 ≠ 0 then (M,0,(chkR f).1,(chkR f).2) else if 400 ≤ ((M.1.filter live).length : Int) then (M,0,-9,11) else
    ((insE M.1 (atE M.1 id + 1).toNat (itmOf f,M.2),M.2 + 1),M.2,-9,0)
def posI (n : Int) : Bool:=decide (0 < n)
def nmsL (es : List Ent) : List Int:=(es.map (·.2)).filter posI
structure LOk (c : Nat) (L : Lst) : Prop where
  flds : ∀ e ∈ L.1,FldsOk e.1.2.2
  ids : ∀ e ∈ L.1,0 ≤ e.2 ∧ e.2 < L.2.1
  nd : (nmsL L.1).Nodup
  many : L.2.2 = ((nmsL L.1).length : Int)
  next : 1 ≤ L.2.1 ∧ L.2.1 ≤ c
  len : L.1.length ≤ c
def refDo (M : RLs) (e : Edt) : RLs:=if e.1 = 1 then (refRep M e.2.1 e.2.2).1 else if e.1 = 2 then (refDel M e.2.1).1 else (refIns M e.2.1 e.2.2).1
abbrev zRL : List C:=[.lit (.slice none 0 0),.lit (.int .i64 0)]
def insT (es : List Ent) (j : Nat) (e : Ent) (i : Nat) : List Ent:=if i < j then es.take i else insE (es.take i) j e
def doB (num at_ id bad at2 want : Int) : Bool:=((true && decide (num = bad)) && decide (at_ = at2)) && decide (id = want)
theorem acallo_arg {P : Program} {f : FuncId} {xs ys : List A} {ob ob' : Obs} {m m' : Nat} {r : A} (h : ∀ ok ρ w vs,yQ ok ρ w xs vs → yQ ok ρ w ys vs) (hc : qY P f ys ob m r ob' m') : qY P f xs ob m r ob' m' :=
  ⟨hc.1,fun cx ρ w vs h1 h2 h3 h4 h5=>hc.2 cx ρ w vs h1 h2 h3 h4 (h _ _ _ _ h5)⟩
def plays (L : Lst) (s : List Edt) (i : Nat) : Lst:=(s.take i).foldl doL L
theorem a1_parse7 : parseS ⟨#[65,58,32,49,10]⟩ = .inr [(3,⟨#[65,58,32,49,10]⟩,[(⟨#[65]⟩,⟨#[49]⟩)])]:=by decide +kernel
def al0 : List Ent:=[((3,⟨#[65,58,32,49,10]⟩,[(⟨#[65]⟩,⟨#[49]⟩)]),1)]
def alF : List Fld:=[(⟨#[66]⟩,⟨#[50]⟩)]
def al1 : List Ent:=insE al0 0 (itmOf alF,2)
end Q
end Ab
end Go.Proofs.YtojipboabgebfaaGreatDoor
namespace Go.Proofs.YtojipboabgebfaaGreatDoor
open Go.RowKit
namespace Ab
set_option maxRecDepth 100000
theorem acallo_arg {P : Program} {f : FuncId} {xs ys : List A} {r : A} {ob ob' : Obs} {m m' : Nat} (h : ∀ ok ρ w vs,yQ ok ρ w xs vs → yQ ok ρ w ys vs) (hc : qY P f ys ob m r ob' m') : qY P f xs ob m r ob' m' :=
  ⟨hc.1,fun cx ρ w vs h1 h2 h3 h4 h5=>hc.2 cx ρ w vs h1 h2 h3 h4 (h _ _ _ _ h5)⟩
theorem tyTst : TyOk Tryz.prog 120 ty120:=tyOk120
namespace Q
abbrev TSt:=Lst × List Edt
abbrev rSt : Rd TSt:=.st (.ptk 0 (rLst 0)) (.sl rEdt)
def txO (sts : List TSt) : Obs:=[(0,.box 123 [.vec 1]),(1,.vec 120 rSt sts)]
theorem copyT_c (s : List Edt) (hf : ∀ e ∈ s,e.2.2.length ≤ 1000000) (hl : s.length ≤ 1000000) : qW Tryz.prog 65 [.one (.sl rEdt s)] (.one (.sl rEdt s)):=by
  refine qV (rs:=[2]) Tryz.func65 rfl rfl rfl teOk rfl ?_;refine qD ?_;refine qB ?_;refine qD ?_;refine qB ?_;refine qD ?_;refine qD ?_;refine acode_nilvec 3 31 rEdt rfl ?_;refine qB ?_;intro l2_1
  try simp only [zds] at l2_1
  refine qR ?_;refine yT (fun (i : Nat)=>i ≤ s.length) (fun (i : Nat)=>[(3,.one (.vec 0)),(6,.one (.sl rEdt s)),(7,ii .i64 s.length),(8,ii .i64 i)]) (fun (i : Nat)=>[(0,.vec 31 rEdt (s.take i))]) 1 (fun (i : Nat)=>s.length - i) 0 (Nat.zero_le _) (qP ⟨rfl,rfl,rfl,rfl⟩ rfl rfl) ?_;intro i hI0;refine qD ?_;refine qB ?_;refine qD ?_;refine qM rfl (fun h9=>?_) (fun h9=>?_)
  ·try simp only [decide_eq_true_eq] at h9
   try simp only [zds] at h9
   have hil : i < s.length:=(by omega);refine qO ?_;refine qD ?_;refine qR ?_;refine qD ?_;refine qB ?_;refine zai (by first|omega|assumption|decide|(simp only [zds];omega)|(simp <;> omega)) ?_;refine qD ?_;refine qB ?_;refine Or.inl ?_;refine zai (rfl) ?_;refine zei _ (zai (yD (s.getD i ((0 : Int),(0 : Int),([] : List Fld))).2.2 (hf _ (getD_mem hil ((0 : Int),(0 : Int),([] : List Fld))))) ?_);refine qB ?_;refine zai (by exact qQ (show (s.take i).length + 1 ≤ 1000000000 by rw [List.length_take];omega) (by decide)) ?_;refine qB ?_;refine zai (by first|omega|assumption|decide|(simp only [zds];omega)|(simp <;> omega)) ?_;exact ⟨i + 1,by omega,by first|omega|(simp <;> omega),qP ⟨rfl,rfl,rfl,(ii_eq (by omega))⟩ (qS (by rw [← take_snoc ((0 : Int),(0 : Int),([] : List Fld)) hil];try exact rfl)) rfl⟩
  ·try simp only [decide_eq_false_iff_not,Int.not_lt] at h9
   try simp only [zds] at h9
   refine xB ?_;refine qD ?_;refine qB ?_;refine qN ?_;rw [List.take_of_length_le (by omega)];exact rfl
theorem topen_c {k : Nat} (sts : List TSt) : qW Tryz.prog 72 [.one (.adk k (.slk k rSt) sts)] (ib (decide (0 < sts.length))):=by
  refine qV (rs:=[2]) Tryz.func72 rfl rfl rfl teOk rfl ?_;refine qD ?_;refine qB ?_;refine qD ?_;refine qB ?_;refine zai (fun h=>trivial) ?_;refine zai (fun h=>⟨⟨h,trivial⟩,trivial⟩) ?_;refine zai (fun h=>⟨⟨h,trivial⟩,trivial⟩) ?_;refine zai (fun h=>⟨⟨h,trivial⟩,trivial⟩) ?_;refine zai (fun h=>⟨⟨h,trivial⟩,trivial⟩) ?_;refine zai (fun h=>⟨⟨h,trivial⟩,trivial⟩) ?_;refine zai (by exact fun h=>h) ?_;refine qN ?_;exact ib_eq (by simp)
theorem topenN_c : qW Tryz.prog 72 [.one (.lit (.pointer none))] (ib false):=by
  refine ⟨⟨_,Tryz.func72,rfl,rfl⟩,fun ok w vs _ hvs=>?_⟩;obtain ⟨v,t,rfl,hv,ht⟩:=hvs;rw [show t = [] from ht,show v = .pointer none from hv]
  suffices h : Calls Tryz.prog 72 #[.pointer none] w fun e w'=>e = .returned (.bool false) ∧ w' = w from
    h.mono fun e w' ⟨h1,h2⟩=>⟨_,h1,by rw [h2];exact Below.refl _ _,rfl⟩
  go_enter Tryz.func72,Tryz.ntmps72
  go_wp2
  go_ret
  exact ⟨rfl,rfl⟩
theorem tmark_c {k : Nat} (sts : List TSt) (h : 0 < sts.length) : qW Tryz.prog 26 [.one (.adk k (.slk k rSt) sts)] (ii .i64 ((sts.length : Int) - 1)):=by
  refine qV (rs:=[2]) Tryz.func26 rfl rfl rfl teOk rfl ?_;refine qD ?_;refine qB ?_;refine qD ?_;refine qD ?_;refine qB ?_;refine Or.inl ?_;refine zai (rfl) ?_;refine zei _ (zai (topen_c sts) ?_);refine qM rfl (fun h5=>?_) (fun h5=>?_)
  ·try simp only [decide_eq_false_iff_not,Bool.not_eq_true'] at h5
   try simp only [zds] at h5
   exfalso
   simp at h5;have h9 : sts.length = 0:=(by rw [h5];rfl);omega
  ·try simp only [decide_eq_true_eq,Bool.not_eq_false'] at h5
   try simp only [zds] at h5
   refine qO ?_;refine qD ?_;refine qB ?_;intro l3_4
   try simp only [zds] at l3_4
   refine zai (by first|omega|assumption|decide|(simp only [zds];omega)|(simp <;> omega)) ?_;refine qN ?_;rfl
theorem tmarkN_c : qW Tryz.prog 26 [.one (.lit (.pointer none))] (ii .i64 0):=by
  refine qV (rs:=[2]) Tryz.func26 rfl rfl rfl teOk rfl ?_;refine qD ?_;refine qB ?_;refine qD ?_;refine qD ?_;refine qB ?_;refine Or.inl ?_;refine zai (rfl) ?_;refine zei _ (zai (topenN_c) ?_);refine qM rfl (fun h5=>?_) (fun h5=>?_)
  ·try simp only [Bool.not_eq_true'] at h5
   try simp only [zds] at h5
   refine qD ?_;refine qB ?_;refine qN ?_;rfl
  ·try simp only [Bool.not_eq_false'] at h5
   try simp only [zds] at h5
   simp at h5
theorem tnow_c {k : Nat} (sts : List TSt) (h : 0 < sts.length) : qW Tryz.prog 75 [.one (.adk k (.slk k rSt) sts)] (.agg (toL rSt (sts.getD (sts.length - 1) ((([] : List Ent),(0 : Int),(0 : Int)),([] : List Edt))))):=by
  refine acall_ofc (rs:=[.cell 2 120]) Tryz.func75 rfl rfl rfl teOk rfl ?_;refine qD ?_;refine qB ?_;refine qD ?_;refine yL rfl ?_;refine qH 0 rfl rfl rfl (by kernel_rfl) ?_;refine qH 1 rfl rfl rfl (by kernel_rfl) ?_;refine qH 2 rfl rfl rfl (by kernel_rfl) ?_;refine qH 4 rfl rfl rfl (by kernel_rfl) ?_;refine qH 5 rfl rfl rfl (by kernel_rfl) ?_;refine qH 6 rfl rfl rfl (by kernel_rfl) ?_;refine qC [3,7] (by kernel_rfl) rfl ?_;refine zai ?_ ?_
  ·refine qC [7] (by kernel_rfl) rfl ?_;refine qH 8 rfl rfl rfl (by kernel_rfl) ?_;intro l1_8
   try simp only [zds] at l1_8
   refine qH 9 rfl rfl rfl (by kernel_rfl) ?_;refine zai (by first|omega|assumption|decide|(simp only [zds];omega)|(simp <;> omega)) ?_;refine qH 10 rfl rfl rfl (by kernel_rfl) ?_;refine zai (by first|omega|assumption|decide|(simp only [zds];omega)|(simp <;> omega)) ?_;refine qC [11] (by kernel_rfl) rfl ?_;refine qC [12] (by kernel_rfl) rfl ?_;refine qL (by kernel_rfl) ?_;refine qN ?_;rw [show ((sts.length : Int) - 1).toNat = sts.length - 1 by omega];exact rfl
  ·refine qH 8 rfl rfl rfl (by kernel_rfl) ?_;intro l1_8
   try simp only [zds] at l1_8
   refine qH 9 rfl rfl rfl (by kernel_rfl) ?_;refine zai (by first|omega|assumption|decide|(simp only [zds];omega)|(simp <;> omega)) ?_;refine qC [3] (by kernel_rfl) rfl ?_;refine qH 10 rfl rfl rfl (by kernel_rfl) ?_;refine zai (by first|omega|assumption|decide|(simp only [zds];omega)|(simp <;> omega)) ?_;refine qC [11] (by kernel_rfl) rfl ?_;refine qC [12] (by kernel_rfl) rfl ?_;refine qL (by kernel_rfl) ?_;refine qN ?_;rw [show ((sts.length : Int) - 1).toNat = sts.length - 1 by omega];exact rfl
set_option maxHeartbeats 8000000 in
theorem ttake2_o {f : FuncId} {β γ : Type} (S : Rd β) (y : β) (T : Rd γ) (z : γ) (sts : List TSt) (L L' : Lst) (es : List Edt) (x : Edt) (h : 0 < sts.length) (h40 : sts.length ≤ 40) (hl : sts.getD (sts.length - 1) ((([] : List Ent),(0 : Int),(0 : Int)),([] : List Edt)) = (L,es)) (he : es.length ≤ 1000) (hL : L.1.length ≤ 1000000)
    (hdo : qY Tryz.prog f [.one (.own 0 0),.one (.addr S y),.one (.addr T z)] (lsO L) 2 (.one (.lit .nilIface)) (lsO L') 2) :
    qY Tryz.prog 70 [.one (.own 0 0),.agg (toL rEdt x),.one (.clo2 f (.addr S y) (.addr T z))] (txO sts) 2 (.one (.lit .nilIface)) (txO (sts ++ [(L',es ++ [x])])) 2:=by
  have hnow:=tnow_c (k:=1) sts h;rw [hl] at hnow;have hcp:=copyL_o (k:=0) L.1 L.2.1 L.2.2 hL;refine qU (rs:=[6]) Tryz.func70 rfl rfl rfl teOk (by decide) rfl ?_;refine qD ?_;refine qB ?_;refine qD ?_;refine qR ?_;refine qD ?_;refine qB ?_;refine Or.inr (Or.inr (Or.inl ?_));refine zai rfl ?_;refine zei _ (zai (topen_c sts) ?_);refine qM rfl (fun h10=>?_) (fun h10=>?_)
  ·try simp only [decide_eq_false_iff_not,Bool.not_eq_true'] at h10
   try simp only [zds] at h10
   exfalso
   simp at h10;have h9 : sts.length = 0:=(by rw [h10];rfl);omega
  ·try simp only [decide_eq_true_eq,Bool.not_eq_false'] at h10
   try simp only [zds] at h10
   refine qD ?_;refine qB ?_;refine Or.inr (Or.inr (Or.inl ?_));refine zai rfl ?_;refine zei _ (zai (tmark_c sts h) ?_);refine qM rfl (fun h15=>?_) (fun h15=>?_)
   ·try simp only [decide_eq_true_eq] at h15
    try simp only [zds] at h15
    exfalso
    omega
   ·try simp only [decide_eq_false_iff_not,Int.not_le] at h15
    try simp only [zds] at h15
    refine qO ?_;refine qD ?_;refine qB ?_;refine Or.inr (Or.inr (Or.inl ?_));refine zai rfl ?_;refine zei _ (zai (hnow) ?_);refine acode_cut (fun (u : Unit)=>True) (fun (u : Unit)=>[(0,.one (.own 0 0)),(2,.one (.clo2 f (.addr S y) (.addr T z))),(8,.one (.own 7 0))]) (fun (u : Unit)=>[(0,.box 123 [.vec 1]),(1,.vec 120 rSt sts),(3,.vec 138 rEnt L.1),(4,.box 134 [.vec 3,.lit (.int .i64 L.2.1),.lit (.int .i64 L.2.2)]),(6,.vec 31 rEdt (es ++ [x])),(7,.box 120 [.own 4 0,.vec 6])]) 8 ?_ ?_
    ·refine yL rfl ?_;refine qH 0 rfl rfl rfl (by kernel_rfl) ?_;refine qH 4 rfl rfl rfl (by kernel_rfl) ?_;refine qH 5 rfl rfl rfl (by kernel_rfl) ?_;refine qH 6 rfl rfl rfl (by kernel_rfl) ?_;intro l6_6;refine qH 7 rfl rfl rfl (by kernel_rfl) ?_;refine qH 8 rfl rfl rfl (by kernel_rfl) ?_;intro l6_8;refine qH 9 rfl rfl rfl (by kernel_rfl) ?_;refine zai (by first|omega|assumption|decide|(simp only [zds];omega)|(simp <;> omega)) ?_;refine qC [1,10,14] (by kernel_rfl) rfl ?_;refine zai ?_ ?_
     ·refine Or.inr (Or.inr (Or.inl ?_));refine zai rfl ?_;refine zei _ (zai (hnow) ?_);refine qH 2 rfl rfl rfl (by kernel_rfl) ?_;refine qC [3,10,14] (by kernel_rfl) rfl ?_;refine zai ?_ ?_
      ·refine Or.inr (Or.inl (zei [] (zei [] (zei _ (zei _ (zei _ (zei _ (zei _ (zai (hcp) (zai rfl (zai True.intro (zai rfl ?_))))))))))));refine qC [10,14] (by kernel_rfl) rfl ?_;refine zai ?_ ?_
       ·refine qC [11,14] (by kernel_rfl) rfl ?_;refine zai ?_ ?_
        ·refine qC [12,14] (by kernel_rfl) rfl ?_;refine zai ?_ ?_
         ·refine zai (by exact ⟨Nat.one_pos,qQ (show (es.take (es.length : Int).toNat).length + 1 ≤ 1000000000 by rw [List.length_take];omega) (by decide)⟩) ?_;refine qC [13,14] (by kernel_rfl) rfl ?_;refine zai ?_ ?_
          ·refine qC [14] (by kernel_rfl) rfl ?_;refine qC [15] (by kernel_rfl) rfl ?_;refine qL (by kernel_rfl) ?_;exact ⟨(),trivial,qP ⟨rfl,rfl,rfl⟩ ⟨rfl,rfl,rfl,rfl,(qS (by rw [Int.toNat_natCast,List.take_length];exact rfl)),rfl⟩ rfl⟩
          ·refine qC [13] (by kernel_rfl) rfl ?_;refine qC [15] (by kernel_rfl) rfl ?_;refine qL (by kernel_rfl) ?_;exact ⟨(),trivial,qP ⟨rfl,rfl,rfl⟩ ⟨rfl,rfl,rfl,rfl,(qS (by rw [Int.toNat_natCast,List.take_length];exact rfl)),rfl⟩ rfl⟩
         ·refine qC [12] (by kernel_rfl) rfl ?_;refine zai (by exact ⟨Nat.one_pos,qQ (show (es.take (es.length : Int).toNat).length + 1 ≤ 1000000000 by rw [List.length_take];omega) (by decide)⟩) ?_;refine qC [13] (by kernel_rfl) rfl ?_;refine qC [15] (by kernel_rfl) rfl ?_;refine qK 6 7 rfl rfl rfl rfl ?_;refine qL (by kernel_rfl) ?_;exact ⟨(),trivial,qP ⟨rfl,rfl,rfl⟩ ⟨rfl,rfl,rfl,rfl,(qS (by rw [Int.toNat_natCast,List.take_length];exact rfl)),rfl⟩ rfl⟩
        ·refine qC [11] (by kernel_rfl) rfl ?_;refine qC [12] (by kernel_rfl) rfl ?_;refine zai (by exact ⟨Nat.one_pos,qQ (show (es.take (es.length : Int).toNat).length + 1 ≤ 1000000000 by rw [List.length_take];omega) (by decide)⟩) ?_;refine qC [13] (by kernel_rfl) rfl ?_;refine qC [15] (by kernel_rfl) rfl ?_;refine qK 5 6 rfl rfl rfl rfl ?_;refine qK 6 7 rfl rfl rfl rfl ?_;refine qL (by kernel_rfl) ?_;exact ⟨(),trivial,qP ⟨rfl,rfl,rfl⟩ ⟨rfl,rfl,rfl,rfl,(qS (by rw [Int.toNat_natCast,List.take_length];exact rfl)),rfl⟩ rfl⟩
       ·refine qC [10] (by kernel_rfl) rfl ?_;refine qC [11] (by kernel_rfl) rfl ?_;refine qC [12] (by kernel_rfl) rfl ?_;refine zai (by exact ⟨Nat.one_pos,qQ (show (es.take (es.length : Int).toNat).length + 1 ≤ 1000000000 by rw [List.length_take];omega) (by decide)⟩) ?_;refine qC [13] (by kernel_rfl) rfl ?_;refine qC [15] (by kernel_rfl) rfl ?_;refine qK 5 6 rfl rfl rfl rfl ?_;refine qK 6 7 rfl rfl rfl rfl ?_;refine qL (by kernel_rfl) ?_;exact ⟨(),trivial,qP ⟨rfl,rfl,rfl⟩ ⟨rfl,rfl,rfl,rfl,(qS (by rw [Int.toNat_natCast,List.take_length];exact rfl)),rfl⟩ rfl⟩
      refine zai ?_ ?_
      ·refine qC [3,11,14] (by kernel_rfl) rfl ?_;refine zai ?_ ?_
       ·refine Or.inr (Or.inl (zei [] (zei [] (zei _ (zei _ (zei _ (zei _ (zei _ (zai (hcp) (zai rfl (zai True.intro (zai rfl ?_))))))))))));refine qC [11,14] (by kernel_rfl) rfl ?_;refine zai ?_ ?_
        ·refine qC [12,14] (by kernel_rfl) rfl ?_;refine zai ?_ ?_
         ·refine zai (by exact ⟨Nat.one_pos,qQ (show (es.take (es.length : Int).toNat).length + 1 ≤ 1000000000 by rw [List.length_take];omega) (by decide)⟩) ?_;refine qC [13,14] (by kernel_rfl) rfl ?_;refine zai ?_ ?_
          ·refine qC [14] (by kernel_rfl) rfl ?_;refine qC [15] (by kernel_rfl) rfl ?_;refine qL (by kernel_rfl) ?_;exact ⟨(),trivial,qP ⟨rfl,rfl,rfl⟩ ⟨rfl,rfl,rfl,rfl,(qS (by rw [Int.toNat_natCast,List.take_length];exact rfl)),rfl⟩ rfl⟩
          ·refine qC [13] (by kernel_rfl) rfl ?_;refine qC [15] (by kernel_rfl) rfl ?_;refine qL (by kernel_rfl) ?_;exact ⟨(),trivial,qP ⟨rfl,rfl,rfl⟩ ⟨rfl,rfl,rfl,rfl,(qS (by rw [Int.toNat_natCast,List.take_length];exact rfl)),rfl⟩ rfl⟩
         ·refine qC [12] (by kernel_rfl) rfl ?_;refine zai (by exact ⟨Nat.one_pos,qQ (show (es.take (es.length : Int).toNat).length + 1 ≤ 1000000000 by rw [List.length_take];omega) (by decide)⟩) ?_;refine qC [13] (by kernel_rfl) rfl ?_;refine qC [15] (by kernel_rfl) rfl ?_;refine qK 6 7 rfl rfl rfl rfl ?_;refine qL (by kernel_rfl) ?_;exact ⟨(),trivial,qP ⟨rfl,rfl,rfl⟩ ⟨rfl,rfl,rfl,rfl,(qS (by rw [Int.toNat_natCast,List.take_length];exact rfl)),rfl⟩ rfl⟩
        ·refine qC [11] (by kernel_rfl) rfl ?_;refine qC [12] (by kernel_rfl) rfl ?_;refine zai (by exact ⟨Nat.one_pos,qQ (show (es.take (es.length : Int).toNat).length + 1 ≤ 1000000000 by rw [List.length_take];omega) (by decide)⟩) ?_;refine qC [13] (by kernel_rfl) rfl ?_;refine qC [15] (by kernel_rfl) rfl ?_;refine qK 5 6 rfl rfl rfl rfl ?_;refine qK 6 7 rfl rfl rfl rfl ?_;refine qL (by kernel_rfl) ?_;exact ⟨(),trivial,qP ⟨rfl,rfl,rfl⟩ ⟨rfl,rfl,rfl,rfl,(qS (by rw [Int.toNat_natCast,List.take_length];exact rfl)),rfl⟩ rfl⟩
       refine zai ?_ ?_
       ·refine qC [3,14] (by kernel_rfl) rfl ?_;refine zai ?_ ?_
        ·refine Or.inr (Or.inl (zei [] (zei [] (zei _ (zei _ (zei _ (zei _ (zei _ (zai (hcp) (zai rfl (zai True.intro (zai rfl ?_))))))))))));refine qC [12,14] (by kernel_rfl) rfl ?_;refine zai ?_ ?_
         ·refine zai (by exact ⟨Nat.one_pos,qQ (show (es.take (es.length : Int).toNat).length + 1 ≤ 1000000000 by rw [List.length_take];omega) (by decide)⟩) ?_;refine qC [13,14] (by kernel_rfl) rfl ?_;refine zai ?_ ?_
          ·refine qC [14] (by kernel_rfl) rfl ?_;refine qC [15] (by kernel_rfl) rfl ?_;refine qK 3 4 rfl rfl rfl rfl ?_;refine qK 4 5 rfl rfl rfl rfl ?_;refine qL (by kernel_rfl) ?_;exact ⟨(),trivial,qP ⟨rfl,rfl,rfl⟩ ⟨rfl,rfl,rfl,rfl,(qS (by rw [Int.toNat_natCast,List.take_length];exact rfl)),rfl⟩ rfl⟩
          ·refine qC [13] (by kernel_rfl) rfl ?_;refine qC [15] (by kernel_rfl) rfl ?_;refine qK 3 4 rfl rfl rfl rfl ?_;refine qK 4 5 rfl rfl rfl rfl ?_;refine qL (by kernel_rfl) ?_;exact ⟨(),trivial,qP ⟨rfl,rfl,rfl⟩ ⟨rfl,rfl,rfl,rfl,(qS (by rw [Int.toNat_natCast,List.take_length];exact rfl)),rfl⟩ rfl⟩
         ·refine qC [12] (by kernel_rfl) rfl ?_;refine zai (by exact ⟨Nat.one_pos,qQ (show (es.take (es.length : Int).toNat).length + 1 ≤ 1000000000 by rw [List.length_take];omega) (by decide)⟩) ?_;refine qC [13] (by kernel_rfl) rfl ?_;refine qC [15] (by kernel_rfl) rfl ?_;refine qK 3 4 rfl rfl rfl rfl ?_;refine qK 4 5 rfl rfl rfl rfl ?_;refine qK 6 7 rfl rfl rfl rfl ?_;refine qL (by kernel_rfl) ?_;exact ⟨(),trivial,qP ⟨rfl,rfl,rfl⟩ ⟨rfl,rfl,rfl,rfl,(qS (by rw [Int.toNat_natCast,List.take_length];exact rfl)),rfl⟩ rfl⟩
        ·refine qC [3] (by kernel_rfl) rfl ?_;refine Or.inr (Or.inl (zei [] (zei [] (zei _ (zei _ (zei _ (zei _ (zei _ (zai (hcp) (zai rfl (zai True.intro (zai rfl ?_))))))))))));refine qC [12] (by kernel_rfl) rfl ?_;refine zai (by exact ⟨Nat.one_pos,qQ (show (es.take (es.length : Int).toNat).length + 1 ≤ 1000000000 by rw [List.length_take];omega) (by decide)⟩) ?_;refine qC [13] (by kernel_rfl) rfl ?_;refine qC [15] (by kernel_rfl) rfl ?_;refine qK 3 5 rfl rfl rfl rfl ?_;refine qK 4 6 rfl rfl rfl rfl ?_;refine qK 6 7 rfl rfl rfl rfl ?_;refine qL (by kernel_rfl) ?_;exact ⟨(),trivial,qP ⟨rfl,rfl,rfl⟩ ⟨rfl,rfl,rfl,rfl,(qS (by rw [Int.toNat_natCast,List.take_length];exact rfl)),rfl⟩ rfl⟩
       ·refine qC [3,11] (by kernel_rfl) rfl ?_;refine zai ?_ ?_
        ·refine Or.inr (Or.inl (zei [] (zei [] (zei _ (zei _ (zei _ (zei _ (zei _ (zai (hcp) (zai rfl (zai True.intro (zai rfl ?_))))))))))));refine qC [11] (by kernel_rfl) rfl ?_;refine qC [12] (by kernel_rfl) rfl ?_;refine zai (by exact ⟨Nat.one_pos,qQ (show (es.take (es.length : Int).toNat).length + 1 ≤ 1000000000 by rw [List.length_take];omega) (by decide)⟩) ?_;refine qC [13] (by kernel_rfl) rfl ?_;refine qC [15] (by kernel_rfl) rfl ?_;refine qK 3 4 rfl rfl rfl rfl ?_;refine qK 4 5 rfl rfl rfl rfl ?_;refine qK 5 6 rfl rfl rfl rfl ?_;refine qK 6 7 rfl rfl rfl rfl ?_;refine qL (by kernel_rfl) ?_;exact ⟨(),trivial,qP ⟨rfl,rfl,rfl⟩ ⟨rfl,rfl,rfl,rfl,(qS (by rw [Int.toNat_natCast,List.take_length];exact rfl)),rfl⟩ rfl⟩
        ·refine qC [3] (by kernel_rfl) rfl ?_;refine Or.inr (Or.inl (zei [] (zei [] (zei _ (zei _ (zei _ (zei _ (zei _ (zai (hcp) (zai rfl (zai True.intro (zai rfl ?_))))))))))));refine qC [12] (by kernel_rfl) rfl ?_;refine zai (by exact ⟨Nat.one_pos,qQ (show (es.take (es.length : Int).toNat).length + 1 ≤ 1000000000 by rw [List.length_take];omega) (by decide)⟩) ?_;refine qC [13] (by kernel_rfl) rfl ?_;refine qC [15] (by kernel_rfl) rfl ?_;refine qK 3 5 rfl rfl rfl rfl ?_;refine qK 4 6 rfl rfl rfl rfl ?_;refine qK 5 6 rfl rfl rfl rfl ?_;refine qK 6 7 rfl rfl rfl rfl ?_;refine qL (by kernel_rfl) ?_;exact ⟨(),trivial,qP ⟨rfl,rfl,rfl⟩ ⟨rfl,rfl,rfl,rfl,(qS (by rw [Int.toNat_natCast,List.take_length];exact rfl)),rfl⟩ rfl⟩
      ·refine qC [3,10] (by kernel_rfl) rfl ?_;refine zai ?_ ?_
       ·refine Or.inr (Or.inl (zei [] (zei [] (zei _ (zei _ (zei _ (zei _ (zei _ (zai (hcp) (zai rfl (zai True.intro (zai rfl ?_))))))))))));refine qC [10] (by kernel_rfl) rfl ?_;refine qC [11] (by kernel_rfl) rfl ?_;refine qC [12] (by kernel_rfl) rfl ?_;refine zai (by exact ⟨Nat.one_pos,qQ (show (es.take (es.length : Int).toNat).length + 1 ≤ 1000000000 by rw [List.length_take];omega) (by decide)⟩) ?_;refine qC [13] (by kernel_rfl) rfl ?_;refine qC [15] (by kernel_rfl) rfl ?_;refine qK 3 4 rfl rfl rfl rfl ?_;refine qK 4 5 rfl rfl rfl rfl ?_;refine qK 5 6 rfl rfl rfl rfl ?_;refine qK 6 7 rfl rfl rfl rfl ?_;refine qL (by kernel_rfl) ?_;exact ⟨(),trivial,qP ⟨rfl,rfl,rfl⟩ ⟨rfl,rfl,rfl,rfl,(qS (by rw [Int.toNat_natCast,List.take_length];exact rfl)),rfl⟩ rfl⟩
       ·refine qC [3,11] (by kernel_rfl) rfl ?_;refine zai ?_ ?_
        ·refine Or.inr (Or.inl (zei [] (zei [] (zei _ (zei _ (zei _ (zei _ (zei _ (zai (hcp) (zai rfl (zai True.intro (zai rfl ?_))))))))))));refine qC [11] (by kernel_rfl) rfl ?_;refine qC [12] (by kernel_rfl) rfl ?_;refine zai (by exact ⟨Nat.one_pos,qQ (show (es.take (es.length : Int).toNat).length + 1 ≤ 1000000000 by rw [List.length_take];omega) (by decide)⟩) ?_;refine qC [13] (by kernel_rfl) rfl ?_;refine qC [15] (by kernel_rfl) rfl ?_;refine qK 3 4 rfl rfl rfl rfl ?_;refine qK 4 5 rfl rfl rfl rfl ?_;refine qK 5 6 rfl rfl rfl rfl ?_;refine qK 6 7 rfl rfl rfl rfl ?_;refine qL (by kernel_rfl) ?_;exact ⟨(),trivial,qP ⟨rfl,rfl,rfl⟩ ⟨rfl,rfl,rfl,rfl,(qS (by rw [Int.toNat_natCast,List.take_length];exact rfl)),rfl⟩ rfl⟩
        ·refine qC [3] (by kernel_rfl) rfl ?_;refine Or.inr (Or.inl (zei [] (zei [] (zei _ (zei _ (zei _ (zei _ (zei _ (zai (hcp) (zai rfl (zai True.intro (zai rfl ?_))))))))))));refine qC [12] (by kernel_rfl) rfl ?_;refine zai (by exact ⟨Nat.one_pos,qQ (show (es.take (es.length : Int).toNat).length + 1 ≤ 1000000000 by rw [List.length_take];omega) (by decide)⟩) ?_;refine qC [13] (by kernel_rfl) rfl ?_;refine qC [15] (by kernel_rfl) rfl ?_;refine qK 3 5 rfl rfl rfl rfl ?_;refine qK 4 6 rfl rfl rfl rfl ?_;refine qK 5 6 rfl rfl rfl rfl ?_;refine qK 6 7 rfl rfl rfl rfl ?_;refine qL (by kernel_rfl) ?_;exact ⟨(),trivial,qP ⟨rfl,rfl,rfl⟩ ⟨rfl,rfl,rfl,rfl,(qS (by rw [Int.toNat_natCast,List.take_length];exact rfl)),rfl⟩ rfl⟩
     refine zai ?_ ?_
     ·refine qC [1,11,14] (by kernel_rfl) rfl ?_;refine zai ?_ ?_
      ·refine Or.inr (Or.inr (Or.inl ?_));refine zai rfl ?_;refine zei _ (zai (hnow) ?_);refine qH 2 rfl rfl rfl (by kernel_rfl) ?_;refine qC [3,11,14] (by kernel_rfl) rfl ?_;refine zai ?_ ?_
       ·refine Or.inr (Or.inl (zei [] (zei [] (zei _ (zei _ (zei _ (zei _ (zei _ (zai (hcp) (zai rfl (zai True.intro (zai rfl ?_))))))))))));refine qC [11,14] (by kernel_rfl) rfl ?_;refine zai ?_ ?_
        ·refine qC [12,14] (by kernel_rfl) rfl ?_;refine zai ?_ ?_
         ·refine zai (by exact ⟨Nat.one_pos,qQ (show (es.take (es.length : Int).toNat).length + 1 ≤ 1000000000 by rw [List.length_take];omega) (by decide)⟩) ?_;refine qC [13,14] (by kernel_rfl) rfl ?_;refine zai ?_ ?_
          ·refine qC [14] (by kernel_rfl) rfl ?_;refine qC [15] (by kernel_rfl) rfl ?_;refine qL (by kernel_rfl) ?_;exact ⟨(),trivial,qP ⟨rfl,rfl,rfl⟩ ⟨rfl,rfl,rfl,rfl,(qS (by rw [Int.toNat_natCast,List.take_length];exact rfl)),rfl⟩ rfl⟩
          ·refine qC [13] (by kernel_rfl) rfl ?_;refine qC [15] (by kernel_rfl) rfl ?_;refine qL (by kernel_rfl) ?_;exact ⟨(),trivial,qP ⟨rfl,rfl,rfl⟩ ⟨rfl,rfl,rfl,rfl,(qS (by rw [Int.toNat_natCast,List.take_length];exact rfl)),rfl⟩ rfl⟩
         ·refine qC [12] (by kernel_rfl) rfl ?_;refine zai (by exact ⟨Nat.one_pos,qQ (show (es.take (es.length : Int).toNat).length + 1 ≤ 1000000000 by rw [List.length_take];omega) (by decide)⟩) ?_;refine qC [13] (by kernel_rfl) rfl ?_;refine qC [15] (by kernel_rfl) rfl ?_;refine qK 6 7 rfl rfl rfl rfl ?_;refine qL (by kernel_rfl) ?_;exact ⟨(),trivial,qP ⟨rfl,rfl,rfl⟩ ⟨rfl,rfl,rfl,rfl,(qS (by rw [Int.toNat_natCast,List.take_length];exact rfl)),rfl⟩ rfl⟩
        ·refine qC [11] (by kernel_rfl) rfl ?_;refine qC [12] (by kernel_rfl) rfl ?_;refine zai (by exact ⟨Nat.one_pos,qQ (show (es.take (es.length : Int).toNat).length + 1 ≤ 1000000000 by rw [List.length_take];omega) (by decide)⟩) ?_;refine qC [13] (by kernel_rfl) rfl ?_;refine qC [15] (by kernel_rfl) rfl ?_;refine qK 5 6 rfl rfl rfl rfl ?_;refine qK 6 7 rfl rfl rfl rfl ?_;refine qL (by kernel_rfl) ?_;exact ⟨(),trivial,qP ⟨rfl,rfl,rfl⟩ ⟨rfl,rfl,rfl,rfl,(qS (by rw [Int.toNat_natCast,List.take_length];exact rfl)),rfl⟩ rfl⟩
       refine zai ?_ ?_
       ·refine qC [3,14] (by kernel_rfl) rfl ?_;refine zai ?_ ?_
        ·refine Or.inr (Or.inl (zei [] (zei [] (zei _ (zei _ (zei _ (zei _ (zei _ (zai (hcp) (zai rfl (zai True.intro (zai rfl ?_))))))))))));refine qC [12,14] (by kernel_rfl) rfl ?_;refine zai ?_ ?_
         ·refine zai (by exact ⟨Nat.one_pos,qQ (show (es.take (es.length : Int).toNat).length + 1 ≤ 1000000000 by rw [List.length_take];omega) (by decide)⟩) ?_;refine qC [13,14] (by kernel_rfl) rfl ?_;refine zai ?_ ?_
          ·refine qC [14] (by kernel_rfl) rfl ?_;refine qC [15] (by kernel_rfl) rfl ?_;refine qK 3 4 rfl rfl rfl rfl ?_;refine qK 4 5 rfl rfl rfl rfl ?_;refine qL (by kernel_rfl) ?_;exact ⟨(),trivial,qP ⟨rfl,rfl,rfl⟩ ⟨rfl,rfl,rfl,rfl,(qS (by rw [Int.toNat_natCast,List.take_length];exact rfl)),rfl⟩ rfl⟩
          ·refine qC [13] (by kernel_rfl) rfl ?_;refine qC [15] (by kernel_rfl) rfl ?_;refine qK 3 4 rfl rfl rfl rfl ?_;refine qK 4 5 rfl rfl rfl rfl ?_;refine qL (by kernel_rfl) ?_;exact ⟨(),trivial,qP ⟨rfl,rfl,rfl⟩ ⟨rfl,rfl,rfl,rfl,(qS (by rw [Int.toNat_natCast,List.take_length];exact rfl)),rfl⟩ rfl⟩
         ·refine qC [12] (by kernel_rfl) rfl ?_;refine zai (by exact ⟨Nat.one_pos,qQ (show (es.take (es.length : Int).toNat).length + 1 ≤ 1000000000 by rw [List.length_take];omega) (by decide)⟩) ?_;refine qC [13] (by kernel_rfl) rfl ?_;refine qC [15] (by kernel_rfl) rfl ?_;refine qK 3 4 rfl rfl rfl rfl ?_;refine qK 4 5 rfl rfl rfl rfl ?_;refine qK 6 7 rfl rfl rfl rfl ?_;refine qL (by kernel_rfl) ?_;exact ⟨(),trivial,qP ⟨rfl,rfl,rfl⟩ ⟨rfl,rfl,rfl,rfl,(qS (by rw [Int.toNat_natCast,List.take_length];exact rfl)),rfl⟩ rfl⟩
        ·refine qC [3] (by kernel_rfl) rfl ?_;refine Or.inr (Or.inl (zei [] (zei [] (zei _ (zei _ (zei _ (zei _ (zei _ (zai (hcp) (zai rfl (zai True.intro (zai rfl ?_))))))))))));refine qC [12] (by kernel_rfl) rfl ?_;refine zai (by exact ⟨Nat.one_pos,qQ (show (es.take (es.length : Int).toNat).length + 1 ≤ 1000000000 by rw [List.length_take];omega) (by decide)⟩) ?_;refine qC [13] (by kernel_rfl) rfl ?_;refine qC [15] (by kernel_rfl) rfl ?_;refine qK 3 5 rfl rfl rfl rfl ?_;refine qK 4 6 rfl rfl rfl rfl ?_;refine qK 6 7 rfl rfl rfl rfl ?_;refine qL (by kernel_rfl) ?_;exact ⟨(),trivial,qP ⟨rfl,rfl,rfl⟩ ⟨rfl,rfl,rfl,rfl,(qS (by rw [Int.toNat_natCast,List.take_length];exact rfl)),rfl⟩ rfl⟩
       ·refine qC [3,11] (by kernel_rfl) rfl ?_;refine zai ?_ ?_
        ·refine Or.inr (Or.inl (zei [] (zei [] (zei _ (zei _ (zei _ (zei _ (zei _ (zai (hcp) (zai rfl (zai True.intro (zai rfl ?_))))))))))));refine qC [11] (by kernel_rfl) rfl ?_;refine qC [12] (by kernel_rfl) rfl ?_;refine zai (by exact ⟨Nat.one_pos,qQ (show (es.take (es.length : Int).toNat).length + 1 ≤ 1000000000 by rw [List.length_take];omega) (by decide)⟩) ?_;refine qC [13] (by kernel_rfl) rfl ?_;refine qC [15] (by kernel_rfl) rfl ?_;refine qK 3 4 rfl rfl rfl rfl ?_;refine qK 4 5 rfl rfl rfl rfl ?_;refine qK 5 6 rfl rfl rfl rfl ?_;refine qK 6 7 rfl rfl rfl rfl ?_;refine qL (by kernel_rfl) ?_;exact ⟨(),trivial,qP ⟨rfl,rfl,rfl⟩ ⟨rfl,rfl,rfl,rfl,(qS (by rw [Int.toNat_natCast,List.take_length];exact rfl)),rfl⟩ rfl⟩
        ·refine qC [3] (by kernel_rfl) rfl ?_;refine Or.inr (Or.inl (zei [] (zei [] (zei _ (zei _ (zei _ (zei _ (zei _ (zai (hcp) (zai rfl (zai True.intro (zai rfl ?_))))))))))));refine qC [12] (by kernel_rfl) rfl ?_;refine zai (by exact ⟨Nat.one_pos,qQ (show (es.take (es.length : Int).toNat).length + 1 ≤ 1000000000 by rw [List.length_take];omega) (by decide)⟩) ?_;refine qC [13] (by kernel_rfl) rfl ?_;refine qC [15] (by kernel_rfl) rfl ?_;refine qK 3 5 rfl rfl rfl rfl ?_;refine qK 4 6 rfl rfl rfl rfl ?_;refine qK 5 6 rfl rfl rfl rfl ?_;refine qK 6 7 rfl rfl rfl rfl ?_;refine qL (by kernel_rfl) ?_;exact ⟨(),trivial,qP ⟨rfl,rfl,rfl⟩ ⟨rfl,rfl,rfl,rfl,(qS (by rw [Int.toNat_natCast,List.take_length];exact rfl)),rfl⟩ rfl⟩
      refine zai ?_ ?_
      ·refine qC [1,14] (by kernel_rfl) rfl ?_;refine zai ?_ ?_
       ·refine Or.inr (Or.inr (Or.inl ?_));refine zai rfl ?_;refine zei _ (zai (hnow) ?_);refine qH 2 rfl rfl rfl (by kernel_rfl) ?_;refine qC [3,14] (by kernel_rfl) rfl ?_;refine zai ?_ ?_
        ·refine Or.inr (Or.inl (zei [] (zei [] (zei _ (zei _ (zei _ (zei _ (zei _ (zai (hcp) (zai rfl (zai True.intro (zai rfl ?_))))))))))));refine qC [12,14] (by kernel_rfl) rfl ?_;refine zai ?_ ?_
         ·refine zai (by exact ⟨Nat.one_pos,qQ (show (es.take (es.length : Int).toNat).length + 1 ≤ 1000000000 by rw [List.length_take];omega) (by decide)⟩) ?_;refine qC [13,14] (by kernel_rfl) rfl ?_;refine zai ?_ ?_
          ·refine qC [14] (by kernel_rfl) rfl ?_;refine qC [15] (by kernel_rfl) rfl ?_;refine qK 3 4 rfl rfl rfl rfl ?_;refine qK 4 5 rfl rfl rfl rfl ?_;refine qL (by kernel_rfl) ?_;exact ⟨(),trivial,qP ⟨rfl,rfl,rfl⟩ ⟨rfl,rfl,rfl,rfl,(qS (by rw [Int.toNat_natCast,List.take_length];exact rfl)),rfl⟩ rfl⟩
          ·refine qC [13] (by kernel_rfl) rfl ?_;refine qC [15] (by kernel_rfl) rfl ?_;refine qK 3 4 rfl rfl rfl rfl ?_;refine qK 4 5 rfl rfl rfl rfl ?_;refine qL (by kernel_rfl) ?_;exact ⟨(),trivial,qP ⟨rfl,rfl,rfl⟩ ⟨rfl,rfl,rfl,rfl,(qS (by rw [Int.toNat_natCast,List.take_length];exact rfl)),rfl⟩ rfl⟩
         ·refine qC [12] (by kernel_rfl) rfl ?_;refine zai (by exact ⟨Nat.one_pos,qQ (show (es.take (es.length : Int).toNat).length + 1 ≤ 1000000000 by rw [List.length_take];omega) (by decide)⟩) ?_;refine qC [13] (by kernel_rfl) rfl ?_;refine qC [15] (by kernel_rfl) rfl ?_;refine qK 3 4 rfl rfl rfl rfl ?_;refine qK 4 5 rfl rfl rfl rfl ?_;refine qK 6 7 rfl rfl rfl rfl ?_;refine qL (by kernel_rfl) ?_;exact ⟨(),trivial,qP ⟨rfl,rfl,rfl⟩ ⟨rfl,rfl,rfl,rfl,(qS (by rw [Int.toNat_natCast,List.take_length];exact rfl)),rfl⟩ rfl⟩
        ·refine qC [3] (by kernel_rfl) rfl ?_;refine Or.inr (Or.inl (zei [] (zei [] (zei _ (zei _ (zei _ (zei _ (zei _ (zai (hcp) (zai rfl (zai True.intro (zai rfl ?_))))))))))));refine qC [12] (by kernel_rfl) rfl ?_;refine zai (by exact ⟨Nat.one_pos,qQ (show (es.take (es.length : Int).toNat).length + 1 ≤ 1000000000 by rw [List.length_take];omega) (by decide)⟩) ?_;refine qC [13] (by kernel_rfl) rfl ?_;refine qC [15] (by kernel_rfl) rfl ?_;refine qK 3 5 rfl rfl rfl rfl ?_;refine qK 4 6 rfl rfl rfl rfl ?_;refine qK 6 7 rfl rfl rfl rfl ?_;refine qL (by kernel_rfl) ?_;exact ⟨(),trivial,qP ⟨rfl,rfl,rfl⟩ ⟨rfl,rfl,rfl,rfl,(qS (by rw [Int.toNat_natCast,List.take_length];exact rfl)),rfl⟩ rfl⟩
       ·refine qC [1] (by kernel_rfl) rfl ?_;refine Or.inr (Or.inr (Or.inl ?_));refine zai rfl ?_;refine zei _ (zai (hnow) ?_);refine qH 2 rfl rfl rfl (by kernel_rfl) ?_;refine qC [3] (by kernel_rfl) rfl ?_;refine Or.inr (Or.inl (zei [] (zei [] (zei _ (zei _ (zei _ (zei _ (zei _ (zai (hcp) (zai rfl (zai True.intro (zai rfl ?_))))))))))));refine qC [12] (by kernel_rfl) rfl ?_;refine zai (by exact ⟨Nat.one_pos,qQ (show (es.take (es.length : Int).toNat).length + 1 ≤ 1000000000 by rw [List.length_take];omega) (by decide)⟩) ?_;refine qC [13] (by kernel_rfl) rfl ?_;refine qC [15] (by kernel_rfl) rfl ?_;refine qK 3 5 rfl rfl rfl rfl ?_;refine qK 4 6 rfl rfl rfl rfl ?_;refine qK 6 7 rfl rfl rfl rfl ?_;refine qL (by kernel_rfl) ?_;exact ⟨(),trivial,qP ⟨rfl,rfl,rfl⟩ ⟨rfl,rfl,rfl,rfl,(qS (by rw [Int.toNat_natCast,List.take_length];exact rfl)),rfl⟩ rfl⟩
      ·refine qC [1,11] (by kernel_rfl) rfl ?_;refine zai ?_ ?_
       ·refine Or.inr (Or.inr (Or.inl ?_));refine zai rfl ?_;refine zei _ (zai (hnow) ?_);refine qH 2 rfl rfl rfl (by kernel_rfl) ?_;refine qC [3,11] (by kernel_rfl) rfl ?_;refine zai ?_ ?_
        ·refine Or.inr (Or.inl (zei [] (zei [] (zei _ (zei _ (zei _ (zei _ (zei _ (zai (hcp) (zai rfl (zai True.intro (zai rfl ?_))))))))))));refine qC [11] (by kernel_rfl) rfl ?_;refine qC [12] (by kernel_rfl) rfl ?_;refine zai (by exact ⟨Nat.one_pos,qQ (show (es.take (es.length : Int).toNat).length + 1 ≤ 1000000000 by rw [List.length_take];omega) (by decide)⟩) ?_;refine qC [13] (by kernel_rfl) rfl ?_;refine qC [15] (by kernel_rfl) rfl ?_;refine qK 3 4 rfl rfl rfl rfl ?_;refine qK 4 5 rfl rfl rfl rfl ?_;refine qK 5 6 rfl rfl rfl rfl ?_;refine qK 6 7 rfl rfl rfl rfl ?_;refine qL (by kernel_rfl) ?_;exact ⟨(),trivial,qP ⟨rfl,rfl,rfl⟩ ⟨rfl,rfl,rfl,rfl,(qS (by rw [Int.toNat_natCast,List.take_length];exact rfl)),rfl⟩ rfl⟩
        ·refine qC [3] (by kernel_rfl) rfl ?_;refine Or.inr (Or.inl (zei [] (zei [] (zei _ (zei _ (zei _ (zei _ (zei _ (zai (hcp) (zai rfl (zai True.intro (zai rfl ?_))))))))))));refine qC [12] (by kernel_rfl) rfl ?_;refine zai (by exact ⟨Nat.one_pos,qQ (show (es.take (es.length : Int).toNat).length + 1 ≤ 1000000000 by rw [List.length_take];omega) (by decide)⟩) ?_;refine qC [13] (by kernel_rfl) rfl ?_;refine qC [15] (by kernel_rfl) rfl ?_;refine qK 3 5 rfl rfl rfl rfl ?_;refine qK 4 6 rfl rfl rfl rfl ?_;refine qK 5 6 rfl rfl rfl rfl ?_;refine qK 6 7 rfl rfl rfl rfl ?_;refine qL (by kernel_rfl) ?_;exact ⟨(),trivial,qP ⟨rfl,rfl,rfl⟩ ⟨rfl,rfl,rfl,rfl,(qS (by rw [Int.toNat_natCast,List.take_length];exact rfl)),rfl⟩ rfl⟩
       ·refine qC [1] (by kernel_rfl) rfl ?_;refine Or.inr (Or.inr (Or.inl ?_));refine zai rfl ?_;refine zei _ (zai (hnow) ?_);refine qH 2 rfl rfl rfl (by kernel_rfl) ?_;refine qC [3] (by kernel_rfl) rfl ?_;refine Or.inr (Or.inl (zei [] (zei [] (zei _ (zei _ (zei _ (zei _ (zei _ (zai (hcp) (zai rfl (zai True.intro (zai rfl ?_))))))))))));refine qC [12] (by kernel_rfl) rfl ?_;refine zai (by exact ⟨Nat.one_pos,qQ (show (es.take (es.length : Int).toNat).length + 1 ≤ 1000000000 by rw [List.length_take];omega) (by decide)⟩) ?_;refine qC [13] (by kernel_rfl) rfl ?_;refine qC [15] (by kernel_rfl) rfl ?_;refine qK 3 5 rfl rfl rfl rfl ?_;refine qK 4 6 rfl rfl rfl rfl ?_;refine qK 5 6 rfl rfl rfl rfl ?_;refine qK 6 7 rfl rfl rfl rfl ?_;refine qL (by kernel_rfl) ?_;exact ⟨(),trivial,qP ⟨rfl,rfl,rfl⟩ ⟨rfl,rfl,rfl,rfl,(qS (by rw [Int.toNat_natCast,List.take_length];exact rfl)),rfl⟩ rfl⟩
     ·refine qC [1,10] (by kernel_rfl) rfl ?_;refine zai ?_ ?_
      ·refine Or.inr (Or.inr (Or.inl ?_));refine zai rfl ?_;refine zei _ (zai (hnow) ?_);refine qH 2 rfl rfl rfl (by kernel_rfl) ?_;refine qC [3,10] (by kernel_rfl) rfl ?_;refine zai ?_ ?_
       ·refine Or.inr (Or.inl (zei [] (zei [] (zei _ (zei _ (zei _ (zei _ (zei _ (zai (hcp) (zai rfl (zai True.intro (zai rfl ?_))))))))))));refine qC [10] (by kernel_rfl) rfl ?_;refine qC [11] (by kernel_rfl) rfl ?_;refine qC [12] (by kernel_rfl) rfl ?_;refine zai (by exact ⟨Nat.one_pos,qQ (show (es.take (es.length : Int).toNat).length + 1 ≤ 1000000000 by rw [List.length_take];omega) (by decide)⟩) ?_;refine qC [13] (by kernel_rfl) rfl ?_;refine qC [15] (by kernel_rfl) rfl ?_;refine qK 3 4 rfl rfl rfl rfl ?_;refine qK 4 5 rfl rfl rfl rfl ?_;refine qK 5 6 rfl rfl rfl rfl ?_;refine qK 6 7 rfl rfl rfl rfl ?_;refine qL (by kernel_rfl) ?_;exact ⟨(),trivial,qP ⟨rfl,rfl,rfl⟩ ⟨rfl,rfl,rfl,rfl,(qS (by rw [Int.toNat_natCast,List.take_length];exact rfl)),rfl⟩ rfl⟩
       ·refine qC [3,11] (by kernel_rfl) rfl ?_;refine zai ?_ ?_
        ·refine Or.inr (Or.inl (zei [] (zei [] (zei _ (zei _ (zei _ (zei _ (zei _ (zai (hcp) (zai rfl (zai True.intro (zai rfl ?_))))))))))));refine qC [11] (by kernel_rfl) rfl ?_;refine qC [12] (by kernel_rfl) rfl ?_;refine zai (by exact ⟨Nat.one_pos,qQ (show (es.take (es.length : Int).toNat).length + 1 ≤ 1000000000 by rw [List.length_take];omega) (by decide)⟩) ?_;refine qC [13] (by kernel_rfl) rfl ?_;refine qC [15] (by kernel_rfl) rfl ?_;refine qK 3 4 rfl rfl rfl rfl ?_;refine qK 4 5 rfl rfl rfl rfl ?_;refine qK 5 6 rfl rfl rfl rfl ?_;refine qK 6 7 rfl rfl rfl rfl ?_;refine qL (by kernel_rfl) ?_;exact ⟨(),trivial,qP ⟨rfl,rfl,rfl⟩ ⟨rfl,rfl,rfl,rfl,(qS (by rw [Int.toNat_natCast,List.take_length];exact rfl)),rfl⟩ rfl⟩
        ·refine qC [3] (by kernel_rfl) rfl ?_;refine Or.inr (Or.inl (zei [] (zei [] (zei _ (zei _ (zei _ (zei _ (zei _ (zai (hcp) (zai rfl (zai True.intro (zai rfl ?_))))))))))));refine qC [12] (by kernel_rfl) rfl ?_;refine zai (by exact ⟨Nat.one_pos,qQ (show (es.take (es.length : Int).toNat).length + 1 ≤ 1000000000 by rw [List.length_take];omega) (by decide)⟩) ?_;refine qC [13] (by kernel_rfl) rfl ?_;refine qC [15] (by kernel_rfl) rfl ?_;refine qK 3 5 rfl rfl rfl rfl ?_;refine qK 4 6 rfl rfl rfl rfl ?_;refine qK 5 6 rfl rfl rfl rfl ?_;refine qK 6 7 rfl rfl rfl rfl ?_;refine qL (by kernel_rfl) ?_;exact ⟨(),trivial,qP ⟨rfl,rfl,rfl⟩ ⟨rfl,rfl,rfl,rfl,(qS (by rw [Int.toNat_natCast,List.take_length];exact rfl)),rfl⟩ rfl⟩
      ·refine qC [1,11] (by kernel_rfl) rfl ?_;refine zai ?_ ?_
       ·refine Or.inr (Or.inr (Or.inl ?_));refine zai rfl ?_;refine zei _ (zai (hnow) ?_);refine qH 2 rfl rfl rfl (by kernel_rfl) ?_;refine qC [3,11] (by kernel_rfl) rfl ?_;refine zai ?_ ?_
        ·refine Or.inr (Or.inl (zei [] (zei [] (zei _ (zei _ (zei _ (zei _ (zei _ (zai (hcp) (zai rfl (zai True.intro (zai rfl ?_))))))))))));refine qC [11] (by kernel_rfl) rfl ?_;refine qC [12] (by kernel_rfl) rfl ?_;refine zai (by exact ⟨Nat.one_pos,qQ (show (es.take (es.length : Int).toNat).length + 1 ≤ 1000000000 by rw [List.length_take];omega) (by decide)⟩) ?_;refine qC [13] (by kernel_rfl) rfl ?_;refine qC [15] (by kernel_rfl) rfl ?_;refine qK 3 4 rfl rfl rfl rfl ?_;refine qK 4 5 rfl rfl rfl rfl ?_;refine qK 5 6 rfl rfl rfl rfl ?_;refine qK 6 7 rfl rfl rfl rfl ?_;refine qL (by kernel_rfl) ?_;exact ⟨(),trivial,qP ⟨rfl,rfl,rfl⟩ ⟨rfl,rfl,rfl,rfl,(qS (by rw [Int.toNat_natCast,List.take_length];exact rfl)),rfl⟩ rfl⟩
        ·refine qC [3] (by kernel_rfl) rfl ?_;refine Or.inr (Or.inl (zei [] (zei [] (zei _ (zei _ (zei _ (zei _ (zei _ (zai (hcp) (zai rfl (zai True.intro (zai rfl ?_))))))))))));refine qC [12] (by kernel_rfl) rfl ?_;refine zai (by exact ⟨Nat.one_pos,qQ (show (es.take (es.length : Int).toNat).length + 1 ≤ 1000000000 by rw [List.length_take];omega) (by decide)⟩) ?_;refine qC [13] (by kernel_rfl) rfl ?_;refine qC [15] (by kernel_rfl) rfl ?_;refine qK 3 5 rfl rfl rfl rfl ?_;refine qK 4 6 rfl rfl rfl rfl ?_;refine qK 5 6 rfl rfl rfl rfl ?_;refine qK 6 7 rfl rfl rfl rfl ?_;refine qL (by kernel_rfl) ?_;exact ⟨(),trivial,qP ⟨rfl,rfl,rfl⟩ ⟨rfl,rfl,rfl,rfl,(qS (by rw [Int.toNat_natCast,List.take_length];exact rfl)),rfl⟩ rfl⟩
       ·refine qC [1] (by kernel_rfl) rfl ?_;refine Or.inr (Or.inr (Or.inl ?_));refine zai rfl ?_;refine zei _ (zai (hnow) ?_);refine qH 2 rfl rfl rfl (by kernel_rfl) ?_;refine qC [3] (by kernel_rfl) rfl ?_;refine Or.inr (Or.inl (zei [] (zei [] (zei _ (zei _ (zei _ (zei _ (zei _ (zai (hcp) (zai rfl (zai True.intro (zai rfl ?_))))))))))));refine qC [12] (by kernel_rfl) rfl ?_;refine zai (by exact ⟨Nat.one_pos,qQ (show (es.take (es.length : Int).toNat).length + 1 ≤ 1000000000 by rw [List.length_take];omega) (by decide)⟩) ?_;refine qC [13] (by kernel_rfl) rfl ?_;refine qC [15] (by kernel_rfl) rfl ?_;refine qK 3 5 rfl rfl rfl rfl ?_;refine qK 4 6 rfl rfl rfl rfl ?_;refine qK 5 6 rfl rfl rfl rfl ?_;refine qK 6 7 rfl rfl rfl rfl ?_;refine qL (by kernel_rfl) ?_;exact ⟨(),trivial,qP ⟨rfl,rfl,rfl⟩ ⟨rfl,rfl,rfl,rfl,(qS (by rw [Int.toNat_natCast,List.take_length];exact rfl)),rfl⟩ rfl⟩
    ·intro u hcut7;refine qD ?_;refine qD ?_;refine qB ?_;refine Or.inr (Or.inl (zei [] (zei [4,3] (zei _ (zei _ (zei _ (zei _ (zei _ (zai (hdo) (zai rfl (zai (zai (zai rfl rfl) (zai (zai rfl rfl) True.intro)) (zai rfl ?_))))))))))));refine qD ?_;refine qB ?_;refine qM rfl (fun h42=>?_) (fun h42=>?_)
     ·try simp only [Bool.not_eq_true'] at h42
      try simp only [zds] at h42
      simp at h42
     ·try simp only [Bool.not_eq_false'] at h42
      try simp only [zds] at h42
      refine qO ?_;refine qD ?_;refine acode_frz [6,3,4] ?_;refine yL rfl ?_;refine qH 0 rfl rfl rfl (by kernel_rfl) ?_;refine qH 1 rfl rfl rfl (by kernel_rfl) ?_;refine qH 2 rfl rfl rfl (by kernel_rfl) ?_;refine qH 3 rfl rfl rfl (by kernel_rfl) ?_;refine qC [4,5] (by kernel_rfl) rfl ?_;refine zai ?_ ?_
      ·refine qC [5] (by kernel_rfl) rfl ?_;refine qC [6] (by kernel_rfl) rfl ?_;refine qC [7] (by kernel_rfl) rfl ?_;refine zai (by exact qQ (show sts.length + 1 ≤ 1000000000 by omega) (by decide)) ?_;refine qH 8 rfl rfl rfl (by kernel_rfl) ?_;refine qH 9 rfl rfl rfl (by kernel_rfl) ?_;refine qC [10] (by kernel_rfl) rfl ?_;refine qL (by kernel_rfl) ?_;refine qD ?_;refine qB ?_;refine qN ?_;exact ⟨rfl,⟨rfl,qS rfl⟩,rfl⟩
      ·refine qC [4,6] (by kernel_rfl) rfl ?_;refine zai ?_ ?_
       ·refine qC [6] (by kernel_rfl) rfl ?_;refine qC [7] (by kernel_rfl) rfl ?_;refine zai (by exact qQ (show sts.length + 1 ≤ 1000000000 by omega) (by decide)) ?_;refine qH 8 rfl rfl rfl (by kernel_rfl) ?_;refine qH 9 rfl rfl rfl (by kernel_rfl) ?_;refine qC [10] (by kernel_rfl) rfl ?_;refine qL (by kernel_rfl) ?_;refine qD ?_;refine qB ?_;refine qN ?_;exact ⟨rfl,⟨rfl,qS rfl⟩,rfl⟩
       ·refine qC [4] (by kernel_rfl) rfl ?_;refine qC [7] (by kernel_rfl) rfl ?_;refine zai (by exact qQ (show sts.length + 1 ≤ 1000000000 by omega) (by decide)) ?_;refine qH 8 rfl rfl rfl (by kernel_rfl) ?_;refine qH 9 rfl rfl rfl (by kernel_rfl) ?_;refine qC [10] (by kernel_rfl) rfl ?_;refine qL (by kernel_rfl) ?_;refine qD ?_;refine qB ?_;refine qN ?_;exact ⟨rfl,⟨rfl,qS rfl⟩,rfl⟩
set_option maxHeartbeats 8000000 in
theorem ttake1_o {f : FuncId} {β : Type} (S : Rd β) (y : β) (sts : List TSt) (L L' : Lst) (es : List Edt) (x : Edt) (h : 0 < sts.length) (h40 : sts.length ≤ 40) (hl : sts.getD (sts.length - 1) ((([] : List Ent),(0 : Int),(0 : Int)),([] : List Edt)) = (L,es)) (he : es.length ≤ 1000) (hL : L.1.length ≤ 1000000)
    (hdo : qY Tryz.prog f [.one (.own 0 0),.one (.addr S y)] (lsO L) 2 (.one (.lit .nilIface)) (lsO L') 2) :
    qY Tryz.prog 70 [.one (.own 0 0),.agg (toL rEdt x),.one (.clo f (.addr S y))] (txO sts) 2 (.one (.lit .nilIface)) (txO (sts ++ [(L',es ++ [x])])) 2:=by
  have hnow:=tnow_c (k:=1) sts h;rw [hl] at hnow;have hcp:=copyL_o (k:=0) L.1 L.2.1 L.2.2 hL;refine qU (rs:=[6]) Tryz.func70 rfl rfl rfl teOk (by decide) rfl ?_;refine qD ?_;refine qB ?_;refine qD ?_;refine qR ?_;refine qD ?_;refine qB ?_;refine Or.inr (Or.inr (Or.inl ?_));refine zai rfl ?_;refine zei _ (zai (topen_c sts) ?_);refine qM rfl (fun h10=>?_) (fun h10=>?_)
  ·try simp only [decide_eq_false_iff_not,Bool.not_eq_true'] at h10
   try simp only [zds] at h10
   exfalso
   simp at h10;have h9 : sts.length = 0:=(by rw [h10];rfl);omega
  ·try simp only [decide_eq_true_eq,Bool.not_eq_false'] at h10
   try simp only [zds] at h10
   refine qD ?_;refine qB ?_;refine Or.inr (Or.inr (Or.inl ?_));refine zai rfl ?_;refine zei _ (zai (tmark_c sts h) ?_);refine qM rfl (fun h15=>?_) (fun h15=>?_)
   ·try simp only [decide_eq_true_eq] at h15
    try simp only [zds] at h15
    exfalso
    omega
   ·try simp only [decide_eq_false_iff_not,Int.not_le] at h15
    try simp only [zds] at h15
    refine qO ?_;refine qD ?_;refine qB ?_;refine Or.inr (Or.inr (Or.inl ?_));refine zai rfl ?_;refine zei _ (zai (hnow) ?_);refine acode_cut (fun (u : Unit)=>True) (fun (u : Unit)=>[(0,.one (.own 0 0)),(2,.one (.clo f (.addr S y))),(8,.one (.own 7 0))]) (fun (u : Unit)=>[(0,.box 123 [.vec 1]),(1,.vec 120 rSt sts),(3,.vec 138 rEnt L.1),(4,.box 134 [.vec 3,.lit (.int .i64 L.2.1),.lit (.int .i64 L.2.2)]),(6,.vec 31 rEdt (es ++ [x])),(7,.box 120 [.own 4 0,.vec 6])]) 8 ?_ ?_
    ·refine yL rfl ?_;refine qH 0 rfl rfl rfl (by kernel_rfl) ?_;refine qH 4 rfl rfl rfl (by kernel_rfl) ?_;refine qH 5 rfl rfl rfl (by kernel_rfl) ?_;refine qH 6 rfl rfl rfl (by kernel_rfl) ?_;intro l6_6;refine qH 7 rfl rfl rfl (by kernel_rfl) ?_;refine qH 8 rfl rfl rfl (by kernel_rfl) ?_;intro l6_8;refine qH 9 rfl rfl rfl (by kernel_rfl) ?_;refine zai (by first|omega|assumption|decide|(simp only [zds];omega)|(simp <;> omega)) ?_;refine qC [1,10,14] (by kernel_rfl) rfl ?_;refine zai ?_ ?_
     ·refine Or.inr (Or.inr (Or.inl ?_));refine zai rfl ?_;refine zei _ (zai (hnow) ?_);refine qH 2 rfl rfl rfl (by kernel_rfl) ?_;refine qC [3,10,14] (by kernel_rfl) rfl ?_;refine zai ?_ ?_
      ·refine Or.inr (Or.inl (zei [] (zei [] (zei _ (zei _ (zei _ (zei _ (zei _ (zai (hcp) (zai rfl (zai True.intro (zai rfl ?_))))))))))));refine qC [10,14] (by kernel_rfl) rfl ?_;refine zai ?_ ?_
       ·refine qC [11,14] (by kernel_rfl) rfl ?_;refine zai ?_ ?_
        ·refine qC [12,14] (by kernel_rfl) rfl ?_;refine zai ?_ ?_
         ·refine zai (by exact ⟨Nat.one_pos,qQ (show (es.take (es.length : Int).toNat).length + 1 ≤ 1000000000 by rw [List.length_take];omega) (by decide)⟩) ?_;refine qC [13,14] (by kernel_rfl) rfl ?_;refine zai ?_ ?_
          ·refine qC [14] (by kernel_rfl) rfl ?_;refine qC [15] (by kernel_rfl) rfl ?_;refine qL (by kernel_rfl) ?_;exact ⟨(),trivial,qP ⟨rfl,rfl,rfl⟩ ⟨rfl,rfl,rfl,rfl,(qS (by rw [Int.toNat_natCast,List.take_length];exact rfl)),rfl⟩ rfl⟩
          ·refine qC [13] (by kernel_rfl) rfl ?_;refine qC [15] (by kernel_rfl) rfl ?_;refine qL (by kernel_rfl) ?_;exact ⟨(),trivial,qP ⟨rfl,rfl,rfl⟩ ⟨rfl,rfl,rfl,rfl,(qS (by rw [Int.toNat_natCast,List.take_length];exact rfl)),rfl⟩ rfl⟩
         ·refine qC [12] (by kernel_rfl) rfl ?_;refine zai (by exact ⟨Nat.one_pos,qQ (show (es.take (es.length : Int).toNat).length + 1 ≤ 1000000000 by rw [List.length_take];omega) (by decide)⟩) ?_;refine qC [13] (by kernel_rfl) rfl ?_;refine qC [15] (by kernel_rfl) rfl ?_;refine qK 6 7 rfl rfl rfl rfl ?_;refine qL (by kernel_rfl) ?_;exact ⟨(),trivial,qP ⟨rfl,rfl,rfl⟩ ⟨rfl,rfl,rfl,rfl,(qS (by rw [Int.toNat_natCast,List.take_length];exact rfl)),rfl⟩ rfl⟩
        ·refine qC [11] (by kernel_rfl) rfl ?_;refine qC [12] (by kernel_rfl) rfl ?_;refine zai (by exact ⟨Nat.one_pos,qQ (show (es.take (es.length : Int).toNat).length + 1 ≤ 1000000000 by rw [List.length_take];omega) (by decide)⟩) ?_;refine qC [13] (by kernel_rfl) rfl ?_;refine qC [15] (by kernel_rfl) rfl ?_;refine qK 5 6 rfl rfl rfl rfl ?_;refine qK 6 7 rfl rfl rfl rfl ?_;refine qL (by kernel_rfl) ?_;exact ⟨(),trivial,qP ⟨rfl,rfl,rfl⟩ ⟨rfl,rfl,rfl,rfl,(qS (by rw [Int.toNat_natCast,List.take_length];exact rfl)),rfl⟩ rfl⟩
       ·refine qC [10] (by kernel_rfl) rfl ?_;refine qC [11] (by kernel_rfl) rfl ?_;refine qC [12] (by kernel_rfl) rfl ?_;refine zai (by exact ⟨Nat.one_pos,qQ (show (es.take (es.length : Int).toNat).length + 1 ≤ 1000000000 by rw [List.length_take];omega) (by decide)⟩) ?_;refine qC [13] (by kernel_rfl) rfl ?_;refine qC [15] (by kernel_rfl) rfl ?_;refine qK 5 6 rfl rfl rfl rfl ?_;refine qK 6 7 rfl rfl rfl rfl ?_;refine qL (by kernel_rfl) ?_;exact ⟨(),trivial,qP ⟨rfl,rfl,rfl⟩ ⟨rfl,rfl,rfl,rfl,(qS (by rw [Int.toNat_natCast,List.take_length];exact rfl)),rfl⟩ rfl⟩
      refine zai ?_ ?_
      ·refine qC [3,11,14] (by kernel_rfl) rfl ?_;refine zai ?_ ?_
       ·refine Or.inr (Or.inl (zei [] (zei [] (zei _ (zei _ (zei _ (zei _ (zei _ (zai (hcp) (zai rfl (zai True.intro (zai rfl ?_))))))))))));refine qC [11,14] (by kernel_rfl) rfl ?_;refine zai ?_ ?_
        ·refine qC [12,14] (by kernel_rfl) rfl ?_;refine zai ?_ ?_
         ·refine zai (by exact ⟨Nat.one_pos,qQ (show (es.take (es.length : Int).toNat).length + 1 ≤ 1000000000 by rw [List.length_take];omega) (by decide)⟩) ?_;refine qC [13,14] (by kernel_rfl) rfl ?_;refine zai ?_ ?_
          ·refine qC [14] (by kernel_rfl) rfl ?_;refine qC [15] (by kernel_rfl) rfl ?_;refine qL (by kernel_rfl) ?_;exact ⟨(),trivial,qP ⟨rfl,rfl,rfl⟩ ⟨rfl,rfl,rfl,rfl,(qS (by rw [Int.toNat_natCast,List.take_length];exact rfl)),rfl⟩ rfl⟩
          ·refine qC [13] (by kernel_rfl) rfl ?_;refine qC [15] (by kernel_rfl) rfl ?_;refine qL (by kernel_rfl) ?_;exact ⟨(),trivial,qP ⟨rfl,rfl,rfl⟩ ⟨rfl,rfl,rfl,rfl,(qS (by rw [Int.toNat_natCast,List.take_length];exact rfl)),rfl⟩ rfl⟩
         ·refine qC [12] (by kernel_rfl) rfl ?_;refine zai (by exact ⟨Nat.one_pos,qQ (show (es.take (es.length : Int).toNat).length + 1 ≤ 1000000000 by rw [List.length_take];omega) (by decide)⟩) ?_;refine qC [13] (by kernel_rfl) rfl ?_;refine qC [15] (by kernel_rfl) rfl ?_;refine qK 6 7 rfl rfl rfl rfl ?_;refine qL (by kernel_rfl) ?_;exact ⟨(),trivial,qP ⟨rfl,rfl,rfl⟩ ⟨rfl,rfl,rfl,rfl,(qS (by rw [Int.toNat_natCast,List.take_length];exact rfl)),rfl⟩ rfl⟩
        ·refine qC [11] (by kernel_rfl) rfl ?_;refine qC [12] (by kernel_rfl) rfl ?_;refine zai (by exact ⟨Nat.one_pos,qQ (show (es.take (es.length : Int).toNat).length + 1 ≤ 1000000000 by rw [List.length_take];omega) (by decide)⟩) ?_;refine qC [13] (by kernel_rfl) rfl ?_;refine qC [15] (by kernel_rfl) rfl ?_;refine qK 5 6 rfl rfl rfl rfl ?_;refine qK 6 7 rfl rfl rfl rfl ?_;refine qL (by kernel_rfl) ?_;exact ⟨(),trivial,qP ⟨rfl,rfl,rfl⟩ ⟨rfl,rfl,rfl,rfl,(qS (by rw [Int.toNat_natCast,List.take_length];exact rfl)),rfl⟩ rfl⟩
       refine zai ?_ ?_
       ·refine qC [3,14] (by kernel_rfl) rfl ?_;refine zai ?_ ?_
        ·refine Or.inr (Or.inl (zei [] (zei [] (zei _ (zei _ (zei _ (zei _ (zei _ (zai (hcp) (zai rfl (zai True.intro (zai rfl ?_))))))))))));refine qC [12,14] (by kernel_rfl) rfl ?_;refine zai ?_ ?_
         ·refine zai (by exact ⟨Nat.one_pos,qQ (show (es.take (es.length : Int).toNat).length + 1 ≤ 1000000000 by rw [List.length_take];omega) (by decide)⟩) ?_;refine qC [13,14] (by kernel_rfl) rfl ?_;refine zai ?_ ?_
          ·refine qC [14] (by kernel_rfl) rfl ?_;refine qC [15] (by kernel_rfl) rfl ?_;refine qK 3 4 rfl rfl rfl rfl ?_;refine qK 4 5 rfl rfl rfl rfl ?_;refine qL (by kernel_rfl) ?_;exact ⟨(),trivial,qP ⟨rfl,rfl,rfl⟩ ⟨rfl,rfl,rfl,rfl,(qS (by rw [Int.toNat_natCast,List.take_length];exact rfl)),rfl⟩ rfl⟩
          ·refine qC [13] (by kernel_rfl) rfl ?_;refine qC [15] (by kernel_rfl) rfl ?_;refine qK 3 4 rfl rfl rfl rfl ?_;refine qK 4 5 rfl rfl rfl rfl ?_;refine qL (by kernel_rfl) ?_;exact ⟨(),trivial,qP ⟨rfl,rfl,rfl⟩ ⟨rfl,rfl,rfl,rfl,(qS (by rw [Int.toNat_natCast,List.take_length];exact rfl)),rfl⟩ rfl⟩
         ·refine qC [12] (by kernel_rfl) rfl ?_;refine zai (by exact ⟨Nat.one_pos,qQ (show (es.take (es.length : Int).toNat).length + 1 ≤ 1000000000 by rw [List.length_take];omega) (by decide)⟩) ?_;refine qC [13] (by kernel_rfl) rfl ?_;refine qC [15] (by kernel_rfl) rfl ?_;refine qK 3 4 rfl rfl rfl rfl ?_;refine qK 4 5 rfl rfl rfl rfl ?_;refine qK 6 7 rfl rfl rfl rfl ?_;refine qL (by kernel_rfl) ?_;exact ⟨(),trivial,qP ⟨rfl,rfl,rfl⟩ ⟨rfl,rfl,rfl,rfl,(qS (by rw [Int.toNat_natCast,List.take_length];exact rfl)),rfl⟩ rfl⟩
        ·refine qC [3] (by kernel_rfl) rfl ?_;refine Or.inr (Or.inl (zei [] (zei [] (zei _ (zei _ (zei _ (zei _ (zei _ (zai (hcp) (zai rfl (zai True.intro (zai rfl ?_))))))))))));refine qC [12] (by kernel_rfl) rfl ?_;refine zai (by exact ⟨Nat.one_pos,qQ (show (es.take (es.length : Int).toNat).length + 1 ≤ 1000000000 by rw [List.length_take];omega) (by decide)⟩) ?_;refine qC [13] (by kernel_rfl) rfl ?_;refine qC [15] (by kernel_rfl) rfl ?_;refine qK 3 5 rfl rfl rfl rfl ?_;refine qK 4 6 rfl rfl rfl rfl ?_;refine qK 6 7 rfl rfl rfl rfl ?_;refine qL (by kernel_rfl) ?_;exact ⟨(),trivial,qP ⟨rfl,rfl,rfl⟩ ⟨rfl,rfl,rfl,rfl,(qS (by rw [Int.toNat_natCast,List.take_length];exact rfl)),rfl⟩ rfl⟩
       ·refine qC [3,11] (by kernel_rfl) rfl ?_;refine zai ?_ ?_
        ·refine Or.inr (Or.inl (zei [] (zei [] (zei _ (zei _ (zei _ (zei _ (zei _ (zai (hcp) (zai rfl (zai True.intro (zai rfl ?_))))))))))));refine qC [11] (by kernel_rfl) rfl ?_;refine qC [12] (by kernel_rfl) rfl ?_;refine zai (by exact ⟨Nat.one_pos,qQ (show (es.take (es.length : Int).toNat).length + 1 ≤ 1000000000 by rw [List.length_take];omega) (by decide)⟩) ?_;refine qC [13] (by kernel_rfl) rfl ?_;refine qC [15] (by kernel_rfl) rfl ?_;refine qK 3 4 rfl rfl rfl rfl ?_;refine qK 4 5 rfl rfl rfl rfl ?_;refine qK 5 6 rfl rfl rfl rfl ?_;refine qK 6 7 rfl rfl rfl rfl ?_;refine qL (by kernel_rfl) ?_;exact ⟨(),trivial,qP ⟨rfl,rfl,rfl⟩ ⟨rfl,rfl,rfl,rfl,(qS (by rw [Int.toNat_natCast,List.take_length];exact rfl)),rfl⟩ rfl⟩
        ·refine qC [3] (by kernel_rfl) rfl ?_;refine Or.inr (Or.inl (zei [] (zei [] (zei _ (zei _ (zei _ (zei _ (zei _ (zai (hcp) (zai rfl (zai True.intro (zai rfl ?_))))))))))));refine qC [12] (by kernel_rfl) rfl ?_;refine zai (by exact ⟨Nat.one_pos,qQ (show (es.take (es.length : Int).toNat).length + 1 ≤ 1000000000 by rw [List.length_take];omega) (by decide)⟩) ?_;refine qC [13] (by kernel_rfl) rfl ?_;refine qC [15] (by kernel_rfl) rfl ?_;refine qK 3 5 rfl rfl rfl rfl ?_;refine qK 4 6 rfl rfl rfl rfl ?_;refine qK 5 6 rfl rfl rfl rfl ?_;refine qK 6 7 rfl rfl rfl rfl ?_;refine qL (by kernel_rfl) ?_;exact ⟨(),trivial,qP ⟨rfl,rfl,rfl⟩ ⟨rfl,rfl,rfl,rfl,(qS (by rw [Int.toNat_natCast,List.take_length];exact rfl)),rfl⟩ rfl⟩
      ·refine qC [3,10] (by kernel_rfl) rfl ?_;refine zai ?_ ?_
       ·refine Or.inr (Or.inl (zei [] (zei [] (zei _ (zei _ (zei _ (zei _ (zei _ (zai (hcp) (zai rfl (zai True.intro (zai rfl ?_))))))))))));refine qC [10] (by kernel_rfl) rfl ?_;refine qC [11] (by kernel_rfl) rfl ?_;refine qC [12] (by kernel_rfl) rfl ?_;refine zai (by exact ⟨Nat.one_pos,qQ (show (es.take (es.length : Int).toNat).length + 1 ≤ 1000000000 by rw [List.length_take];omega) (by decide)⟩) ?_;refine qC [13] (by kernel_rfl) rfl ?_;refine qC [15] (by kernel_rfl) rfl ?_;refine qK 3 4 rfl rfl rfl rfl ?_;refine qK 4 5 rfl rfl rfl rfl ?_;refine qK 5 6 rfl rfl rfl rfl ?_;refine qK 6 7 rfl rfl rfl rfl ?_;refine qL (by kernel_rfl) ?_;exact ⟨(),trivial,qP ⟨rfl,rfl,rfl⟩ ⟨rfl,rfl,rfl,rfl,(qS (by rw [Int.toNat_natCast,List.take_length];exact rfl)),rfl⟩ rfl⟩
       ·refine qC [3,11] (by kernel_rfl) rfl ?_;refine zai ?_ ?_
        ·refine Or.inr (Or.inl (zei [] (zei [] (zei _ (zei _ (zei _ (zei _ (zei _ (zai (hcp) (zai rfl (zai True.intro (zai rfl ?_))))))))))));refine qC [11] (by kernel_rfl) rfl ?_;refine qC [12] (by kernel_rfl) rfl ?_;refine zai (by exact ⟨Nat.one_pos,qQ (show (es.take (es.length : Int).toNat).length + 1 ≤ 1000000000 by rw [List.length_take];omega) (by decide)⟩) ?_;refine qC [13] (by kernel_rfl) rfl ?_;refine qC [15] (by kernel_rfl) rfl ?_;refine qK 3 4 rfl rfl rfl rfl ?_;refine qK 4 5 rfl rfl rfl rfl ?_;refine qK 5 6 rfl rfl rfl rfl ?_;refine qK 6 7 rfl rfl rfl rfl ?_;refine qL (by kernel_rfl) ?_;exact ⟨(),trivial,qP ⟨rfl,rfl,rfl⟩ ⟨rfl,rfl,rfl,rfl,(qS (by rw [Int.toNat_natCast,List.take_length];exact rfl)),rfl⟩ rfl⟩
        ·refine qC [3] (by kernel_rfl) rfl ?_;refine Or.inr (Or.inl (zei [] (zei [] (zei _ (zei _ (zei _ (zei _ (zei _ (zai (hcp) (zai rfl (zai True.intro (zai rfl ?_))))))))))));refine qC [12] (by kernel_rfl) rfl ?_;refine zai (by exact ⟨Nat.one_pos,qQ (show (es.take (es.length : Int).toNat).length + 1 ≤ 1000000000 by rw [List.length_take];omega) (by decide)⟩) ?_;refine qC [13] (by kernel_rfl) rfl ?_;refine qC [15] (by kernel_rfl) rfl ?_;refine qK 3 5 rfl rfl rfl rfl ?_;refine qK 4 6 rfl rfl rfl rfl ?_;refine qK 5 6 rfl rfl rfl rfl ?_;refine qK 6 7 rfl rfl rfl rfl ?_;refine qL (by kernel_rfl) ?_;exact ⟨(),trivial,qP ⟨rfl,rfl,rfl⟩ ⟨rfl,rfl,rfl,rfl,(qS (by rw [Int.toNat_natCast,List.take_length];exact rfl)),rfl⟩ rfl⟩
     refine zai ?_ ?_
     ·refine qC [1,11,14] (by kernel_rfl) rfl ?_;refine zai ?_ ?_
      ·refine Or.inr (Or.inr (Or.inl ?_));refine zai rfl ?_;refine zei _ (zai (hnow) ?_);refine qH 2 rfl rfl rfl (by kernel_rfl) ?_;refine qC [3,11,14] (by kernel_rfl) rfl ?_;refine zai ?_ ?_
       ·refine Or.inr (Or.inl (zei [] (zei [] (zei _ (zei _ (zei _ (zei _ (zei _ (zai (hcp) (zai rfl (zai True.intro (zai rfl ?_))))))))))));refine qC [11,14] (by kernel_rfl) rfl ?_;refine zai ?_ ?_
        ·refine qC [12,14] (by kernel_rfl) rfl ?_;refine zai ?_ ?_
         ·refine zai (by exact ⟨Nat.one_pos,qQ (show (es.take (es.length : Int).toNat).length + 1 ≤ 1000000000 by rw [List.length_take];omega) (by decide)⟩) ?_;refine qC [13,14] (by kernel_rfl) rfl ?_;refine zai ?_ ?_
          ·refine qC [14] (by kernel_rfl) rfl ?_;refine qC [15] (by kernel_rfl) rfl ?_;refine qL (by kernel_rfl) ?_;exact ⟨(),trivial,qP ⟨rfl,rfl,rfl⟩ ⟨rfl,rfl,rfl,rfl,(qS (by rw [Int.toNat_natCast,List.take_length];exact rfl)),rfl⟩ rfl⟩
          ·refine qC [13] (by kernel_rfl) rfl ?_;refine qC [15] (by kernel_rfl) rfl ?_;refine qL (by kernel_rfl) ?_;exact ⟨(),trivial,qP ⟨rfl,rfl,rfl⟩ ⟨rfl,rfl,rfl,rfl,(qS (by rw [Int.toNat_natCast,List.take_length];exact rfl)),rfl⟩ rfl⟩
         ·refine qC [12] (by kernel_rfl) rfl ?_;refine zai (by exact ⟨Nat.one_pos,qQ (show (es.take (es.length : Int).toNat).length + 1 ≤ 1000000000 by rw [List.length_take];omega) (by decide)⟩) ?_;refine qC [13] (by kernel_rfl) rfl ?_;refine qC [15] (by kernel_rfl) rfl ?_;refine qK 6 7 rfl rfl rfl rfl ?_;refine qL (by kernel_rfl) ?_;exact ⟨(),trivial,qP ⟨rfl,rfl,rfl⟩ ⟨rfl,rfl,rfl,rfl,(qS (by rw [Int.toNat_natCast,List.take_length];exact rfl)),rfl⟩ rfl⟩
        ·refine qC [11] (by kernel_rfl) rfl ?_;refine qC [12] (by kernel_rfl) rfl ?_;refine zai (by exact ⟨Nat.one_pos,qQ (show (es.take (es.length : Int).toNat).length + 1 ≤ 1000000000 by rw [List.length_take];omega) (by decide)⟩) ?_;refine qC [13] (by kernel_rfl) rfl ?_;refine qC [15] (by kernel_rfl) rfl ?_;refine qK 5 6 rfl rfl rfl rfl ?_;refine qK 6 7 rfl rfl rfl rfl ?_;refine qL (by kernel_rfl) ?_;exact ⟨(),trivial,qP ⟨rfl,rfl,rfl⟩ ⟨rfl,rfl,rfl,rfl,(qS (by rw [Int.toNat_natCast,List.take_length];exact rfl)),rfl⟩ rfl⟩
       refine zai ?_ ?_
       ·refine qC [3,14] (by kernel_rfl) rfl ?_;refine zai ?_ ?_
        ·refine Or.inr (Or.inl (zei [] (zei [] (zei _ (zei _ (zei _ (zei _ (zei _ (zai (hcp) (zai rfl (zai True.intro (zai rfl ?_))))))))))));refine qC [12,14] (by kernel_rfl) rfl ?_;refine zai ?_ ?_
         ·refine zai (by exact ⟨Nat.one_pos,qQ (show (es.take (es.length : Int).toNat).length + 1 ≤ 1000000000 by rw [List.length_take];omega) (by decide)⟩) ?_;refine qC [13,14] (by kernel_rfl) rfl ?_;refine zai ?_ ?_
          ·refine qC [14] (by kernel_rfl) rfl ?_;refine qC [15] (by kernel_rfl) rfl ?_;refine qK 3 4 rfl rfl rfl rfl ?_;refine qK 4 5 rfl rfl rfl rfl ?_;refine qL (by kernel_rfl) ?_;exact ⟨(),trivial,qP ⟨rfl,rfl,rfl⟩ ⟨rfl,rfl,rfl,rfl,(qS (by rw [Int.toNat_natCast,List.take_length];exact rfl)),rfl⟩ rfl⟩
          ·refine qC [13] (by kernel_rfl) rfl ?_;refine qC [15] (by kernel_rfl) rfl ?_;refine qK 3 4 rfl rfl rfl rfl ?_;refine qK 4 5 rfl rfl rfl rfl ?_;refine qL (by kernel_rfl) ?_;exact ⟨(),trivial,qP ⟨rfl,rfl,rfl⟩ ⟨rfl,rfl,rfl,rfl,(qS (by rw [Int.toNat_natCast,List.take_length];exact rfl)),rfl⟩ rfl⟩
         ·refine qC [12] (by kernel_rfl) rfl ?_;refine zai (by exact ⟨Nat.one_pos,qQ (show (es.take (es.length : Int).toNat).length + 1 ≤ 1000000000 by rw [List.length_take];omega) (by decide)⟩) ?_;refine qC [13] (by kernel_rfl) rfl ?_;refine qC [15] (by kernel_rfl) rfl ?_;refine qK 3 4 rfl rfl rfl rfl ?_;refine qK 4 5 rfl rfl rfl rfl ?_;refine qK 6 7 rfl rfl rfl rfl ?_;refine qL (by kernel_rfl) ?_;exact ⟨(),trivial,qP ⟨rfl,rfl,rfl⟩ ⟨rfl,rfl,rfl,rfl,(qS (by rw [Int.toNat_natCast,List.take_length];exact rfl)),rfl⟩ rfl⟩
        ·refine qC [3] (by kernel_rfl) rfl ?_;refine Or.inr (Or.inl (zei [] (zei [] (zei _ (zei _ (zei _ (zei _ (zei _ (zai (hcp) (zai rfl (zai True.intro (zai rfl ?_))))))))))));refine qC [12] (by kernel_rfl) rfl ?_;refine zai (by exact ⟨Nat.one_pos,qQ (show (es.take (es.length : Int).toNat).length + 1 ≤ 1000000000 by rw [List.length_take];omega) (by decide)⟩) ?_;refine qC [13] (by kernel_rfl) rfl ?_;refine qC [15] (by kernel_rfl) rfl ?_;refine qK 3 5 rfl rfl rfl rfl ?_;refine qK 4 6 rfl rfl rfl rfl ?_;refine qK 6 7 rfl rfl rfl rfl ?_;refine qL (by kernel_rfl) ?_;exact ⟨(),trivial,qP ⟨rfl,rfl,rfl⟩ ⟨rfl,rfl,rfl,rfl,(qS (by rw [Int.toNat_natCast,List.take_length];exact rfl)),rfl⟩ rfl⟩
       ·refine qC [3,11] (by kernel_rfl) rfl ?_;refine zai ?_ ?_
        ·refine Or.inr (Or.inl (zei [] (zei [] (zei _ (zei _ (zei _ (zei _ (zei _ (zai (hcp) (zai rfl (zai True.intro (zai rfl ?_))))))))))));refine qC [11] (by kernel_rfl) rfl ?_;refine qC [12] (by kernel_rfl) rfl ?_;refine zai (by exact ⟨Nat.one_pos,qQ (show (es.take (es.length : Int).toNat).length + 1 ≤ 1000000000 by rw [List.length_take];omega) (by decide)⟩) ?_;refine qC [13] (by kernel_rfl) rfl ?_;refine qC [15] (by kernel_rfl) rfl ?_;refine qK 3 4 rfl rfl rfl rfl ?_;refine qK 4 5 rfl rfl rfl rfl ?_;refine qK 5 6 rfl rfl rfl rfl ?_;refine qK 6 7 rfl rfl rfl rfl ?_;refine qL (by kernel_rfl) ?_;exact ⟨(),trivial,qP ⟨rfl,rfl,rfl⟩ ⟨rfl,rfl,rfl,rfl,(qS (by rw [Int.toNat_natCast,List.take_length];exact rfl)),rfl⟩ rfl⟩
        ·refine qC [3] (by kernel_rfl) rfl ?_;refine Or.inr (Or.inl (zei [] (zei [] (zei _ (zei _ (zei _ (zei _ (zei _ (zai (hcp) (zai rfl (zai True.intro (zai rfl ?_))))))))))));refine qC [12] (by kernel_rfl) rfl ?_;refine zai (by exact ⟨Nat.one_pos,qQ (show (es.take (es.length : Int).toNat).length + 1 ≤ 1000000000 by rw [List.length_take];omega) (by decide)⟩) ?_;refine qC [13] (by kernel_rfl) rfl ?_;refine qC [15] (by kernel_rfl) rfl ?_;refine qK 3 5 rfl rfl rfl rfl ?_;refine qK 4 6 rfl rfl rfl rfl ?_;refine qK 5 6 rfl rfl rfl rfl ?_;refine qK 6 7 rfl rfl rfl rfl ?_;refine qL (by kernel_rfl) ?_;exact ⟨(),trivial,qP ⟨rfl,rfl,rfl⟩ ⟨rfl,rfl,rfl,rfl,(qS (by rw [Int.toNat_natCast,List.take_length];exact rfl)),rfl⟩ rfl⟩
      refine zai ?_ ?_
      ·refine qC [1,14] (by kernel_rfl) rfl ?_;refine zai ?_ ?_
       ·refine Or.inr (Or.inr (Or.inl ?_));refine zai rfl ?_;refine zei _ (zai (hnow) ?_);refine qH 2 rfl rfl rfl (by kernel_rfl) ?_;refine qC [3,14] (by kernel_rfl) rfl ?_;refine zai ?_ ?_
        ·refine Or.inr (Or.inl (zei [] (zei [] (zei _ (zei _ (zei _ (zei _ (zei _ (zai (hcp) (zai rfl (zai True.intro (zai rfl ?_))))))))))));refine qC [12,14] (by kernel_rfl) rfl ?_;refine zai ?_ ?_
         ·refine zai (by exact ⟨Nat.one_pos,qQ (show (es.take (es.length : Int).toNat).length + 1 ≤ 1000000000 by rw [List.length_take];omega) (by decide)⟩) ?_;refine qC [13,14] (by kernel_rfl) rfl ?_;refine zai ?_ ?_
          ·refine qC [14] (by kernel_rfl) rfl ?_;refine qC [15] (by kernel_rfl) rfl ?_;refine qK 3 4 rfl rfl rfl rfl ?_;refine qK 4 5 rfl rfl rfl rfl ?_;refine qL (by kernel_rfl) ?_;exact ⟨(),trivial,qP ⟨rfl,rfl,rfl⟩ ⟨rfl,rfl,rfl,rfl,(qS (by rw [Int.toNat_natCast,List.take_length];exact rfl)),rfl⟩ rfl⟩
          ·refine qC [13] (by kernel_rfl) rfl ?_;refine qC [15] (by kernel_rfl) rfl ?_;refine qK 3 4 rfl rfl rfl rfl ?_;refine qK 4 5 rfl rfl rfl rfl ?_;refine qL (by kernel_rfl) ?_;exact ⟨(),trivial,qP ⟨rfl,rfl,rfl⟩ ⟨rfl,rfl,rfl,rfl,(qS (by rw [Int.toNat_natCast,List.take_length];exact rfl)),rfl⟩ rfl⟩
         ·refine qC [12] (by kernel_rfl) rfl ?_;refine zai (by exact ⟨Nat.one_pos,qQ (show (es.take (es.length : Int).toNat).length + 1 ≤ 1000000000 by rw [List.length_take];omega) (by decide)⟩) ?_;refine qC [13] (by kernel_rfl) rfl ?_;refine qC [15] (by kernel_rfl) rfl ?_;refine qK 3 4 rfl rfl rfl rfl ?_;refine qK 4 5 rfl rfl rfl rfl ?_;refine qK 6 7 rfl rfl rfl rfl ?_;refine qL (by kernel_rfl) ?_;exact ⟨(),trivial,qP ⟨rfl,rfl,rfl⟩ ⟨rfl,rfl,rfl,rfl,(qS (by rw [Int.toNat_natCast,List.take_length];exact rfl)),rfl⟩ rfl⟩
        ·refine qC [3] (by kernel_rfl) rfl ?_;refine Or.inr (Or.inl (zei [] (zei [] (zei _ (zei _ (zei _ (zei _ (zei _ (zai (hcp) (zai rfl (zai True.intro (zai rfl ?_))))))))))));refine qC [12] (by kernel_rfl) rfl ?_;refine zai (by exact ⟨Nat.one_pos,qQ (show (es.take (es.length : Int).toNat).length + 1 ≤ 1000000000 by rw [List.length_take];omega) (by decide)⟩) ?_;refine qC [13] (by kernel_rfl) rfl ?_;refine qC [15] (by kernel_rfl) rfl ?_;refine qK 3 5 rfl rfl rfl rfl ?_;refine qK 4 6 rfl rfl rfl rfl ?_;refine qK 6 7 rfl rfl rfl rfl ?_;refine qL (by kernel_rfl) ?_;exact ⟨(),trivial,qP ⟨rfl,rfl,rfl⟩ ⟨rfl,rfl,rfl,rfl,(qS (by rw [Int.toNat_natCast,List.take_length];exact rfl)),rfl⟩ rfl⟩
       ·refine qC [1] (by kernel_rfl) rfl ?_;refine Or.inr (Or.inr (Or.inl ?_));refine zai rfl ?_;refine zei _ (zai (hnow) ?_);refine qH 2 rfl rfl rfl (by kernel_rfl) ?_;refine qC [3] (by kernel_rfl) rfl ?_;refine Or.inr (Or.inl (zei [] (zei [] (zei _ (zei _ (zei _ (zei _ (zei _ (zai (hcp) (zai rfl (zai True.intro (zai rfl ?_))))))))))));refine qC [12] (by kernel_rfl) rfl ?_;refine zai (by exact ⟨Nat.one_pos,qQ (show (es.take (es.length : Int).toNat).length + 1 ≤ 1000000000 by rw [List.length_take];omega) (by decide)⟩) ?_;refine qC [13] (by kernel_rfl) rfl ?_;refine qC [15] (by kernel_rfl) rfl ?_;refine qK 3 5 rfl rfl rfl rfl ?_;refine qK 4 6 rfl rfl rfl rfl ?_;refine qK 6 7 rfl rfl rfl rfl ?_;refine qL (by kernel_rfl) ?_;exact ⟨(),trivial,qP ⟨rfl,rfl,rfl⟩ ⟨rfl,rfl,rfl,rfl,(qS (by rw [Int.toNat_natCast,List.take_length];exact rfl)),rfl⟩ rfl⟩
      ·refine qC [1,11] (by kernel_rfl) rfl ?_;refine zai ?_ ?_
       ·refine Or.inr (Or.inr (Or.inl ?_));refine zai rfl ?_;refine zei _ (zai (hnow) ?_);refine qH 2 rfl rfl rfl (by kernel_rfl) ?_;refine qC [3,11] (by kernel_rfl) rfl ?_;refine zai ?_ ?_
        ·refine Or.inr (Or.inl (zei [] (zei [] (zei _ (zei _ (zei _ (zei _ (zei _ (zai (hcp) (zai rfl (zai True.intro (zai rfl ?_))))))))))));refine qC [11] (by kernel_rfl) rfl ?_;refine qC [12] (by kernel_rfl) rfl ?_;refine zai (by exact ⟨Nat.one_pos,qQ (show (es.take (es.length : Int).toNat).length + 1 ≤ 1000000000 by rw [List.length_take];omega) (by decide)⟩) ?_;refine qC [13] (by kernel_rfl) rfl ?_;refine qC [15] (by kernel_rfl) rfl ?_;refine qK 3 4 rfl rfl rfl rfl ?_;refine qK 4 5 rfl rfl rfl rfl ?_;refine qK 5 6 rfl rfl rfl rfl ?_;refine qK 6 7 rfl rfl rfl rfl ?_;refine qL (by kernel_rfl) ?_;exact ⟨(),trivial,qP ⟨rfl,rfl,rfl⟩ ⟨rfl,rfl,rfl,rfl,(qS (by rw [Int.toNat_natCast,List.take_length];exact rfl)),rfl⟩ rfl⟩
        ·refine qC [3] (by kernel_rfl) rfl ?_;refine Or.inr (Or.inl (zei [] (zei [] (zei _ (zei _ (zei _ (zei _ (zei _ (zai (hcp) (zai rfl (zai True.intro (zai rfl ?_))))))))))));refine qC [12] (by kernel_rfl) rfl ?_;refine zai (by exact ⟨Nat.one_pos,qQ (show (es.take (es.length : Int).toNat).length + 1 ≤ 1000000000 by rw [List.length_take];omega) (by decide)⟩) ?_;refine qC [13] (by kernel_rfl) rfl ?_;refine qC [15] (by kernel_rfl) rfl ?_;refine qK 3 5 rfl rfl rfl rfl ?_;refine qK 4 6 rfl rfl rfl rfl ?_;refine qK 5 6 rfl rfl rfl rfl ?_;refine qK 6 7 rfl rfl rfl rfl ?_;refine qL (by kernel_rfl) ?_;exact ⟨(),trivial,qP ⟨rfl,rfl,rfl⟩ ⟨rfl,rfl,rfl,rfl,(qS (by rw [Int.toNat_natCast,List.take_length];exact rfl)),rfl⟩ rfl⟩
       ·refine qC [1] (by kernel_rfl) rfl ?_;refine Or.inr (Or.inr (Or.inl ?_));refine zai rfl ?_;refine zei _ (zai (hnow) ?_);refine qH 2 rfl rfl rfl (by kernel_rfl) ?_;refine qC [3] (by kernel_rfl) rfl ?_;refine Or.inr (Or.inl (zei [] (zei [] (zei _ (zei _ (zei _ (zei _ (zei _ (zai (hcp) (zai rfl (zai True.intro (zai rfl ?_))))))))))));refine qC [12] (by kernel_rfl) rfl ?_;refine zai (by exact ⟨Nat.one_pos,qQ (show (es.take (es.length : Int).toNat).length + 1 ≤ 1000000000 by rw [List.length_take];omega) (by decide)⟩) ?_;refine qC [13] (by kernel_rfl) rfl ?_;refine qC [15] (by kernel_rfl) rfl ?_;refine qK 3 5 rfl rfl rfl rfl ?_;refine qK 4 6 rfl rfl rfl rfl ?_;refine qK 5 6 rfl rfl rfl rfl ?_;refine qK 6 7 rfl rfl rfl rfl ?_;refine qL (by kernel_rfl) ?_;exact ⟨(),trivial,qP ⟨rfl,rfl,rfl⟩ ⟨rfl,rfl,rfl,rfl,(qS (by rw [Int.toNat_natCast,List.take_length];exact rfl)),rfl⟩ rfl⟩
     ·refine qC [1,10] (by kernel_rfl) rfl ?_;refine zai ?_ ?_
      ·refine Or.inr (Or.inr (Or.inl ?_));refine zai rfl ?_;refine zei _ (zai (hnow) ?_);refine qH 2 rfl rfl rfl (by kernel_rfl) ?_;refine qC [3,10] (by kernel_rfl) rfl ?_;refine zai ?_ ?_
       ·refine Or.inr (Or.inl (zei [] (zei [] (zei _ (zei _ (zei _ (zei _ (zei _ (zai (hcp) (zai rfl (zai True.intro (zai rfl ?_))))))))))));refine qC [10] (by kernel_rfl) rfl ?_;refine qC [11] (by kernel_rfl) rfl ?_;refine qC [12] (by kernel_rfl) rfl ?_;refine zai (by exact ⟨Nat.one_pos,qQ (show (es.take (es.length : Int).toNat).length + 1 ≤ 1000000000 by rw [List.length_take];omega) (by decide)⟩) ?_;refine qC [13] (by kernel_rfl) rfl ?_;refine qC [15] (by kernel_rfl) rfl ?_;refine qK 3 4 rfl rfl rfl rfl ?_;refine qK 4 5 rfl rfl rfl rfl ?_;refine qK 5 6 rfl rfl rfl rfl ?_;refine qK 6 7 rfl rfl rfl rfl ?_;refine qL (by kernel_rfl) ?_;exact ⟨(),trivial,qP ⟨rfl,rfl,rfl⟩ ⟨rfl,rfl,rfl,rfl,(qS (by rw [Int.toNat_natCast,List.take_length];exact rfl)),rfl⟩ rfl⟩
       ·refine qC [3,11] (by kernel_rfl) rfl ?_;refine zai ?_ ?_
        ·refine Or.inr (Or.inl (zei [] (zei [] (zei _ (zei _ (zei _ (zei _ (zei _ (zai (hcp) (zai rfl (zai True.intro (zai rfl ?_))))))))))));refine qC [11] (by kernel_rfl) rfl ?_;refine qC [12] (by kernel_rfl) rfl ?_;refine zai (by exact ⟨Nat.one_pos,qQ (show (es.take (es.length : Int).toNat).length + 1 ≤ 1000000000 by rw [List.length_take];omega) (by decide)⟩) ?_;refine qC [13] (by kernel_rfl) rfl ?_;refine qC [15] (by kernel_rfl) rfl ?_;refine qK 3 4 rfl rfl rfl rfl ?_;refine qK 4 5 rfl rfl rfl rfl ?_;refine qK 5 6 rfl rfl rfl rfl ?_;refine qK 6 7 rfl rfl rfl rfl ?_;refine qL (by kernel_rfl) ?_;exact ⟨(),trivial,qP ⟨rfl,rfl,rfl⟩ ⟨rfl,rfl,rfl,rfl,(qS (by rw [Int.toNat_natCast,List.take_length];exact rfl)),rfl⟩ rfl⟩
        ·refine qC [3] (by kernel_rfl) rfl ?_;refine Or.inr (Or.inl (zei [] (zei [] (zei _ (zei _ (zei _ (zei _ (zei _ (zai (hcp) (zai rfl (zai True.intro (zai rfl ?_))))))))))));refine qC [12] (by kernel_rfl) rfl ?_;refine zai (by exact ⟨Nat.one_pos,qQ (show (es.take (es.length : Int).toNat).length + 1 ≤ 1000000000 by rw [List.length_take];omega) (by decide)⟩) ?_;refine qC [13] (by kernel_rfl) rfl ?_;refine qC [15] (by kernel_rfl) rfl ?_;refine qK 3 5 rfl rfl rfl rfl ?_;refine qK 4 6 rfl rfl rfl rfl ?_;refine qK 5 6 rfl rfl rfl rfl ?_;refine qK 6 7 rfl rfl rfl rfl ?_;refine qL (by kernel_rfl) ?_;exact ⟨(),trivial,qP ⟨rfl,rfl,rfl⟩ ⟨rfl,rfl,rfl,rfl,(qS (by rw [Int.toNat_natCast,List.take_length];exact rfl)),rfl⟩ rfl⟩
      ·refine qC [1,11] (by kernel_rfl) rfl ?_;refine zai ?_ ?_
       ·refine Or.inr (Or.inr (Or.inl ?_));refine zai rfl ?_;refine zei _ (zai (hnow) ?_);refine qH 2 rfl rfl rfl (by kernel_rfl) ?_;refine qC [3,11] (by kernel_rfl) rfl ?_;refine zai ?_ ?_
        ·refine Or.inr (Or.inl (zei [] (zei [] (zei _ (zei _ (zei _ (zei _ (zei _ (zai (hcp) (zai rfl (zai True.intro (zai rfl ?_))))))))))));refine qC [11] (by kernel_rfl) rfl ?_;refine qC [12] (by kernel_rfl) rfl ?_;refine zai (by exact ⟨Nat.one_pos,qQ (show (es.take (es.length : Int).toNat).length + 1 ≤ 1000000000 by rw [List.length_take];omega) (by decide)⟩) ?_;refine qC [13] (by kernel_rfl) rfl ?_;refine qC [15] (by kernel_rfl) rfl ?_;refine qK 3 4 rfl rfl rfl rfl ?_;refine qK 4 5 rfl rfl rfl rfl ?_;refine qK 5 6 rfl rfl rfl rfl ?_;refine qK 6 7 rfl rfl rfl rfl ?_;refine qL (by kernel_rfl) ?_;exact ⟨(),trivial,qP ⟨rfl,rfl,rfl⟩ ⟨rfl,rfl,rfl,rfl,(qS (by rw [Int.toNat_natCast,List.take_length];exact rfl)),rfl⟩ rfl⟩
        ·refine qC [3] (by kernel_rfl) rfl ?_;refine Or.inr (Or.inl (zei [] (zei [] (zei _ (zei _ (zei _ (zei _ (zei _ (zai (hcp) (zai rfl (zai True.intro (zai rfl ?_))))))))))));refine qC [12] (by kernel_rfl) rfl ?_;refine zai (by exact ⟨Nat.one_pos,qQ (show (es.take (es.length : Int).toNat).length + 1 ≤ 1000000000 by rw [List.length_take];omega) (by decide)⟩) ?_;refine qC [13] (by kernel_rfl) rfl ?_;refine qC [15] (by kernel_rfl) rfl ?_;refine qK 3 5 rfl rfl rfl rfl ?_;refine qK 4 6 rfl rfl rfl rfl ?_;refine qK 5 6 rfl rfl rfl rfl ?_;refine qK 6 7 rfl rfl rfl rfl ?_;refine qL (by kernel_rfl) ?_;exact ⟨(),trivial,qP ⟨rfl,rfl,rfl⟩ ⟨rfl,rfl,rfl,rfl,(qS (by rw [Int.toNat_natCast,List.take_length];exact rfl)),rfl⟩ rfl⟩
       ·refine qC [1] (by kernel_rfl) rfl ?_;refine Or.inr (Or.inr (Or.inl ?_));refine zai rfl ?_;refine zei _ (zai (hnow) ?_);refine qH 2 rfl rfl rfl (by kernel_rfl) ?_;refine qC [3] (by kernel_rfl) rfl ?_;refine Or.inr (Or.inl (zei [] (zei [] (zei _ (zei _ (zei _ (zei _ (zei _ (zai (hcp) (zai rfl (zai True.intro (zai rfl ?_))))))))))));refine qC [12] (by kernel_rfl) rfl ?_;refine zai (by exact ⟨Nat.one_pos,qQ (show (es.take (es.length : Int).toNat).length + 1 ≤ 1000000000 by rw [List.length_take];omega) (by decide)⟩) ?_;refine qC [13] (by kernel_rfl) rfl ?_;refine qC [15] (by kernel_rfl) rfl ?_;refine qK 3 5 rfl rfl rfl rfl ?_;refine qK 4 6 rfl rfl rfl rfl ?_;refine qK 5 6 rfl rfl rfl rfl ?_;refine qK 6 7 rfl rfl rfl rfl ?_;refine qL (by kernel_rfl) ?_;exact ⟨(),trivial,qP ⟨rfl,rfl,rfl⟩ ⟨rfl,rfl,rfl,rfl,(qS (by rw [Int.toNat_natCast,List.take_length];exact rfl)),rfl⟩ rfl⟩
    ·intro u hcut7;refine qD ?_;refine qD ?_;refine qB ?_;refine Or.inr (Or.inl (zei [] (zei [4,3] (zei _ (zei _ (zei _ (zei _ (zei _ (zai (hdo) (zai rfl (zai (zai (zai rfl rfl) (zai (zai rfl rfl) True.intro)) (zai rfl ?_))))))))))));refine qD ?_;refine qB ?_;refine qM rfl (fun h42=>?_) (fun h42=>?_)
     ·try simp only [Bool.not_eq_true'] at h42
      try simp only [zds] at h42
      simp at h42
     ·try simp only [Bool.not_eq_false'] at h42
      try simp only [zds] at h42
      refine qO ?_;refine qD ?_;refine acode_frz [6,3,4] ?_;refine yL rfl ?_;refine qH 0 rfl rfl rfl (by kernel_rfl) ?_;refine qH 1 rfl rfl rfl (by kernel_rfl) ?_;refine qH 2 rfl rfl rfl (by kernel_rfl) ?_;refine qH 3 rfl rfl rfl (by kernel_rfl) ?_;refine qC [4,5] (by kernel_rfl) rfl ?_;refine zai ?_ ?_
      ·refine qC [5] (by kernel_rfl) rfl ?_;refine qC [6] (by kernel_rfl) rfl ?_;refine qC [7] (by kernel_rfl) rfl ?_;refine zai (by exact qQ (show sts.length + 1 ≤ 1000000000 by omega) (by decide)) ?_;refine qH 8 rfl rfl rfl (by kernel_rfl) ?_;refine qH 9 rfl rfl rfl (by kernel_rfl) ?_;refine qC [10] (by kernel_rfl) rfl ?_;refine qL (by kernel_rfl) ?_;refine qD ?_;refine qB ?_;refine qN ?_;exact ⟨rfl,⟨rfl,qS rfl⟩,rfl⟩
      ·refine qC [4,6] (by kernel_rfl) rfl ?_;refine zai ?_ ?_
       ·refine qC [6] (by kernel_rfl) rfl ?_;refine qC [7] (by kernel_rfl) rfl ?_;refine zai (by exact qQ (show sts.length + 1 ≤ 1000000000 by omega) (by decide)) ?_;refine qH 8 rfl rfl rfl (by kernel_rfl) ?_;refine qH 9 rfl rfl rfl (by kernel_rfl) ?_;refine qC [10] (by kernel_rfl) rfl ?_;refine qL (by kernel_rfl) ?_;refine qD ?_;refine qB ?_;refine qN ?_;exact ⟨rfl,⟨rfl,qS rfl⟩,rfl⟩
       ·refine qC [4] (by kernel_rfl) rfl ?_;refine qC [7] (by kernel_rfl) rfl ?_;refine zai (by exact qQ (show sts.length + 1 ≤ 1000000000 by omega) (by decide)) ?_;refine qH 8 rfl rfl rfl (by kernel_rfl) ?_;refine qH 9 rfl rfl rfl (by kernel_rfl) ?_;refine qC [10] (by kernel_rfl) rfl ?_;refine qL (by kernel_rfl) ?_;refine qD ?_;refine qB ?_;refine qN ?_;exact ⟨rfl,⟨rfl,qS rfl⟩,rfl⟩
theorem ttakeN_c (x : Edt) : qW Tryz.prog 70 [.one (.lit (.pointer none)),.agg (toL rEdt x),.one .any] (.one (errN 9)):=by
  refine qV (rs:=[6]) Tryz.func70 rfl rfl rfl teOk rfl ?_;refine qD ?_;refine qB ?_;refine qD ?_;refine qR ?_;refine qD ?_;refine qB ?_;refine Or.inl ?_;refine zai (rfl) ?_;refine zei _ (zai (topenN_c) ?_);refine qM rfl (fun h10=>?_) (fun h10=>?_)
  ·try simp only [Bool.not_eq_true'] at h10
   try simp only [zds] at h10
   refine qD ?_;refine qB ?_;refine qN ?_;rfl
  ·try simp only [Bool.not_eq_false'] at h10
   try simp only [zds] at h10
   simp at h10
theorem ttakeN_any (x : Edt) (d : C) : qW Tryz.prog 70 [.one (.lit (.pointer none)),.agg (toL rEdt x),.one d] (.one (errN 9)):=by
  refine acall_arg (fun ok ρ w vs h=>?_) (ttakeN_c x);obtain ⟨v,r,rfl,h1,v2,r2,rfl,h2,v3,r3,rfl,h3,h4⟩:=h;exact ⟨v,_,rfl,h1,v2,_,rfl,h2,v3,_,rfl,trivial,h4⟩
abbrev delA2 (id : Int) : A:=.agg [.lit (.int .i64 2),.lit (.int .i64 id),.lit (.slice none 0 0)]
theorem del_rep {ok : Oks} {ρ : Nat → Option Value} {w : World} {id : Int} {v : Value} (h : (delA2 id).rep ok ρ w v) : (A.agg (toL rEdt (2,id,[]))).rep ok ρ w v:=by
  obtain ⟨vs,rfl,a,r,rfl,ha,b,r2,rfl,hb,c,r3,rfl,hc,hz⟩:=h;exact ⟨_,rfl,a,_,rfl,ha,b,_,rfl,hb,c,_,rfl,⟨none,0,hc,Nat.le_refl _,Nat.zero_le _,fun i hi=>absurd hi (by simp)⟩,hz⟩
theorem ttakeD_any (id : Int) (d : C) : qW Tryz.prog 70 [.one (.lit (.pointer none)),delA2 id,.one d] (.one (errN 9)):=by
  refine acall_arg (fun ok ρ w vs h=>?_) (ttakeN_any (2,id,[]) d);obtain ⟨v,r,rfl,h1,v2,r2,rfl,h2,h3⟩:=h;exact ⟨v,_,rfl,h1,v2,_,rfl,del_rep h2,h3⟩
theorem tbegin_o {k : Nat} (L : Lst) (hL : L.1.length ≤ 1000000) : qY Tryz.prog 16 [.one (.adk k (rLst k) L)] [] 0 (.tup [(false,[.own 3 0]),(false,[.lit .nilIface])]) [(3,.box 123 [.vec 2]),(2,.vec 120 rSt [(L,[])])] 4:=by
  have hcp:=copyL_o (k:=k) L.1 L.2.1 L.2.2 hL;refine qU (rs:=[2,3]) Tryz.func16 rfl rfl rfl teOk (by decide) rfl ?_;refine qD ?_;refine qB ?_;refine qD ?_;refine qD ?_;refine qB ?_;refine qM rfl (fun h5=>?_) (fun h5=>?_)
  ·try simp only [zbq] at h5
   try simp only [zds] at h5
   simp at h5
  ·skip
   refine qO ?_;refine qD ?_;show yA _ _ _ _ _ _ _ _ _;refine acode_frzatB 2 [0,1] ?_;refine Or.inr (Or.inl (zei [] (zei [] (zei _ (zei _ (zei _ (zei _ (zei _ (zai (hcp) (zai rfl (zai True.intro (zai rfl ?_))))))))))));refine qN ?_;exact ⟨rfl,⟨rfl,rfl⟩,rfl⟩
theorem tbeginN_c : qW Tryz.prog 16 [.one (.lit (.pointer none))] (.tup [(false,[.lit (.pointer none)]),(false,[errN 7])]):=by
  refine qV (rs:=[2,3]) Tryz.func16 rfl rfl rfl teOk rfl ?_;refine qD ?_;refine qB ?_;refine qD ?_;refine qD ?_;refine qB ?_;refine qM rfl (fun h5=>?_) (fun h5=>?_)
  ·try simp only [Bool.not_eq_true'] at h5
   try simp only [zds] at h5
   refine qD ?_;refine qB ?_;refine qN ?_;rfl
  ·try simp only [Bool.not_eq_false'] at h5
   try simp only [zds] at h5
   simp at h5
theorem trep1_o (L : Lst) (id : Int) (f : List Fld) (i : Nat) (hi : i < L.1.length) (h : atE L.1 id = i) (hf : FldsOk f) (hc : (chkR f).2 = 0) : qY Tryz.prog 73 [.one (.own 0 0),.one (.addr (.int .i64) id),.one (.addr (.sl rFld) f)] (lsO L) 2 (.one (.lit .nilIface)) (lsO (replE L.1 i (itmOf f),L.2)) 2:=by
  have hr:=lRep_ok (κ:=0) L.1 L.2.1 L.2.2 id f i hi h hf hc;refine qU (rs:=[4]) Tryz.func73 rfl rfl rfl teOk (by decide) rfl ?_;refine qD ?_;refine qB ?_;refine qD ?_;refine qB ?_;refine Or.inr (Or.inl (zei [] (zei [0,1] (zei _ (zei _ (zei _ (zei _ (zei _ (zai (hr) (zai rfl (zai (zai (zai rfl rfl) (zai (zai rfl rfl) True.intro)) (zai rfl ?_))))))))))));refine qN ?_;exact ⟨rfl,⟨rfl,rfl⟩,rfl⟩
theorem tdel1_o (L : Lst) (id : Int) (i : Nat) (hi : i < L.1.length) (h : atE L.1 id = i) (hm : 0 ≤ L.2.2 ∧ L.2.2 ≤ 1000000) (hl : L.1.length ≤ 1000000) : qY Tryz.prog 74 [.one (.own 0 0),.one (.addr (.int .i64) id)] (lsO L) 2 (.one (.lit .nilIface)) (lsO (delE L.1 i,L.2.1,L.2.2 - 1)) 2:=by
  have hr:=lDel_ok L.1 L.2.1 L.2.2 id i hi h hm hl;refine qU (rs:=[3]) Tryz.func74 rfl rfl rfl teOk (by decide) rfl ?_;refine qD ?_;refine qB ?_;refine qD ?_;refine qB ?_;refine Or.inr (Or.inl (zei [] (zei [0,1] (zei _ (zei _ (zei _ (zei _ (zei _ (zai (hr) (zai rfl (zai (zai (zai rfl rfl) (zai (zai rfl rfl) True.intro)) (zai rfl ?_))))))))))));refine qN ?_;exact ⟨rfl,⟨rfl,rfl⟩,rfl⟩
theorem trep_o (sts : List TSt) (L : Lst) (es : List Edt) (id : Int) (f : List Fld) (i : Nat) (hi : i < L.1.length) (h : atE L.1 id = i) (hf : FldsOk f) (hc : (chkR f).2 = 0) (h0 : 0 < sts.length) (h40 : sts.length ≤ 40) (hl : sts.getD (sts.length - 1) ((([] : List Ent),(0 : Int),(0 : Int)),([] : List Edt)) = (L,es)) (he : es.length ≤ 1000) (hL : L.1.length ≤ 1000000) :
    qY Tryz.prog 21 [.one (.own 0 0),ii .i64 id,.one (.sl rFld f)] (txO sts) 2 (.one (.lit .nilIface)) (txO (sts ++ [((replE L.1 i (itmOf f),L.2),es ++ [(1,id,f)])])) 2:=by
  have htk:=ttake2_o (.int .i64) id (.sl rFld) f sts L _ es (1,id,f) h0 h40 hl he hL (trep1_o L id f i hi h hf hc);refine qU (rs:=[6]) Tryz.func21 rfl rfl rfl teOk (by decide) rfl ?_;refine qD ?_;refine qB ?_;refine acode_cut (fun (u : Unit)=>True) (fun (u : Unit)=>[(0,.one (.own 0 0)),(4,.one (.own 2 0)),(5,.one (.own 3 0)),(7,.one (.own 4 0))]) (fun (u : Unit)=>[(0,.box 123 [.vec 1]),(1,.vec 120 rSt sts),(2,.box 3 [.lit (.int .i64 id)]),(3,.box 29 [.sl rFld f]),(4,.box 31 (toL rEdt (1,id,f)))]) 5 ?_ ?_
  ·refine yL rfl ?_;refine qC [0,1,4] (by kernel_rfl) rfl ?_;refine zai ?_ ?_
   ·refine qC [1,4] (by kernel_rfl) rfl ?_;refine zai ?_ ?_
    ·refine qC [2,4] (by kernel_rfl) rfl ?_;refine zai ?_ ?_
     ·refine Or.inl ?_;refine zai (rfl) ?_;refine zei _ (zai (yD f (Nat.le_trans hf.1 (by decide))) ?_);refine qC [3,4] (by kernel_rfl) rfl ?_;refine zai ?_ ?_
      ·refine qC [4] (by kernel_rfl) rfl ?_;refine qC [5] (by kernel_rfl) rfl ?_;refine qL (by kernel_rfl) ?_;exact ⟨(),trivial,qP ⟨rfl,rfl,rfl,rfl⟩ ⟨rfl,rfl,rfl,rfl,rfl⟩ rfl⟩
      ·refine qC [3] (by kernel_rfl) rfl ?_;refine qC [5] (by kernel_rfl) rfl ?_;refine qL (by kernel_rfl) ?_;exact ⟨(),trivial,qP ⟨rfl,rfl,rfl,rfl⟩ ⟨rfl,rfl,rfl,rfl,rfl⟩ rfl⟩
     ·refine qC [2] (by kernel_rfl) rfl ?_;refine Or.inl ?_;refine zai (rfl) ?_;refine zei _ (zai (yD f (Nat.le_trans hf.1 (by decide))) ?_);refine qC [3] (by kernel_rfl) rfl ?_;refine qC [5] (by kernel_rfl) rfl ?_;refine qL (by kernel_rfl) ?_;exact ⟨(),trivial,qP ⟨rfl,rfl,rfl,rfl⟩ ⟨rfl,rfl,rfl,rfl,rfl⟩ rfl⟩
    ·refine qC [1] (by kernel_rfl) rfl ?_;refine qC [2] (by kernel_rfl) rfl ?_;refine Or.inl ?_;refine zai (rfl) ?_;refine zei _ (zai (yD f (Nat.le_trans hf.1 (by decide))) ?_);refine qC [3] (by kernel_rfl) rfl ?_;refine qC [5] (by kernel_rfl) rfl ?_;refine qL (by kernel_rfl) ?_;exact ⟨(),trivial,qP ⟨rfl,rfl,rfl,rfl⟩ ⟨rfl,rfl,rfl,rfl,rfl⟩ rfl⟩
   refine zai ?_ ?_
   ·refine qC [0,2,4] (by kernel_rfl) rfl ?_;refine zai ?_ ?_
    ·refine qC [2,4] (by kernel_rfl) rfl ?_;refine zai ?_ ?_
     ·refine Or.inl ?_;refine zai (rfl) ?_;refine zei _ (zai (yD f (Nat.le_trans hf.1 (by decide))) ?_);refine qC [3,4] (by kernel_rfl) rfl ?_;refine zai ?_ ?_
      ·refine qC [4] (by kernel_rfl) rfl ?_;refine qC [5] (by kernel_rfl) rfl ?_;refine qL (by kernel_rfl) ?_;exact ⟨(),trivial,qP ⟨rfl,rfl,rfl,rfl⟩ ⟨rfl,rfl,rfl,rfl,rfl⟩ rfl⟩
      ·refine qC [3] (by kernel_rfl) rfl ?_;refine qC [5] (by kernel_rfl) rfl ?_;refine qL (by kernel_rfl) ?_;exact ⟨(),trivial,qP ⟨rfl,rfl,rfl,rfl⟩ ⟨rfl,rfl,rfl,rfl,rfl⟩ rfl⟩
     ·refine qC [2] (by kernel_rfl) rfl ?_;refine Or.inl ?_;refine zai (rfl) ?_;refine zei _ (zai (yD f (Nat.le_trans hf.1 (by decide))) ?_);refine qC [3] (by kernel_rfl) rfl ?_;refine qC [5] (by kernel_rfl) rfl ?_;refine qL (by kernel_rfl) ?_;exact ⟨(),trivial,qP ⟨rfl,rfl,rfl,rfl⟩ ⟨rfl,rfl,rfl,rfl,rfl⟩ rfl⟩
    refine zai ?_ ?_
    ·refine Or.inl ?_;refine zai (rfl) ?_;refine zei _ (zai (yD f (Nat.le_trans hf.1 (by decide))) ?_);refine qC [0,4] (by kernel_rfl) rfl ?_;refine zai ?_ ?_
     ·refine qC [3,4] (by kernel_rfl) rfl ?_;refine zai ?_ ?_
      ·refine qC [4] (by kernel_rfl) rfl ?_;refine qC [5] (by kernel_rfl) rfl ?_;refine qL (by kernel_rfl) ?_;exact ⟨(),trivial,qP ⟨rfl,rfl,rfl,rfl⟩ ⟨rfl,rfl,rfl,rfl,rfl⟩ rfl⟩
      ·refine qC [3] (by kernel_rfl) rfl ?_;refine qC [5] (by kernel_rfl) rfl ?_;refine qL (by kernel_rfl) ?_;exact ⟨(),trivial,qP ⟨rfl,rfl,rfl,rfl⟩ ⟨rfl,rfl,rfl,rfl,rfl⟩ rfl⟩
     ·refine qC [0] (by kernel_rfl) rfl ?_;refine qC [3] (by kernel_rfl) rfl ?_;refine qC [5] (by kernel_rfl) rfl ?_;refine qL (by kernel_rfl) ?_;exact ⟨(),trivial,qP ⟨rfl,rfl,rfl,rfl⟩ ⟨rfl,rfl,rfl,rfl,rfl⟩ rfl⟩
    ·refine qC [0,2] (by kernel_rfl) rfl ?_;refine zai ?_ ?_
     ·refine qC [2] (by kernel_rfl) rfl ?_;refine Or.inl ?_;refine zai (rfl) ?_;refine zei _ (zai (yD f (Nat.le_trans hf.1 (by decide))) ?_);refine qC [3] (by kernel_rfl) rfl ?_;refine qC [5] (by kernel_rfl) rfl ?_;refine qL (by kernel_rfl) ?_;exact ⟨(),trivial,qP ⟨rfl,rfl,rfl,rfl⟩ ⟨rfl,rfl,rfl,rfl,rfl⟩ rfl⟩
     ·refine Or.inl ?_;refine zai (rfl) ?_;refine zei _ (zai (yD f (Nat.le_trans hf.1 (by decide))) ?_);refine qC [0] (by kernel_rfl) rfl ?_;refine qC [3] (by kernel_rfl) rfl ?_;refine qC [5] (by kernel_rfl) rfl ?_;refine qL (by kernel_rfl) ?_;exact ⟨(),trivial,qP ⟨rfl,rfl,rfl,rfl⟩ ⟨rfl,rfl,rfl,rfl,rfl⟩ rfl⟩
   ·refine qC [0,1] (by kernel_rfl) rfl ?_;refine zai ?_ ?_
    ·refine qC [1] (by kernel_rfl) rfl ?_;refine qC [2] (by kernel_rfl) rfl ?_;refine Or.inl ?_;refine zai (rfl) ?_;refine zei _ (zai (yD f (Nat.le_trans hf.1 (by decide))) ?_);refine qC [3] (by kernel_rfl) rfl ?_;refine qC [5] (by kernel_rfl) rfl ?_;refine qL (by kernel_rfl) ?_;exact ⟨(),trivial,qP ⟨rfl,rfl,rfl,rfl⟩ ⟨rfl,rfl,rfl,rfl,rfl⟩ rfl⟩
    ·refine qC [0,2] (by kernel_rfl) rfl ?_;refine zai ?_ ?_
     ·refine qC [2] (by kernel_rfl) rfl ?_;refine Or.inl ?_;refine zai (rfl) ?_;refine zei _ (zai (yD f (Nat.le_trans hf.1 (by decide))) ?_);refine qC [3] (by kernel_rfl) rfl ?_;refine qC [5] (by kernel_rfl) rfl ?_;refine qL (by kernel_rfl) ?_;exact ⟨(),trivial,qP ⟨rfl,rfl,rfl,rfl⟩ ⟨rfl,rfl,rfl,rfl,rfl⟩ rfl⟩
     ·refine Or.inl ?_;refine zai (rfl) ?_;refine zei _ (zai (yD f (Nat.le_trans hf.1 (by decide))) ?_);refine qC [0] (by kernel_rfl) rfl ?_;refine qC [3] (by kernel_rfl) rfl ?_;refine qC [5] (by kernel_rfl) rfl ?_;refine qL (by kernel_rfl) ?_;exact ⟨(),trivial,qP ⟨rfl,rfl,rfl,rfl⟩ ⟨rfl,rfl,rfl,rfl,rfl⟩ rfl⟩
  ·intro u hcut2;refine qD ?_;refine acode_frz [2,3] ?_;refine qB ?_;refine Or.inr (Or.inl (zei [] (zei [0,1] (zei _ (zei _ (zei _ (zei _ (zei _ (zai (htk) (zai rfl (zai (zai (zai rfl rfl) (zai (zai rfl rfl) True.intro)) (zai rfl ?_))))))))))));refine qN ?_;exact ⟨rfl,⟨rfl,rfl⟩,rfl⟩
theorem trepF_o (sts : List TSt) (L : Lst) (es : List Edt) (id : Int) (f : List Fld) (i : Nat) (hi : i < L.1.length) (h : atE L.1 id = i) (hf : FldsOk f) (hc : (chkR f).2 = 0) (h0 : 0 < sts.length) (h40 : sts.length ≤ 40) (hl : sts.getD (sts.length - 1) ((([] : List Ent),(0 : Int),(0 : Int)),([] : List Edt)) = (L,es)) (he : es.length ≤ 1000) (hL : L.1.length ≤ 1000000) :
    qY Tryz.prog 21 [.one (.own 0 0),ii .i64 id,.one (.full rFld f)] (txO sts) 2 (.one (.lit .nilIface)) (txO (sts ++ [((replE L.1 i (itmOf f),L.2),es ++ [(1,id,f)])])) 2:=by
  refine acallo_arg (fun ok ρ w vs h=>?_) (trep_o sts L es id f i hi h hf hc h0 h40 hl he hL);obtain ⟨v,r,rfl,h1,v2,r2,rfl,h2,v3,r3,rfl,h3,h4⟩:=h;exact ⟨v,_,rfl,h1,v2,_,rfl,h2,v3,_,rfl,h3.1,h4⟩
theorem trepN_c (id : Int) (f : List Fld) (hf : f.length ≤ 1000000) : qW Tryz.prog 21 [.one (.lit (.pointer none)),ii .i64 id,.one (.sl rFld f)] (.one (errN 9)):=by
  refine qV (rs:=[6]) Tryz.func21 rfl rfl rfl teOk rfl ?_;refine qD ?_;refine qB ?_;refine acode_cut (fun (u : Unit)=>True) (fun (u : Unit)=>[(0,.one (.lit (.pointer none))),(4,.one (.own 0 0)),(5,.one (.own 1 0)),(7,.one (.own 2 0))]) (fun (u : Unit)=>[(0,.box 3 [.lit (.int .i64 id)]),(1,.box 29 [.sl rFld f]),(2,.box 31 (toL rEdt (1,id,f)))]) 3 ?_ ?_
  ·refine yL rfl ?_;refine qC [0,1,4] (by kernel_rfl) rfl ?_;refine zai ?_ ?_
   ·refine qC [1,4] (by kernel_rfl) rfl ?_;refine zai ?_ ?_
    ·refine qC [2,4] (by kernel_rfl) rfl ?_;refine zai ?_ ?_
     ·refine Or.inl ?_;refine zai (rfl) ?_;refine zei _ (zai (yD f hf) ?_);refine qC [3,4] (by kernel_rfl) rfl ?_;refine zai ?_ ?_
      ·refine qC [4] (by kernel_rfl) rfl ?_;refine qC [5] (by kernel_rfl) rfl ?_;refine qL (by kernel_rfl) ?_;exact ⟨(),trivial,qP ⟨rfl,rfl,rfl,rfl⟩ ⟨rfl,rfl,rfl⟩ rfl⟩
      ·refine qC [3] (by kernel_rfl) rfl ?_;refine qC [5] (by kernel_rfl) rfl ?_;refine qL (by kernel_rfl) ?_;exact ⟨(),trivial,qP ⟨rfl,rfl,rfl,rfl⟩ ⟨rfl,rfl,rfl⟩ rfl⟩
     ·refine qC [2] (by kernel_rfl) rfl ?_;refine Or.inl ?_;refine zai (rfl) ?_;refine zei _ (zai (yD f hf) ?_);refine qC [3] (by kernel_rfl) rfl ?_;refine qC [5] (by kernel_rfl) rfl ?_;refine qL (by kernel_rfl) ?_;exact ⟨(),trivial,qP ⟨rfl,rfl,rfl,rfl⟩ ⟨rfl,rfl,rfl⟩ rfl⟩
    ·refine qC [1] (by kernel_rfl) rfl ?_;refine qC [2] (by kernel_rfl) rfl ?_;refine Or.inl ?_;refine zai (rfl) ?_;refine zei _ (zai (yD f hf) ?_);refine qC [3] (by kernel_rfl) rfl ?_;refine qC [5] (by kernel_rfl) rfl ?_;refine qL (by kernel_rfl) ?_;exact ⟨(),trivial,qP ⟨rfl,rfl,rfl,rfl⟩ ⟨rfl,rfl,rfl⟩ rfl⟩
   refine zai ?_ ?_
   ·refine qC [0,2,4] (by kernel_rfl) rfl ?_;refine zai ?_ ?_
    ·refine qC [2,4] (by kernel_rfl) rfl ?_;refine zai ?_ ?_
     ·refine Or.inl ?_;refine zai (rfl) ?_;refine zei _ (zai (yD f hf) ?_);refine qC [3,4] (by kernel_rfl) rfl ?_;refine zai ?_ ?_
      ·refine qC [4] (by kernel_rfl) rfl ?_;refine qC [5] (by kernel_rfl) rfl ?_;refine qL (by kernel_rfl) ?_;exact ⟨(),trivial,qP ⟨rfl,rfl,rfl,rfl⟩ ⟨rfl,rfl,rfl⟩ rfl⟩
      ·refine qC [3] (by kernel_rfl) rfl ?_;refine qC [5] (by kernel_rfl) rfl ?_;refine qL (by kernel_rfl) ?_;exact ⟨(),trivial,qP ⟨rfl,rfl,rfl,rfl⟩ ⟨rfl,rfl,rfl⟩ rfl⟩
     ·refine qC [2] (by kernel_rfl) rfl ?_;refine Or.inl ?_;refine zai (rfl) ?_;refine zei _ (zai (yD f hf) ?_);refine qC [3] (by kernel_rfl) rfl ?_;refine qC [5] (by kernel_rfl) rfl ?_;refine qL (by kernel_rfl) ?_;exact ⟨(),trivial,qP ⟨rfl,rfl,rfl,rfl⟩ ⟨rfl,rfl,rfl⟩ rfl⟩
    refine zai ?_ ?_
    ·refine Or.inl ?_;refine zai (rfl) ?_;refine zei _ (zai (yD f hf) ?_);refine qC [0,4] (by kernel_rfl) rfl ?_;refine zai ?_ ?_
     ·refine qC [3,4] (by kernel_rfl) rfl ?_;refine zai ?_ ?_
      ·refine qC [4] (by kernel_rfl) rfl ?_;refine qC [5] (by kernel_rfl) rfl ?_;refine qL (by kernel_rfl) ?_;exact ⟨(),trivial,qP ⟨rfl,rfl,rfl,rfl⟩ ⟨rfl,rfl,rfl⟩ rfl⟩
      ·refine qC [3] (by kernel_rfl) rfl ?_;refine qC [5] (by kernel_rfl) rfl ?_;refine qL (by kernel_rfl) ?_;exact ⟨(),trivial,qP ⟨rfl,rfl,rfl,rfl⟩ ⟨rfl,rfl,rfl⟩ rfl⟩
     ·refine qC [0] (by kernel_rfl) rfl ?_;refine qC [3] (by kernel_rfl) rfl ?_;refine qC [5] (by kernel_rfl) rfl ?_;refine qL (by kernel_rfl) ?_;exact ⟨(),trivial,qP ⟨rfl,rfl,rfl,rfl⟩ ⟨rfl,rfl,rfl⟩ rfl⟩
    ·refine qC [0,2] (by kernel_rfl) rfl ?_;refine zai ?_ ?_
     ·refine qC [2] (by kernel_rfl) rfl ?_;refine Or.inl ?_;refine zai (rfl) ?_;refine zei _ (zai (yD f hf) ?_);refine qC [3] (by kernel_rfl) rfl ?_;refine qC [5] (by kernel_rfl) rfl ?_;refine qL (by kernel_rfl) ?_;exact ⟨(),trivial,qP ⟨rfl,rfl,rfl,rfl⟩ ⟨rfl,rfl,rfl⟩ rfl⟩
     ·refine Or.inl ?_;refine zai (rfl) ?_;refine zei _ (zai (yD f hf) ?_);refine qC [0] (by kernel_rfl) rfl ?_;refine qC [3] (by kernel_rfl) rfl ?_;refine qC [5] (by kernel_rfl) rfl ?_;refine qL (by kernel_rfl) ?_;exact ⟨(),trivial,qP ⟨rfl,rfl,rfl,rfl⟩ ⟨rfl,rfl,rfl⟩ rfl⟩
   ·refine qC [0,1] (by kernel_rfl) rfl ?_;refine zai ?_ ?_
    ·refine qC [1] (by kernel_rfl) rfl ?_;refine qC [2] (by kernel_rfl) rfl ?_;refine Or.inl ?_;refine zai (rfl) ?_;refine zei _ (zai (yD f hf) ?_);refine qC [3] (by kernel_rfl) rfl ?_;refine qC [5] (by kernel_rfl) rfl ?_;refine qL (by kernel_rfl) ?_;exact ⟨(),trivial,qP ⟨rfl,rfl,rfl,rfl⟩ ⟨rfl,rfl,rfl⟩ rfl⟩
    ·refine qC [0,2] (by kernel_rfl) rfl ?_;refine zai ?_ ?_
     ·refine qC [2] (by kernel_rfl) rfl ?_;refine Or.inl ?_;refine zai (rfl) ?_;refine zei _ (zai (yD f hf) ?_);refine qC [3] (by kernel_rfl) rfl ?_;refine qC [5] (by kernel_rfl) rfl ?_;refine qL (by kernel_rfl) ?_;exact ⟨(),trivial,qP ⟨rfl,rfl,rfl,rfl⟩ ⟨rfl,rfl,rfl⟩ rfl⟩
     ·refine Or.inl ?_;refine zai (rfl) ?_;refine zei _ (zai (yD f hf) ?_);refine qC [0] (by kernel_rfl) rfl ?_;refine qC [3] (by kernel_rfl) rfl ?_;refine qC [5] (by kernel_rfl) rfl ?_;refine qL (by kernel_rfl) ?_;exact ⟨(),trivial,qP ⟨rfl,rfl,rfl,rfl⟩ ⟨rfl,rfl,rfl⟩ rfl⟩
  ·intro u hcut2;refine qD ?_;refine acode_frz [0,1] ?_;refine qB ?_;refine Or.inl ?_;refine zai (rfl) ?_;refine zei _ (zai (ttakeN_any (1,id,f) _) ?_);refine qN ?_;rfl
theorem tdel_o (sts : List TSt) (L : Lst) (es : List Edt) (id : Int) (i : Nat) (hi : i < L.1.length) (h : atE L.1 id = i) (hm : 0 ≤ L.2.2 ∧ L.2.2 ≤ 1000000) (h0 : 0 < sts.length) (h40 : sts.length ≤ 40) (hl : sts.getD (sts.length - 1) ((([] : List Ent),(0 : Int),(0 : Int)),([] : List Edt)) = (L,es)) (he : es.length ≤ 1000) (hL : L.1.length ≤ 1000000) :
    qY Tryz.prog 22 [.one (.own 0 0),ii .i64 id] (txO sts) 2 (.one (.lit .nilIface)) (txO (sts ++ [((delE L.1 i,L.2.1,L.2.2 - 1),es ++ [(2,id,[])])])) 2:=by
  have htk':=ttake1_o (.int .i64) id sts L _ es (2,id,[]) h0 h40 hl he hL (tdel1_o L id i hi h hm hL);have htk : qY Tryz.prog 70 [.one (.own 0 0),delA2 id,.one (.clo 74 (.addr (.int .i64) id))] (txO sts) 2 (.one (.lit .nilIface)) (txO (sts ++ [((delE L.1 i,L.2.1,L.2.2 - 1),es ++ [(2,id,[])])])) 2:=by
    refine acallo_arg (fun ok ρ w vs h=>?_) htk';obtain ⟨v,r,rfl,h1,v2,r2,rfl,h2,h3⟩:=h;exact ⟨v,_,rfl,h1,v2,_,rfl,del_rep h2,h3⟩
  refine qU (rs:=[4]) Tryz.func22 rfl rfl rfl teOk (by decide) rfl ?_;refine qD ?_;refine qB ?_;refine qD ?_;refine acode_frz [2] ?_;refine qB ?_;refine Or.inr (Or.inl (zei [] (zei [0,1] (zei _ (zei _ (zei _ (zei _ (zei _ (zai (htk) (zai rfl (zai (zai (zai rfl rfl) (zai (zai rfl rfl) True.intro)) (zai rfl ?_))))))))))));refine qN ?_;exact ⟨rfl,⟨rfl,rfl⟩,rfl⟩
theorem tdelN_c (id : Int) : qW Tryz.prog 22 [.one (.lit (.pointer none)),ii .i64 id] (.one (errN 9)):=by
  refine qV (rs:=[4]) Tryz.func22 rfl rfl rfl teOk rfl ?_;refine qD ?_;refine qB ?_;refine qD ?_;refine acode_frz [0] ?_;refine qB ?_;refine Or.inl ?_;refine zai (rfl) ?_;refine zei _ (zai (ttakeD_any id _) ?_);refine qN ?_;rfl
theorem tinsN_c (id : Int) (f : List Fld) (hf : f.length ≤ 1000000) : qW Tryz.prog 18 [.one (.lit (.pointer none)),ii .i64 id,.one (.sl rFld f)] (.tup [(false,[.lit (.int .i64 0)]),(false,[errN 9])]):=by
  refine qV (rs:=[6,7]) Tryz.func18 rfl rfl rfl teOk rfl ?_;refine qD ?_;refine qB ?_;refine qD ?_;refine qB ?_;refine acode_cut (fun (u : Unit)=>True) (fun (u : Unit)=>[(0,.one (.lit (.pointer none))),(4,.one (.own 0 0)),(5,.one (.own 1 0)),(8,.one (.own 2 0)),(9,.one (.own 3 0))]) (fun (u : Unit)=>[(0,.box 3 [.lit (.int .i64 id)]),(1,.box 29 [.sl rFld f]),(2,.box 3 [.lit (.int .i64 0)]),(3,.box 31 (toL rEdt (3,id,f)))]) 4 ?_ ?_
  ·refine yL rfl ?_;refine qC [0,1,4] (by kernel_rfl) rfl ?_;refine zai ?_ ?_
   ·refine qC [1,4] (by kernel_rfl) rfl ?_;refine zai ?_ ?_
    ·refine qC [2,4] (by kernel_rfl) rfl ?_;refine zai ?_ ?_
     ·refine Or.inl ?_;refine zai (rfl) ?_;refine zei _ (zai (yD f hf) ?_);refine qC [3,4] (by kernel_rfl) rfl ?_;refine zai ?_ ?_
      ·refine qC [4] (by kernel_rfl) rfl ?_;refine qC [5] (by kernel_rfl) rfl ?_;refine qL (by kernel_rfl) ?_;exact ⟨(),trivial,qP ⟨rfl,rfl,rfl,rfl,rfl⟩ ⟨rfl,rfl,rfl,rfl⟩ rfl⟩
      ·refine qC [3] (by kernel_rfl) rfl ?_;refine qC [5] (by kernel_rfl) rfl ?_;refine qL (by kernel_rfl) ?_;exact ⟨(),trivial,qP ⟨rfl,rfl,rfl,rfl,rfl⟩ ⟨rfl,rfl,rfl,rfl⟩ rfl⟩
     ·refine qC [2] (by kernel_rfl) rfl ?_;refine Or.inl ?_;refine zai (rfl) ?_;refine zei _ (zai (yD f hf) ?_);refine qC [3] (by kernel_rfl) rfl ?_;refine qC [5] (by kernel_rfl) rfl ?_;refine qL (by kernel_rfl) ?_;exact ⟨(),trivial,qP ⟨rfl,rfl,rfl,rfl,rfl⟩ ⟨rfl,rfl,rfl,rfl⟩ rfl⟩
    ·refine qC [1] (by kernel_rfl) rfl ?_;refine qC [2] (by kernel_rfl) rfl ?_;refine Or.inl ?_;refine zai (rfl) ?_;refine zei _ (zai (yD f hf) ?_);refine qC [3] (by kernel_rfl) rfl ?_;refine qC [5] (by kernel_rfl) rfl ?_;refine qL (by kernel_rfl) ?_;exact ⟨(),trivial,qP ⟨rfl,rfl,rfl,rfl,rfl⟩ ⟨rfl,rfl,rfl,rfl⟩ rfl⟩
   refine zai ?_ ?_
   ·refine qC [0,2,4] (by kernel_rfl) rfl ?_;refine zai ?_ ?_
    ·refine qC [2,4] (by kernel_rfl) rfl ?_;refine zai ?_ ?_
     ·refine Or.inl ?_;refine zai (rfl) ?_;refine zei _ (zai (yD f hf) ?_);refine qC [3,4] (by kernel_rfl) rfl ?_;refine zai ?_ ?_
      ·refine qC [4] (by kernel_rfl) rfl ?_;refine qC [5] (by kernel_rfl) rfl ?_;refine qL (by kernel_rfl) ?_;exact ⟨(),trivial,qP ⟨rfl,rfl,rfl,rfl,rfl⟩ ⟨rfl,rfl,rfl,rfl⟩ rfl⟩
      ·refine qC [3] (by kernel_rfl) rfl ?_;refine qC [5] (by kernel_rfl) rfl ?_;refine qL (by kernel_rfl) ?_;exact ⟨(),trivial,qP ⟨rfl,rfl,rfl,rfl,rfl⟩ ⟨rfl,rfl,rfl,rfl⟩ rfl⟩
     ·refine qC [2] (by kernel_rfl) rfl ?_;refine Or.inl ?_;refine zai (rfl) ?_;refine zei _ (zai (yD f hf) ?_);refine qC [3] (by kernel_rfl) rfl ?_;refine qC [5] (by kernel_rfl) rfl ?_;refine qL (by kernel_rfl) ?_;exact ⟨(),trivial,qP ⟨rfl,rfl,rfl,rfl,rfl⟩ ⟨rfl,rfl,rfl,rfl⟩ rfl⟩
    refine zai ?_ ?_
    ·refine Or.inl ?_;refine zai (rfl) ?_;refine zei _ (zai (yD f hf) ?_);refine qC [0,4] (by kernel_rfl) rfl ?_;refine zai ?_ ?_
     ·refine qC [3,4] (by kernel_rfl) rfl ?_;refine zai ?_ ?_
      ·refine qC [4] (by kernel_rfl) rfl ?_;refine qC [5] (by kernel_rfl) rfl ?_;refine qL (by kernel_rfl) ?_;exact ⟨(),trivial,qP ⟨rfl,rfl,rfl,rfl,rfl⟩ ⟨rfl,rfl,rfl,rfl⟩ rfl⟩
      ·refine qC [3] (by kernel_rfl) rfl ?_;refine qC [5] (by kernel_rfl) rfl ?_;refine qL (by kernel_rfl) ?_;exact ⟨(),trivial,qP ⟨rfl,rfl,rfl,rfl,rfl⟩ ⟨rfl,rfl,rfl,rfl⟩ rfl⟩
     ·refine qC [0] (by kernel_rfl) rfl ?_;refine qC [3] (by kernel_rfl) rfl ?_;refine qC [5] (by kernel_rfl) rfl ?_;refine qL (by kernel_rfl) ?_;exact ⟨(),trivial,qP ⟨rfl,rfl,rfl,rfl,rfl⟩ ⟨rfl,rfl,rfl,rfl⟩ rfl⟩
    ·refine qC [0,2] (by kernel_rfl) rfl ?_;refine zai ?_ ?_
     ·refine qC [2] (by kernel_rfl) rfl ?_;refine Or.inl ?_;refine zai (rfl) ?_;refine zei _ (zai (yD f hf) ?_);refine qC [3] (by kernel_rfl) rfl ?_;refine qC [5] (by kernel_rfl) rfl ?_;refine qL (by kernel_rfl) ?_;exact ⟨(),trivial,qP ⟨rfl,rfl,rfl,rfl,rfl⟩ ⟨rfl,rfl,rfl,rfl⟩ rfl⟩
     ·refine Or.inl ?_;refine zai (rfl) ?_;refine zei _ (zai (yD f hf) ?_);refine qC [0] (by kernel_rfl) rfl ?_;refine qC [3] (by kernel_rfl) rfl ?_;refine qC [5] (by kernel_rfl) rfl ?_;refine qL (by kernel_rfl) ?_;exact ⟨(),trivial,qP ⟨rfl,rfl,rfl,rfl,rfl⟩ ⟨rfl,rfl,rfl,rfl⟩ rfl⟩
   ·refine qC [0,1] (by kernel_rfl) rfl ?_;refine zai ?_ ?_
    ·refine qC [1] (by kernel_rfl) rfl ?_;refine qC [2] (by kernel_rfl) rfl ?_;refine Or.inl ?_;refine zai (rfl) ?_;refine zei _ (zai (yD f hf) ?_);refine qC [3] (by kernel_rfl) rfl ?_;refine qC [5] (by kernel_rfl) rfl ?_;refine qL (by kernel_rfl) ?_;exact ⟨(),trivial,qP ⟨rfl,rfl,rfl,rfl,rfl⟩ ⟨rfl,rfl,rfl,rfl⟩ rfl⟩
    ·refine qC [0,2] (by kernel_rfl) rfl ?_;refine zai ?_ ?_
     ·refine qC [2] (by kernel_rfl) rfl ?_;refine Or.inl ?_;refine zai (rfl) ?_;refine zei _ (zai (yD f hf) ?_);refine qC [3] (by kernel_rfl) rfl ?_;refine qC [5] (by kernel_rfl) rfl ?_;refine qL (by kernel_rfl) ?_;exact ⟨(),trivial,qP ⟨rfl,rfl,rfl,rfl,rfl⟩ ⟨rfl,rfl,rfl,rfl⟩ rfl⟩
     ·refine Or.inl ?_;refine zai (rfl) ?_;refine zei _ (zai (yD f hf) ?_);refine qC [0] (by kernel_rfl) rfl ?_;refine qC [3] (by kernel_rfl) rfl ?_;refine qC [5] (by kernel_rfl) rfl ?_;refine qL (by kernel_rfl) ?_;exact ⟨(),trivial,qP ⟨rfl,rfl,rfl,rfl,rfl⟩ ⟨rfl,rfl,rfl,rfl⟩ rfl⟩
  ·intro u hcut3;refine qD ?_;refine qB ?_;refine Or.inl ?_;refine zai (rfl) ?_;refine zei _ (zai (ttakeN_any (3,id,f) _) ?_);refine qD ?_;refine qD ?_;refine qB ?_;refine qM rfl (fun h20=>?_) (fun h20=>?_)
   ·skip
    refine qD ?_;refine qB ?_;refine qN ?_;rfl
   ·try simp only [zbq] at h20
    try simp only [zds] at h20
    simp at h20
theorem tback_o (sts : List TSt) (m : Nat) (hm : m + 1 < sts.length) (hl : sts.length ≤ 1000000) : qY Tryz.prog 23 [.one (.own 0 0),ii .i64 m] (txO sts) 2 (.one (.lit .nilIface)) (txO (sts.take (m + 1))) 2:=by
  refine qU (rs:=[4]) Tryz.func23 rfl rfl rfl teOk (by decide) rfl ?_;refine qD ?_;refine qB ?_;refine qD ?_;refine qR ?_;refine qD ?_;refine qB ?_;refine Or.inr (Or.inr (Or.inl ?_));refine zai rfl ?_;refine zei _ (zai (topen_c sts) ?_);refine qM rfl (fun h5=>?_) (fun h5=>?_)
  ·try simp only [decide_eq_false_iff_not,Bool.not_eq_true'] at h5
   try simp only [zds] at h5
   exfalso
   simp at h5;have h9 : sts.length = 0:=(by rw [h5];rfl);omega
  ·try simp only [decide_eq_true_eq,Bool.not_eq_false'] at h5
   try simp only [zds] at h5
   refine qD ?_;refine qB ?_;refine zai (fun h=>trivial) ?_;refine zai (fun h=>trivial) ?_;refine Or.inr (zai (by (simp [gq])) (zai (by repeat' (first|exact True.intro|apply zai|rfl|decide|simp)) ?_));refine Or.inr (Or.inr (Or.inl ?_));refine zai rfl ?_;refine zei _ (zai (tmark_c sts (by omega)) ?_);refine zai (fun h=>⟨⟨h,trivial⟩,trivial⟩) ?_;refine zai (by first|(intro h;rw [h];rfl)|(intro h;cases h)) ?_;refine qM rfl (fun h10=>?_) (fun h10=>?_)
   ·try simp only [decide_eq_true_eq,Bool.or_eq_true] at h10
    try simp only [zds] at h10
    exfalso
    omega
   ·try simp only [decide_eq_false_iff_not,Bool.or_eq_false_iff,Int.not_lt] at h10
    try simp only [zds] at h10
    refine qO ?_;refine qD ?_;refine acode_part [_,_,_,_,_,_,_] [_,_,_,_] rfl (zai (by omega) (Eq.refl _)) ?_;intro hte rd n cx e1 e2 ρ a w hs;refine cut_sound (kk:=m + 1) Tryz.underlying121 tyTst rfl rfl rfl rfl (by rw [e1];decide) hs rfl rfl rfl (by omega) (fun ρ a hs'=>?_);refine awp_last hte e1 e2 [_,_,_] hs' (Eq.refl _) ?_;clear hs hte hs';refine qD ?_;refine qB ?_;refine qN ?_;exact ⟨rfl,⟨rfl,rfl⟩,rfl⟩
theorem tbackN_c (m : Int) : qW Tryz.prog 23 [.one (.lit (.pointer none)),ii .i64 m] (.one (errN 9)):=by
  refine qV (rs:=[4]) Tryz.func23 rfl rfl rfl teOk rfl ?_;refine qD ?_;refine qB ?_;refine qD ?_;refine qR ?_;refine qD ?_;refine qB ?_;refine Or.inl ?_;refine zai (rfl) ?_;refine zei _ (zai (topenN_c) ?_);refine qM rfl (fun h5=>?_) (fun h5=>?_)
  ·try simp only [Bool.not_eq_true'] at h5
   try simp only [zds] at h5
   refine qD ?_;refine qB ?_;refine qN ?_;rfl
  ·try simp only [Bool.not_eq_false'] at h5
   try simp only [zds] at h5
   simp at h5
theorem tlist_o {k : Nat} (sts : List TSt) (L : Lst) (es : List Edt) (h : 0 < sts.length) (hl : sts.getD (sts.length - 1) ((([] : List Ent),(0 : Int),(0 : Int)),([] : List Edt)) = (L,es)) (hL : L.1.length ≤ 1000000) : qY Tryz.prog 24 [.one (.adk k (.slk k rSt) sts)] [] 0 (.one (.own 1 0)) [(1,.box 134 [.vec 0,.lit (.int .i64 L.2.1),.lit (.int .i64 L.2.2)]),(0,.vec 138 rEnt L.1)] 2:=by
  have hnow:=tnow_c (k:=k) sts h;rw [hl] at hnow;have hcp:=copyL_o (k:=0) L.1 L.2.1 L.2.2 hL;refine qU (rs:=[2]) Tryz.func24 rfl rfl rfl teOk (by decide) rfl ?_;refine qD ?_;refine qB ?_;refine qD ?_;refine qD ?_;refine qB ?_;refine Or.inl ?_;refine zai (rfl) ?_;refine zei _ (zai (topen_c sts) ?_);refine qM rfl (fun h5=>?_) (fun h5=>?_)
  ·try simp only [decide_eq_false_iff_not,Bool.not_eq_true'] at h5
   try simp only [zds] at h5
   exfalso
   simp at h5;have h9 : sts.length = 0:=(by rw [h5];rfl);omega
  ·try simp only [decide_eq_true_eq,Bool.not_eq_false'] at h5
   try simp only [zds] at h5
   refine qO ?_;refine qD ?_;refine qB ?_;refine Or.inl ?_;refine zai (rfl) ?_;refine zei _ (zai (hnow) ?_);refine Or.inr (Or.inl (zei [] (zei [] (zei _ (zei _ (zei _ (zei _ (zei _ (zai (hcp) (zai rfl (zai True.intro (zai rfl ?_))))))))))));refine qN ?_;exact ⟨rfl,⟨rfl,rfl⟩,rfl⟩
theorem tlistN_c : qW Tryz.prog 24 [.one (.lit (.pointer none))] (.one (.lit (.pointer none))):=by
  refine qV (rs:=[2]) Tryz.func24 rfl rfl rfl teOk rfl ?_;refine qD ?_;refine qB ?_;refine qD ?_;refine qD ?_;refine qB ?_;refine Or.inl ?_;refine zai (rfl) ?_;refine zei _ (zai (topenN_c) ?_);refine qM rfl (fun h5=>?_) (fun h5=>?_)
  ·try simp only [Bool.not_eq_true'] at h5
   try simp only [zds] at h5
   refine qD ?_;refine qB ?_;refine qN ?_;rfl
  ·try simp only [Bool.not_eq_false'] at h5
   try simp only [zds] at h5
   simp at h5
theorem tedits_c {k : Nat} (sts : List TSt) (L : Lst) (es : List Edt) (h : 0 < sts.length) (hl : sts.getD (sts.length - 1) ((([] : List Ent),(0 : Int),(0 : Int)),([] : List Edt)) = (L,es)) (hf : ∀ e ∈ es,e.2.2.length ≤ 1000000) (he : es.length ≤ 1000000) : qW Tryz.prog 25 [.one (.adk k (.slk k rSt) sts)] (.one (.sl rEdt es)):=by
  have hnow:=tnow_c (k:=k) sts h;rw [hl] at hnow;have hcp:=copyT_c es hf he;refine qV (rs:=[2]) Tryz.func25 rfl rfl rfl teOk rfl ?_;refine qD ?_;refine qB ?_;refine qD ?_;refine qD ?_;refine qB ?_;refine Or.inl ?_;refine zai (rfl) ?_;refine zei _ (zai (topen_c sts) ?_);refine qM rfl (fun h5=>?_) (fun h5=>?_)
  ·try simp only [decide_eq_false_iff_not,Bool.not_eq_true'] at h5
   try simp only [zds] at h5
   exfalso
   simp at h5;have h9 : sts.length = 0:=(by rw [h5];rfl);omega
  ·try simp only [decide_eq_true_eq,Bool.not_eq_false'] at h5
   try simp only [zds] at h5
   refine qO ?_;refine qD ?_;refine qB ?_;refine Or.inl ?_;refine zai (rfl) ?_;refine zei _ (zai (hnow) ?_);refine Or.inl ?_;refine zai (rfl) ?_;refine zei _ (zai (hcp) ?_);refine qN ?_;rfl
theorem teditsN_c : qW Tryz.prog 25 [.one (.lit (.pointer none))] (.one (.lit (.slice none 0 0))):=by
  refine qV (rs:=[2]) Tryz.func25 rfl rfl rfl teOk rfl ?_;refine qD ?_;refine qB ?_;refine qD ?_;refine qD ?_;refine qB ?_;refine Or.inl ?_;refine zai (rfl) ?_;refine zei _ (zai (topenN_c) ?_);refine qM rfl (fun h5=>?_) (fun h5=>?_)
  ·try simp only [Bool.not_eq_true'] at h5
   try simp only [zds] at h5
   refine qD ?_;refine qB ?_;refine qN ?_;rfl
  ·try simp only [Bool.not_eq_false'] at h5
   try simp only [zds] at h5
   simp at h5
theorem troll_o (sts : List TSt) : qY Tryz.prog 17 [.one (.own 0 0)] (txO sts) 2 (.tup []) [(0,.box 123 [.lit (.slice none 0 0)])] 2:=by
  refine qU (rs:=[]) Tryz.func17 rfl rfl rfl teOk (by decide) rfl ?_;refine qD ?_;refine qB ?_;refine qM rfl (fun h3=>?_) (fun h3=>?_)
  ·skip
   refine qB ?_;exact ⟨rfl,rfl,rfl⟩
  ·try simp only [zbq] at h3
   try simp only [zds] at h3
   simp at h3
theorem trollN_c : qW Tryz.prog 17 [.one (.lit (.pointer none))] (.tup []):=by
  refine qV (rs:=[]) Tryz.func17 rfl rfl rfl teOk rfl ?_;refine qD ?_;refine qB ?_;refine qM rfl (fun h3=>?_) (fun h3=>?_)
  ·try simp only [Bool.not_eq_true'] at h3
   try simp only [zds] at h3
   simp at h3
  ·try simp only [Bool.not_eq_false'] at h3
   try simp only [zds] at h3
   refine qO ?_;rfl
theorem tcommit_o (sts : List TSt) (L : Lst) (es : List Edt) (h : 1 < sts.length) (hl : sts.getD (sts.length - 1) ((([] : List Ent),(0 : Int),(0 : Int)),([] : List Edt)) = (L,es)) (hf : ∀ e ∈ es,e.2.2.length ≤ 1000000) (he : es.length ≤ 1000000) : qY Tryz.prog 19 [.one (.own 0 0)] (txO sts) 2 (.tup [(false,[.sl rEdt es]),(false,[.lit .nilIface])]) [(0,.box 123 [.lit (.slice none 0 0)])] 2:=by
  have hed:=tedits_c (k:=1) sts L es (by omega) hl hf he;refine qU (rs:=[2,3]) Tryz.func19 rfl rfl rfl teOk (by decide) rfl ?_;refine qD ?_;refine qB ?_;refine qD ?_;refine qR ?_;refine qD ?_;refine qB ?_;refine Or.inr (Or.inr (Or.inl ?_));refine zai rfl ?_;refine zei _ (zai (topen_c sts) ?_);refine qM rfl (fun h5=>?_) (fun h5=>?_)
  ·try simp only [decide_eq_false_iff_not,Bool.not_eq_true'] at h5
   try simp only [zds] at h5
   exfalso
   simp at h5;have h9 : sts.length = 0:=(by rw [h5];rfl);omega
  ·try simp only [decide_eq_true_eq,Bool.not_eq_false'] at h5
   try simp only [zds] at h5
   refine qD ?_;refine qB ?_;refine Or.inr (Or.inr (Or.inl ?_));refine zai rfl ?_;refine zei _ (zai (tmark_c sts (by omega)) ?_);refine qM rfl (fun h10=>?_) (fun h10=>?_)
   ·try simp only [decide_eq_true_eq] at h10
    try simp only [zds] at h10
    exfalso
    omega
   ·try simp only [decide_eq_false_iff_not] at h10
    try simp only [zds] at h10
    refine qO ?_;refine qD ?_;refine qB ?_;refine Or.inr (Or.inr (Or.inl ?_));refine zai rfl ?_;refine zei _ (zai (hed) ?_);refine qD ?_;refine qB ?_;refine Or.inr (Or.inl (zei [] (zei [0,1] (zei _ (zei _ (zei _ (zei _ (zei _ (zai (troll_o sts) (zai rfl (zai (zai (zai rfl rfl) (zai (zai rfl rfl) True.intro)) (zai rfl ?_))))))))))));refine qD ?_;refine qB ?_;refine qN ?_;exact ⟨rfl,rfl,rfl⟩
theorem tcommitN_c : qW Tryz.prog 19 [.one (.lit (.pointer none))] (.tup [(false,[.lit (.slice none 0 0)]),(false,[errN 9])]):=by
  refine qV (rs:=[2,3]) Tryz.func19 rfl rfl rfl teOk rfl ?_;refine qD ?_;refine qB ?_;refine qD ?_;refine qR ?_;refine qD ?_;refine qB ?_;refine Or.inl ?_;refine zai (rfl) ?_;refine zei _ (zai (topenN_c) ?_);refine qM rfl (fun h5=>?_) (fun h5=>?_)
  ·try simp only [Bool.not_eq_true'] at h5
   try simp only [zds] at h5
   refine qD ?_;refine qB ?_;refine qN ?_;rfl
  ·try simp only [Bool.not_eq_false'] at h5
   try simp only [zds] at h5
   simp at h5
end Q
end Ab
end Go.Proofs.YtojipboabgebfaaGreatDoor
namespace Go.Proofs.YtojipboabgebfaaGreatDoor
open Go.RowKit
namespace Ab
set_option maxRecDepth 100000
namespace Q
theorem isT7_c : qW Tryz.prog 20 [.one (errN 7),ii .i64 7] (ib true):=by
  refine qV (rs:=[4]) Tryz.func20 rfl rfl rfl teOk rfl ?_;refine qD ?_;refine qB ?_;refine qD ?_;refine qB ?_;refine Or.inl ?_;refine zai (rfl) ?_;refine zei _ (zai (num_errno 7 (by decide)) ?_);refine qN ?_;rfl
theorem isT9_c : qW Tryz.prog 20 [.one (errN 9),ii .i64 9] (ib true):=by
  refine qV (rs:=[4]) Tryz.func20 rfl rfl rfl teOk rfl ?_;refine qD ?_;refine qB ?_;refine qD ?_;refine qB ?_;refine Or.inl ?_;refine zai (rfl) ?_;refine zei _ (zai (num_errno 9 (by decide)) ?_);refine qN ?_;rfl
def txF : List Fld:=[(⟨#[65]⟩,⟨#[50]⟩)]
def tx0 : Lst:=(al0,2,1)
def tx1 : Lst:=(replE al0 0 (itmOf txF),2,1)
def tx2 : Lst:=(delE (replE al0 0 (itmOf txF)) 0,2,0)
def te1 : List Edt:=[(1,1,txF)]
def te2 : List Edt:=[(1,1,txF),(2,1,[])]
theorem alive17_c : qW Tryz.prog 8 [] (ib true):=by
  have hof:=of_ok ⟨#[65,58,32,49,10]⟩ (by decide) a1_parse7;rw [show ofT [(3,⟨#[65,58,32,49,10]⟩,[(⟨#[65]⟩,⟨#[49]⟩)])] = tx0 from rfl] at hof;have hbe:=(tbegin_o (k:=1) tx0 (by decide)).x;have hrp:=trepF_o [(tx0,[])] tx0 [] 1 txF 0 (by decide) (by decide +kernel) ⟨by decide,by decide⟩ (by decide +kernel) (by decide) (by decide) rfl (by decide) (by decide);rw [show ([(tx0,[])] : List TSt) ++ [((replE tx0.1 0 (itmOf txF),tx0.2),[] ++ [(1,1,txF)])] = [(tx0,[]),(tx1,te1)] from rfl] at hrp;have hmk:=tmark_c (k:=1) [(tx0,[]),(tx1,te1)] (by decide);have hdl:=tdel_o [(tx0,[]),(tx1,te1)] tx1 te1 1 0 (by decide) (by decide +kernel) (by decide) (by decide) (by decide) rfl (by decide) (by decide);rw [show ([(tx0,[]),(tx1,te1)] : List TSt) ++ [((delE tx1.1 0,tx1.2.1,tx1.2.2 - 1),te1 ++ [(2,1,[])])] = [(tx0,[]),(tx1,te1),(tx2,te2)] from rfl] at hdl;have hls:=(tlist_o (k:=1) [(tx0,[]),(tx1,te1),(tx2,te2)] tx2 te2 (by decide) rfl (by decide)).x;have hbk:=tback_o [(tx0,[]),(tx1,te1),(tx2,te2)] 1 (by decide) (by decide);rw [show ([(tx0,[]),(tx1,te1),(tx2,te2)] : List TSt).take (1 + 1) = [(tx0,[]),(tx1,te1)] from rfl] at hbk;have hcm:=tcommit_o [(tx0,[]),(tx1,te1)] tx1 te1 (by decide) rfl (by decide) (by decide);have htx:=textL_c (k:=1) al0 2 1 (by decide) (by decide) (by decide +kernel);rw [show bytes (txtL al0) = ⟨#[65,58,32,49,10]⟩ from by decide +kernel] at htx;refine qV (rs:=[0]) Tryz.func8 rfl rfl rfl teOk rfl ?_;refine qD ?_;refine qB ?_;refine qD ?_;refine qB ?_;refine Or.inr (Or.inl (zei [] (zei [] (zei _ (zei _ (zei _ (zei _ (zei _ (zai (hof) (zai rfl (zai True.intro (zai rfl ?_))))))))))));refine qD ?_;refine qD ?_;refine qB ?_;refine zai (fun h=>trivial) ?_;refine zai (fun h=>⟨⟨h,trivial⟩,trivial⟩) ?_;refine zai (by first|(intro h;rw [h];rfl)|(intro h;cases h)) ?_;refine qM rfl (fun h15=>?_) (fun h15=>?_)
  ·try simp only [Bool.not_eq_true',Bool.or_eq_true] at h15
   try simp only [zds] at h15
   simp at h15
  ·try simp only [Bool.not_eq_false',Bool.or_eq_false_iff] at h15
   try simp only [zds] at h15
   refine qO ?_;refine qD ?_;refine qB ?_;refine Or.inr (Or.inr (Or.inr (zei [] (zei [] (zei _ (zei _ (zei _ (zei _ (zei _ (zai (hbe) (zai rfl (zai True.intro (zai rfl ?_)))))))))))));refine qD ?_;refine qD ?_;refine qB ?_;refine zai (fun h=>trivial) ?_;refine zai (fun h=>⟨⟨h,trivial⟩,trivial⟩) ?_;refine zai (by first|(intro h;rw [h];rfl)|(intro h;cases h)) ?_;refine zai (fun h=>trivial) ?_;refine zai (fun h=>trivial) ?_;refine zai (fun h=>⟨⟨h,trivial⟩,trivial⟩) ?_;refine Or.inr (zai (by first|rfl|decide|simp) (zai (by repeat' (first|exact True.intro|apply zai|rfl|decide|simp)) ?_));refine Or.inr (Or.inl (zei [] (zei [5,4] (zei _ (zei _ (zei _ (zei _ (zei _ (zai (hrp) (zai rfl (zai (zai (zai rfl rfl) (zai (zai rfl rfl) True.intro)) (zai rfl ?_))))))))))));refine zai (fun h=>trivial) ?_;refine zai (by first|(intro h;rw [h];rfl)|(intro h;cases h)) ?_;refine qM rfl (fun h33=>?_) (fun h33=>?_)
   ·try simp only [Bool.not_eq_true',Bool.or_eq_true] at h33
    try simp only [zds] at h33
    simp at h33
   ·try simp only [Bool.not_eq_false',Bool.or_eq_false_iff] at h33
    try simp only [zds] at h33
    refine qO ?_;refine qD ?_;refine qB ?_;refine Or.inr (Or.inr (Or.inl ?_));refine zai rfl ?_;refine zei _ (zai (hmk) ?_);refine qD ?_;refine qD ?_;refine qB ?_;refine Or.inr (Or.inl (zei [] (zei [5,4] (zei _ (zei _ (zei _ (zei _ (zei _ (zai (hdl) (zai rfl (zai (zai (zai rfl rfl) (zai (zai rfl rfl) True.intro)) (zai rfl ?_))))))))))));refine zai (fun h=>trivial) ?_;refine Or.inr (zai (by first|rfl|decide|simp) (zai (by repeat' (first|exact True.intro|apply zai|rfl|decide|simp)) ?_));refine Or.inr (Or.inr (Or.inr (zei [] (zei [] (zei _ (zei _ (zei _ (zei _ (zei _ (zai (hls) (zai rfl (zai True.intro (zai rfl ?_)))))))))))));refine Or.inr (zai (by first|rfl|decide|simp) (zai (by repeat' (first|exact True.intro|apply zai|rfl|decide|simp)) ?_));refine Or.inr (Or.inr (Or.inl ?_));refine zai rfl ?_;refine zei _ (zai (len_c tx2.1 tx2.2.1 tx2.2.2) ?_);refine zai (fun h=>trivial) ?_;refine zai (by first|(intro h;rw [h];rfl)|(intro h;cases h)) ?_;refine zai (fun h=>trivial) ?_;refine zai (fun h=>trivial) ?_;refine Or.inr (zai (by first|rfl|decide|simp) (zai (by repeat' (first|exact True.intro|apply zai|rfl|decide|simp)) ?_));refine Or.inr (Or.inl (zei [] (zei [5,4] (zei _ (zei _ (zei _ (zei _ (zei _ (zai (hbk) (zai rfl (zai (zai (zai rfl rfl) (zai (zai rfl rfl) True.intro)) (zai rfl ?_))))))))))));refine zai (fun h=>trivial) ?_;refine zai (by first|(intro h;rw [h];rfl)|(intro h;cases h)) ?_;refine qM rfl (fun h50=>?_) (fun h50=>?_)
    ·try simp only [decide_eq_false_iff_not,Bool.not_eq_true',Bool.or_eq_true] at h50
     try simp only [zds] at h50
     simp at h50;exact absurd rfl h50
    ·try simp only [decide_eq_true_eq,Bool.not_eq_false',Bool.or_eq_false_iff] at h50
     try simp only [zds] at h50
     refine qO ?_;refine qD ?_;refine qB ?_;refine Or.inr (Or.inl (zei [] (zei [5,4] (zei _ (zei _ (zei _ (zei _ (zei _ (zai (hcm) (zai rfl (zai (zai (zai rfl rfl) (zai (zai rfl rfl) True.intro)) (zai rfl ?_))))))))))));refine qD ?_;refine qB ?_;refine zai (fun h=>trivial) ?_;refine zai (fun h=>⟨⟨h,trivial⟩,trivial⟩) ?_;refine zai (fun h=>⟨⟨h,trivial⟩,trivial⟩) ?_;refine zai (by exact fun h=>h) ?_;refine zai (fun h=>trivial) ?_;refine zai (fun h=>⟨⟨⟨h,trivial⟩,trivial⟩,by first|omega|decide|(simp only [zds];omega)|(have h9:=of_decide_eq_true h;omega)|(simp [gq] at h;omega)⟩) ?_;refine zai (fun h=>⟨⟨h,trivial⟩,trivial⟩) ?_;refine zai (fun h=>⟨⟨h,trivial⟩,trivial⟩) ?_;refine zai (fun h=>⟨⟨h,trivial⟩,trivial⟩) ?_;refine zai (by exact fun h=>h) ?_;refine zai (fun h=>trivial) ?_;refine zai (fun h=>⟨⟨h,trivial⟩,trivial⟩) ?_;refine zai (by exact fun h=>h) ?_;refine zai (fun h=>trivial) ?_;refine Or.inr (zai (by first|rfl|decide|simp) (zai (by repeat' (first|exact True.intro|apply zai|rfl|decide|simp)) ?_));refine Or.inr (Or.inr (Or.inl ?_));refine zai rfl ?_;refine zei _ (zai (htx) ?_);refine zai (fun h=>trivial) ?_;refine zai (by exact fun h=>h) ?_;refine qN ?_;exact ib_eq (by decide)
theorem TxnNone_c (id : Int) (f : List Fld) : qW Tryz.prog 4 [ii .i64 id,.one (.sl rFld f)] (ib true):=by
  have hmu:=much_c f
  by_cases hm : muchB f = true
  · rw [hm] at hmu;refine qV (rs:=[4]) Tryz.func4 rfl rfl rfl teOk rfl ?_;refine qD ?_;refine qB ?_;refine qD ?_;refine qD ?_;refine qB ?_;refine Or.inl ?_;refine zai (rfl) ?_;refine zei _ (zai (alive17_c) ?_);refine qM rfl (fun h13=>?_) (fun h13=>?_)
    ·try simp only [Bool.not_eq_true'] at h13
     try simp only [zds] at h13
     simp at h13
    ·try simp only [Bool.not_eq_false'] at h13
     try simp only [zds] at h13
     refine qO ?_;refine qD ?_;refine qD ?_;refine qB ?_;refine Or.inl ?_;refine zai (rfl) ?_;refine zei _ (zai (hmu) ?_);refine qM rfl (fun h15=>?_) (fun h15=>?_)
     ·skip
      refine qD ?_;refine qB ?_;refine qN ?_;rfl
     ·try simp only [zbq] at h15
      try simp only [zds] at h15
      simp at h15
  · have hm : muchB f = false:=by simpa using hm
    rw [hm] at hmu;have hf:=much_ok hm;have hl : f.length ≤ 1000000:=Nat.le_trans hf.1 (by decide);refine qV (rs:=[4]) Tryz.func4 rfl rfl rfl teOk rfl ?_;refine qD ?_;refine qB ?_;refine qD ?_;refine qD ?_;refine qB ?_;refine Or.inl ?_;refine zai (rfl) ?_;refine zei _ (zai (alive17_c) ?_);refine qM rfl (fun h13=>?_) (fun h13=>?_)
    ·try simp only [Bool.not_eq_true'] at h13
     try simp only [zds] at h13
     simp at h13
    ·try simp only [Bool.not_eq_false'] at h13
     try simp only [zds] at h13
     refine qO ?_;refine qD ?_;refine qD ?_;refine qB ?_;refine Or.inl ?_;refine zai (rfl) ?_;refine zei _ (zai (hmu) ?_);refine qM rfl (fun h15=>?_) (fun h15=>?_)
     ·try simp only [zbq] at h15
      try simp only [zds] at h15
      simp at h15
     ·skip
      refine qO ?_;refine qD ?_;refine qB ?_;refine Or.inl ?_;refine zai (rfl) ?_;refine zei _ (zai (tbeginN_c) ?_);refine qD ?_;refine qB ?_;refine qD ?_;refine qB ?_;refine Or.inl ?_;refine zai (rfl) ?_;refine zei _ (zai (trollN_c) ?_);refine qD ?_;refine qB ?_;refine Or.inl ?_;refine zai (rfl) ?_;refine zei _ (zai (tinsN_c id f hl) ?_);refine qD ?_;refine qB ?_;refine Or.inl ?_;refine zai (rfl) ?_;refine zei _ (zai (tcommitN_c) ?_);refine qD ?_;refine qB ?_;refine Or.inl ?_;refine zai (rfl) ?_;refine zei _ (zai (isT7_c) ?_);refine zai (fun h=>trivial) ?_;refine Or.inl ?_;refine zai (rfl) ?_;refine zei _ (zai (fun h=>⟨⟨⟨h,trivial⟩,trivial⟩,isT9_c⟩) ?_);refine zai (by exact fun h=>h) ?_;refine zai (fun h=>trivial) ?_;refine Or.inl ?_;refine zai (rfl) ?_;refine zei _ (zai (fun h=>⟨⟨⟨h,trivial⟩,trivial⟩,isT9_c⟩) ?_);refine zai (by exact fun h=>h) ?_;refine zai (fun h=>trivial) ?_;refine zai (fun h=>trivial) ?_;refine zai (fun h=>trivial) ?_;refine Or.inl ?_;refine zai (rfl) ?_;refine zei _ (zai (fun h=>⟨⟨⟨h,trivial⟩,⟨h,trivial⟩,⟨h,trivial⟩,trivial⟩,trepN_c id f hl⟩) ?_);refine Or.inl ?_;refine zai (rfl) ?_;refine zei _ (zai (fun h=>⟨⟨⟨h,trivial⟩,trivial⟩,isT9_c⟩) ?_);refine zai (by exact fun h=>h) ?_;refine zai (fun h=>trivial) ?_;refine zai (fun h=>trivial) ?_;refine Or.inl ?_;refine zai (rfl) ?_;refine zei _ (zai (fun h=>⟨⟨⟨h,trivial⟩,⟨h,trivial⟩,trivial⟩,tdelN_c id⟩) ?_);refine Or.inl ?_;refine zai (rfl) ?_;refine zei _ (zai (fun h=>⟨⟨⟨h,trivial⟩,trivial⟩,isT9_c⟩) ?_);refine zai (by exact fun h=>h) ?_;refine zai (fun h=>trivial) ?_;refine zai (fun h=>trivial) ?_;refine Or.inl ?_;refine zai (rfl) ?_;refine zei _ (zai (fun h=>⟨⟨⟨h,trivial⟩,⟨h,trivial⟩,trivial⟩,tbackN_c id⟩) ?_);refine Or.inl ?_;refine zai (rfl) ?_;refine zei _ (zai (fun h=>⟨⟨⟨h,trivial⟩,trivial⟩,isT9_c⟩) ?_);refine zai (by exact fun h=>h) ?_;refine zai (fun h=>trivial) ?_;refine Or.inl ?_;refine zai (rfl) ?_;refine zei _ (zai (fun h=>⟨⟨⟨h,trivial⟩,trivial⟩,tlistN_c⟩) ?_);refine zai (fun h=>⟨⟨h,trivial⟩,trivial⟩) ?_;refine zai (by exact fun h=>h) ?_;refine zai (fun h=>trivial) ?_;refine Or.inl ?_;refine zai (rfl) ?_;refine zei _ (zai (fun h=>⟨⟨⟨h,trivial⟩,trivial⟩,teditsN_c⟩) ?_);refine zai (fun h=>⟨⟨h,trivial⟩,trivial⟩) ?_;refine zai (fun h=>⟨⟨h,trivial⟩,trivial⟩) ?_;refine zai (by exact fun h=>h) ?_;refine zai (fun h=>trivial) ?_;refine Or.inl ?_;refine zai (rfl) ?_;refine zei _ (zai (fun h=>⟨⟨⟨h,trivial⟩,trivial⟩,tmarkN_c⟩) ?_);refine zai (fun h=>⟨⟨h,trivial⟩,trivial⟩) ?_;refine zai (by exact fun h=>h) ?_;refine qN ?_;exact ib_eq (by simp)
end Q
end Ab
end Go.Proofs.YtojipboabgebfaaGreatDoor
namespace Go.Proofs.YtojipboabgebfaaGreatDoor
open Go.RowKit
namespace Ab
set_option maxRecDepth 100000
theorem o_str : Opens Tryz.prog 9 .str:=opens_str Tryz.underlying9 (by kernel_rfl)
theorem o_field : Opens Tryz.prog 107 (.st .str .str):=opens_st Tryz.underlying107 (by kernel_rfl) (.cons rfl o_str (.one rfl o_str))
theorem o_fields : Opens Tryz.prog 29 (.sl (.st .str .str)):=opens_sl (by decide) Tryz.underlying29 (by kernel_rfl) o_field
theorem open_fields {H : Type} {enc : TypeId × Value → H} {W : World} {base : Nat} {v : Value} {d : DataW H} {p : List MemPlace} (hv : Value.okWide Tryz.prog W .any base 29 v) (h : DataW.Trod enc Tryz.prog W 0 (fun _=>true) true 29 v d p) :
    ∃ xs,(C.sl (.st .str .str) xs).rep AllOk yF W v:=open_sl Tryz.underlying29 o_fields hv h
theorem maxAt {W : World} (h : W.ShapedOpen Tryz.prog) : MaxCell W:=cell_of_shapedOpen_int (g:=1) (t:=3) (zero:=#[.int .i64 0]) h (of_decide_eq_true (by kernel_rfl)) (by kernel_rfl) rfl (by kernel_rfl) (by kernel_rfl) Tryz.underlying3
theorem lt_of_cell0 {W : World} {b : Nat} {v : Value} (h : W.cell? ⟨b,0,none⟩ = some v) : b < W.heap.size:=by
  rcases Nat.lt_or_ge b W.heap.size with h1|h1
  · exact h1
  · exfalso
    simp only [World.cell?,Array.getElem?_eq_none h1] at h;cases h
theorem errAny {W : World} (h : W.ShapedOpen Tryz.prog) : ∃ v,W.cell? ⟨0,0,none⟩ = some v:=by
  obtain ⟨cs,hh,hs,_⟩:=h.1 0 #[.nilIface] 291 (of_decide_eq_true (by kernel_rfl)) (by kernel_rfl);have h1 : 0 < cs.size:=by rw [hs];decide
  exact ⟨cs[0],by simp [World.cell?,hh,h1]⟩
theorem globAt {W : World} (h : W.ShapedOpen Tryz.prog) : GlobAt AllOk W:=by
  obtain ⟨m,hm⟩:=maxAt h;obtain ⟨v,hv⟩:=errAny h;refine ⟨fun _ _=>trivial,?_,⟨m,hm⟩,v,hv⟩;have h1:=lt_of_cell0 hm;have h2:=lt_of_cell0 hv;unfold nGlob;omega
end Ab
end Go.Proofs.YtojipboabgebfaaGreatDoor
