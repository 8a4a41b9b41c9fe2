/-
  The texts of this proof, joined: abstract values, the library, the functions of the program and what they compute (part 4). No condition.
-/
import Derived.Lib.UnsafeStr
import Derived.Shelf.RegionOpenPlain
import Derived.Shelf.Spec.SlicesInsert
import Derived.Lib.AppendZerosOnto
import Derived.Laws.NewBlocks
import Derived.Test.YtpfkncffaanjcaaGreatDoorProg
import Derived.WalkKit
import Derived.LaidEql
import Derived.Stop.Asserts
import Derived.RowKitTokens
import Derived.WalkSpells
import Derived.Test.YtpfkncffaanjcaaGreatDoorK1
import Derived.Test.YtpfkncffaanjcaaGreatDoorK2
import Derived.Test.YtpfkncffaanjcaaGreatDoorK3
namespace Go.Proofs.YtpfkncffaanjcaaGreatDoor
open Go.RowKit
namespace Ab
set_option maxRecDepth 100000
namespace Q
theorem cntR_at {l : List Itm} {i : Nat} (h : i < l.length) : cntR (l.take (i + 1)) = cntR (l.take i) + if isRec (l.getD i ((0 : Int),ByteArray.empty,([] : List Fld))) then 1 else 0:=by
  rw [← xA ((0 : Int),ByteArray.empty,([] : List Fld)) h,cntR_app]
  generalize l.getD i ((0 : Int),ByteArray.empty,([] : List Fld)) = x
  cases hk : isRec x
  · simp [cntR,hk]
  · simp [cntR,hk]
theorem numI_at {l : List Itm} {i : Nat} (h : i < l.length) : numI 1 (l.take (i + 1)) = numI 1 (l.take i) ++ [(l.getD i ((0 : Int),ByteArray.empty,([] : List Fld)),if isRec (l.getD i ((0 : Int),ByteArray.empty,([] : List Fld))) then 1 + (cntR (l.take i) : Int) else 0)]:=by
  rw [← xA ((0 : Int),ByteArray.empty,([] : List Fld)) h];exact numI_snoc (l.take i) 1 _
theorem cntR_le (l : List Itm) : cntR l ≤ l.length:=List.length_filter_le _ _
def lsO (l : Lst) : Obs:=[(0,.box 116 [.vec 1,.lit (.int .i64 l.2.1),.lit (.int .i64 l.2.2)]),(1,.vec 111 rEnt l.1)]
theorem lbox_eq {a b c d : Int} (h1 : a = c) (h2 : b = d) : some (Ob.box 116 [.vec 1,.lit (.int .i64 a),.lit (.int .i64 b)]) = some (Ob.box 116 [.vec 1,.lit (.int .i64 c),.lit (.int .i64 d)]):=by rw [h1,h2]
theorem of_ok (s : ByteArray) (hs : s.size ≤ 60000) {l : List Itm} (hp : yO s = .inr l) : qU Tryz.prog 27 [is s] [] 0 (.tup [(false,[.own 0 0]),(false,[.lit .nilIface])]) (lsO (ofT l)) 2:=by
  have hpa:=parse_a s hs;rw [hp] at hpa;obtain ⟨hl1,hl2⟩:=items_flds hs hp;refine qQ (rs:=[2,3]) Tryz.func27 rfl rfl rfl teOk (by decide) rfl ?_;refine qC ?_;refine qB ?_;refine qC ?_;refine qB ?_;refine Or.inl ?_;refine zai (rfl) ?_;refine zei _ (zai (hpa) ?_);refine qC ?_;refine qC ?_;refine qB ?_;refine qI rfl (fun h16=>?_) (fun h16=>?_)
  ·try simp only [Bool.not_eq_true'] at h16
   try simp only [zds] at h16
   cases h16
  ·try simp only [Bool.not_eq_false'] at h16
   try simp only [zds] at h16
   refine qM ?_;refine qC ?_;refine qB ?_;refine qC ?_;refine qC ?_;refine yM 0 0 111 rEnt rfl rfl rfl ?_;refine qB ?_;intro l5_1
   try simp only [zds] at l5_1
   refine qN ?_;refine qX (fun (i : Nat)=>i ≤ l.length) (fun (i : Nat)=>[(0,is s),(6,.one (.own 0 0)),(20,.one (.sl rItm l)),(21,ii .i64 l.length),(22,ii .i64 i)]) (fun (i : Nat)=>[(0,.box 116 [.vec 1,.lit (.int .i64 (1 + (cntR (l.take i) : Int))),.lit (.int .i64 (cntR (l.take i)))]),(1,.vec 111 rEnt (numI 1 (l.take i)))]) 2 (fun (i : Nat)=>l.length - i) 0 (Nat.zero_le _) (qV ⟨rfl,rfl,rfl,rfl,rfl⟩ ⟨rfl,rfl⟩ rfl) ?_;intro i hI0;refine qC ?_;refine qB ?_;refine qC ?_;refine qI rfl (fun h23=>?_) (fun h23=>?_)
   ·try simp only [decide_eq_true_eq] at h23
    try simp only [zds] at h23
    have hil : i < l.length:=(by omega);have hsn:=numI_at hil;have hcn:=cntR_at hil;have hcl:=cntR_le (l.take i);rw [List.length_take] at hcl;refine qM ?_;refine qC ?_;refine qN ?_;refine qC ?_;refine qB ?_;refine zai (by first|omega|assumption|decide|(simp only [zds];omega)|(simp <;> omega)) ?_;refine qC ?_;refine qB ?_;refine qC ?_;refine qC ?_;refine qB ?_;refine qI rfl (fun h30=>?_) (fun h30=>?_)
    ·try simp only [decide_eq_true_eq] at h30
     try simp only [Int.toNat_natCast,qH,qG,qF,qE] at h30
     have hk : isRec (l.getD i ((0 : Int),ByteArray.empty,([] : List Fld))) = true:=decide_eq_true h30;rw [hk,if_pos rfl] at hsn hcn;refine qC ?_;refine qB ?_;refine qC ?_;refine qB ?_;refine zai (by first|omega|assumption|decide|(simp only [zds];omega)|(simp <;> omega)) ?_;refine qB ?_;refine zai (by first|omega|assumption|decide|(simp only [zds];omega)|(simp <;> omega)) ?_;refine xJ rfl ?_;refine qJ 0 rfl rfl rfl (by kernel_rfl) ?_;refine qJ 1 rfl rfl rfl (by kernel_rfl) ?_;refine qJ 2 rfl rfl rfl (by kernel_rfl) ?_;refine qJ 3 rfl rfl rfl (by kernel_rfl) ?_;refine qK [4,5] (by kernel_rfl) rfl ?_;refine zai ?_ ?_
     ·refine qK [5] (by kernel_rfl) rfl ?_;refine qK [6] (by kernel_rfl) rfl ?_;refine qK [7] (by kernel_rfl) rfl ?_;refine zai (by exact qW (show (numI 1 (l.take i)).length + 1 ≤ 1000000000 by rw [numI_len,List.length_take];omega) (by decide)) ?_;refine qJ 8 rfl rfl rfl (by kernel_rfl) ?_;refine qJ 9 rfl rfl rfl (by kernel_rfl) ?_;refine qK [10] (by kernel_rfl) rfl ?_;refine qO (by kernel_rfl) ?_;refine qB ?_;refine zai (by first|omega|assumption|decide|(simp only [zds];omega)|(simp <;> omega)) ?_;exact ⟨i + 1,by omega,by first|omega|(simp <;> omega),qV ⟨rfl,rfl,rfl,rfl,rfl⟩ ⟨(lbox_eq (by omega) (by omega)),(xM (by rw [hsn];exact rfl))⟩ rfl⟩
     ·refine qK [4,6] (by kernel_rfl) rfl ?_;refine zai ?_ ?_
      ·refine qK [6] (by kernel_rfl) rfl ?_;refine qK [7] (by kernel_rfl) rfl ?_;refine zai (by exact qW (show (numI 1 (l.take i)).length + 1 ≤ 1000000000 by rw [numI_len,List.length_take];omega) (by decide)) ?_;refine qJ 8 rfl rfl rfl (by kernel_rfl) ?_;refine qJ 9 rfl rfl rfl (by kernel_rfl) ?_;refine qK [10] (by kernel_rfl) rfl ?_;refine qO (by kernel_rfl) ?_;refine qB ?_;refine zai (by first|omega|assumption|decide|(simp only [zds];omega)|(simp <;> omega)) ?_;exact ⟨i + 1,by omega,by first|omega|(simp <;> omega),qV ⟨rfl,rfl,rfl,rfl,rfl⟩ ⟨(lbox_eq (by omega) (by omega)),(xM (by rw [hsn];exact rfl))⟩ rfl⟩
      ·refine qK [4] (by kernel_rfl) rfl ?_;refine qK [7] (by kernel_rfl) rfl ?_;refine zai (by exact qW (show (numI 1 (l.take i)).length + 1 ≤ 1000000000 by rw [numI_len,List.length_take];omega) (by decide)) ?_;refine qJ 8 rfl rfl rfl (by kernel_rfl) ?_;refine qJ 9 rfl rfl rfl (by kernel_rfl) ?_;refine qK [10] (by kernel_rfl) rfl ?_;refine qO (by kernel_rfl) ?_;refine qB ?_;refine zai (by first|omega|assumption|decide|(simp only [zds];omega)|(simp <;> omega)) ?_;exact ⟨i + 1,by omega,by first|omega|(simp <;> omega),qV ⟨rfl,rfl,rfl,rfl,rfl⟩ ⟨(lbox_eq (by omega) (by omega)),(xM (by rw [hsn];exact rfl))⟩ rfl⟩
    ·try simp only [decide_eq_false_iff_not] at h30
     try simp only [Int.toNat_natCast,qH,qG,qF,qE] at h30
     have hk : isRec (l.getD i ((0 : Int),ByteArray.empty,([] : List Fld))) = false:=decide_eq_false h30;rw [hk,if_neg Bool.false_ne_true] at hsn hcn;refine qM ?_;refine xJ rfl ?_;refine qJ 0 rfl rfl rfl (by kernel_rfl) ?_;refine qJ 1 rfl rfl rfl (by kernel_rfl) ?_;refine qJ 2 rfl rfl rfl (by kernel_rfl) ?_;refine qJ 3 rfl rfl rfl (by kernel_rfl) ?_;refine qK [4,5] (by kernel_rfl) rfl ?_;refine zai ?_ ?_
     ·refine qK [5] (by kernel_rfl) rfl ?_;refine qK [6] (by kernel_rfl) rfl ?_;refine qK [7] (by kernel_rfl) rfl ?_;refine zai (by exact qW (show (numI 1 (l.take i)).length + 1 ≤ 1000000000 by rw [numI_len,List.length_take];omega) (by decide)) ?_;refine qJ 8 rfl rfl rfl (by kernel_rfl) ?_;refine qJ 9 rfl rfl rfl (by kernel_rfl) ?_;refine qK [10] (by kernel_rfl) rfl ?_;refine qO (by kernel_rfl) ?_;refine qB ?_;refine zai (by first|omega|assumption|decide|(simp only [zds];omega)|(simp <;> omega)) ?_;exact ⟨i + 1,by omega,by first|omega|(simp <;> omega),qV ⟨rfl,rfl,rfl,rfl,rfl⟩ ⟨(lbox_eq (by omega) (by omega)),(xM (by rw [hsn];exact rfl))⟩ rfl⟩
     ·refine qK [4,6] (by kernel_rfl) rfl ?_;refine zai ?_ ?_
      ·refine qK [6] (by kernel_rfl) rfl ?_;refine qK [7] (by kernel_rfl) rfl ?_;refine zai (by exact qW (show (numI 1 (l.take i)).length + 1 ≤ 1000000000 by rw [numI_len,List.length_take];omega) (by decide)) ?_;refine qJ 8 rfl rfl rfl (by kernel_rfl) ?_;refine qJ 9 rfl rfl rfl (by kernel_rfl) ?_;refine qK [10] (by kernel_rfl) rfl ?_;refine qO (by kernel_rfl) ?_;refine qB ?_;refine zai (by first|omega|assumption|decide|(simp only [zds];omega)|(simp <;> omega)) ?_;exact ⟨i + 1,by omega,by first|omega|(simp <;> omega),qV ⟨rfl,rfl,rfl,rfl,rfl⟩ ⟨(lbox_eq (by omega) (by omega)),(xM (by rw [hsn];exact rfl))⟩ rfl⟩
      ·refine qK [4] (by kernel_rfl) rfl ?_;refine qK [7] (by kernel_rfl) rfl ?_;refine zai (by exact qW (show (numI 1 (l.take i)).length + 1 ≤ 1000000000 by rw [numI_len,List.length_take];omega) (by decide)) ?_;refine qJ 8 rfl rfl rfl (by kernel_rfl) ?_;refine qJ 9 rfl rfl rfl (by kernel_rfl) ?_;refine qK [10] (by kernel_rfl) rfl ?_;refine qO (by kernel_rfl) ?_;refine qB ?_;refine zai (by first|omega|assumption|decide|(simp only [zds];omega)|(simp <;> omega)) ?_;exact ⟨i + 1,by omega,by first|omega|(simp <;> omega),qV ⟨rfl,rfl,rfl,rfl,rfl⟩ ⟨(lbox_eq (by omega) (by omega)),(xM (by rw [hsn];exact rfl))⟩ rfl⟩
   ·try simp only [decide_eq_false_iff_not,Int.not_lt] at h23
    try simp only [zds] at h23
    refine yA ?_;refine qC ?_;refine qB ?_;refine qL ?_;rw [List.take_of_length_le (by omega)];exact ⟨rfl,⟨rfl,rfl⟩,rfl⟩
theorem of_err (s : ByteArray) (hs : s.size ≤ 60000) {at_ n : Int} (hp : yO s = .inl (at_,n)) : qR Tryz.prog 27 [is s] (.tup [(false,[.lit (.pointer none)]),(false,[errF at_ n])]):=by
  have hpa:=parse_a s hs;rw [hp] at hpa;refine qP (rs:=[2,3]) Tryz.func27 rfl rfl rfl teOk rfl ?_;refine qC ?_;refine qB ?_;refine qC ?_;refine qB ?_;refine Or.inl ?_;refine zai (rfl) ?_;refine zei _ (zai (hpa) ?_);refine qC ?_;refine qC ?_;refine qB ?_;refine qI rfl (fun h16=>?_) (fun h16=>?_)
  ·skip
   refine qC ?_;refine qB ?_;refine qL ?_;rfl
  ·try simp only [zbq] at h16
   try simp only [zds] at h16
   cases h16
end Q
end Ab
end Go.Proofs.YtpfkncffaanjcaaGreatDoor
namespace Go.Proofs.YtpfkncffaanjcaaGreatDoor
open Go.RowKit
namespace Ab
set_option maxRecDepth 100000
set_option maxHeartbeats 2000000
namespace Q
abbrev z4 : List Value:=[.int .i64 0,.string ⟨#[]⟩,.slice none 0 0,.int .i64 0]
theorem step_append_runI {P : Program} {ops : Array Oper} {o : Oper} {a : Act} {w : World} {K : Act → World → Prop} {Q : Exit → Act → World → Prop} {E : Prop}
    (hg : o.guard = none) (d x : Operand) (dT sT : TypeId) (hop : o.op = Op.call { callee:=Callee.builtin Builtin.append,args:=#[d,x],argTypes:=#[dT,sT] })
    (v u : Value) (hd : a.eval d = v) (hx : a.eval x = u) {v' : Value} {w' : World} (hr : (Builtin.append_ #[dT,sT] o.type #[v,u]).run P w = .ok v' w') (hK : K (a.put o.dst v') w') :
    if Region.wanted o (yielded ops a.tmps) = true then Oper.wp P o a w K Q else E:=by
  have hw : Region.wanted o (yielded ops a.tmps) = true:=by simp [Region.wanted,hg]
  rw [if_pos hw];unfold Oper.wp;simp [execOp,hop,resolve,invoke,builtin,hd,hx,hr,Result.andThen];exact hK
theorem wpList_clear_runI {P : Program} (w : World) {ops : Array Oper} {rest : List Oper} {o : Oper} {a : Act} {Q : Exit → Act → World → Prop} (hgd : o.guard = none) (d : Operand) (t : TypeId)
    (ho : o.op = .call { callee:=.builtin .clear,args:=#[d],argTypes:=#[t] }) (v : Value) (hd : a.eval d = v) {v' : Value} {w' : World}
    (hr : (Builtin.clear_ #[t] o.type #[v]).run P w = .ok v' w') (h : wpList P ops Q rest (a.put o.dst v') w') : wpList P ops Q (o :: rest) a w :=
  wpList_plain hgd fun K hK=>by
    unfold Oper.wp execOp;simp only [ho,resolve,invoke,builtin,Sem.run_bind,Sem.run_pure,Result.andThen_ok,List.map_toArray,List.map_cons,List.map_nil,hd,hr];exact hK _ _ h
theorem zs_len {P : Program} {t : TypeId} {i : TyI} (h : TyOk P t i) (n : Nat) : (Builtin.zeroCells i.zeroV.cells n).toList.length = n * i.size:=by
  rw [Array.length_toList,size_zeroCells,h.zeroCells,List.size_toArray,h.zlen]
theorem zs_one {P : Program} {t : TypeId} {i : TyI} (h : TyOk P t i) (n : Nat) : ∀ v ∈ (Builtin.zeroCells i.zeroV.cells n).toList,v.oneCell' = true:=by
  intro v hv;unfold Builtin.zeroCells at hv;rw [h.zeroCells] at hv;simp only [Array.toList_map,Array.toList_range,List.mem_map,List.mem_range,List.size_toArray] at hv;obtain ⟨k,hk,rfl⟩:=hv;have hlt : k % i.zero.length < i.zero.length:=Nat.mod_lt _ (by
    rcases Nat.eq_zero_or_pos i.zero.length with h0|h0
    · rw [h0,Nat.mul_zero] at hk;omega
    · exact h0)
  have e : (i.zero.toArray)[k % i.zero.length]! = i.zero[k % i.zero.length]:=by simp [hlt]
  rw [e];exact plain_one (h.zplain _ (List.getElem_mem hlt))
theorem run_clear_row {P : Program} {t e ty : TypeId} {ei : TyI} (ht : P.underlying t = some (.slice e)) (he : TyOk P e ei) (w : World) (b o n c : Nat) {cur : Array Value} {T : TypeId} (hb : w.heap[b]? = some (.cells cur T (0,0))) (hn : 0 < n) (hfit : o + n * ei.size ≤ cur.size) :
    (Builtin.clear_ #[t] ty #[.slice (some ⟨b,o,none⟩) n c]).run P w = .ok (.tuple #[]) (w.setRow b (cur.toList.take o ++ (Builtin.zeroCells ei.zeroV.cells n).toList ++ cur.toList.drop (o + n * ei.size)).toArray):=by
  have hst:=run_storeCells_at P b o T (Builtin.zeroCells ei.zeroV.cells n).toList 0 cur w hb (by rw [zs_len he];omega) (zs_one he n);simp only [Nat.add_zero,zs_len he] at hst;obtain ⟨m,rfl⟩ : ∃ m,n = m + 1:=⟨n - 1,by omega⟩;simp [Builtin.clear_,run_underlying ht,he.zeroValue,hst]
theorem tyEnt : TyOk Tryz.prog 111 ty111:=tyOk111
theorem del_w (b cap n i j : Nat) (cur : Array Value) (w : World) (hb : w.heap[b]? = some (.cells cur 111 (0,0))) (hcs : cur.size = cap * 4) (hnc : n ≤ cap) (_hcm : cap ≤ maxLen) (hij : i < j) (hj : j ≤ n) (h1 : ∀ v ∈ cur.toList.take (n * 4),v.oneCell' = true) :
    Calls Tryz.prog 119 #[.slice (some ⟨b,0,none⟩) n cap,.int .i64 i,.int .i64 j] w fun e w'=>e = .returned (.slice (some ⟨b,0,none⟩) (n - (j - i)) cap) ∧ ∃ cur',Grew w w' (some b) ∧ w'.heap[b]? = some (.cells cur' 111 (0,0)) ∧ cur'.size = cap * 4 ∧ cur'.toList.take ((n - (j - i)) * 4) = cur.toList.take (i * 4) ++ (cur.toList.drop (j * 4)).take ((n - j) * 4):=by
  have mixed : Tryz.prog.follows .mixedOrders = true:=by kernel_rfl
  have hic : i ≤ cap:=by omega
  have hjc : j ≤ cap:=by omega
  obtain ⟨news,hnews⟩ : ∃ news,(cur.toList.drop (j * 4)).take ((n - j) * 4) = news:=⟨_,rfl⟩;have hlen : news.length = (n - j) * 4:=by
    rw [← hnews,List.length_take,List.length_drop,Array.length_toList,hcs];have : (n - j) * 4 ≤ cap * 4 - j * 4:=by omega
    omega
  obtain ⟨i0,hi0,hz0,hz1,hz2⟩:=tyEnt.info;obtain ⟨A,hA,hsrc⟩ : ∃ A : Addr,(if cap = j then (some ⟨b,0,none⟩ : Option Addr) else some ⟨b,j * 4,none⟩) = some A ∧ (∀ t u,news[t]? = some u → w.drew.cell? (A.add t) = some u):=by
    by_cases h : cap = j
    · refine ⟨_,if_pos h,fun t u hu=>?_⟩;have h0 : news.length = 0:=by rw [hlen];omega
      rw [List.length_eq_zero_iff.1 h0] at hu;simp at hu
    · refine ⟨_,if_neg h,fun t u hu=>?_⟩;have ht:=(List.getElem?_eq_some_iff.1 hu).1;rw [← hnews,List.getElem?_take_of_lt (by omega),List.getElem?_drop] at hu;rw [Go.WideShapes.add_plain];show w.cell? _ = _;simp only [World.cell?,hb,Option.isSome_none,Bool.false_eq_true,if_false];rw [← hu];simp
  have hone : ∀ u ∈ news,u.oneCell' = true:=by
    intro u hu;rw [← hnews,show (n - j) * 4 = n * 4 - j * 4 by omega,← List.drop_take] at hu;exact h1 u (List.mem_of_mem_drop hu)
  obtain ⟨cur1,hcur1⟩ : ∃ c : Array Value,(cur.toList.take (i * 4) ++ news ++ cur.toList.drop (i * 4 + news.length)).toArray = c:=⟨_,rfl⟩;have hsz1 : cur1.size = cap * 4:=by
    rw [← hcur1];simp only [List.size_toArray,List.length_append,List.length_take,List.length_drop,Array.length_toList,hcs,hlen];omega
  obtain ⟨W1,hW1⟩ : ∃ W1,w.drew.setRow b cur1 = W1:=⟨_,rfl⟩;have hap : ∀ ty,(Builtin.append_ #[114,114] ty #[.slice (some ⟨b,0,none⟩) i cap,.slice (some A) (n - j) (cap - j)]).run Tryz.prog w.drew = .ok (.slice (some ⟨b,0,none⟩) (i + (n - j)) cap) W1:=by
    intro ty;have:=run_append_room (P:=Tryz.prog) w.drew 114 ty 111 i0 Tryz.underlying114 hi0 b i cap cur hb A (n - j) (cap - j) news (by rw [hlen,hz0];rfl) hsrc hone (by omega) (by rw [hz0,hlen,hcs];show i * 4 + _ ≤ _;omega);rw [show i0.size = 4 from hz0,hcur1,hW1] at this;exact this
  have hb1 : W1.heap[b]? = some (.cells cur1 111 (0,0)):=by rw [← hW1];exact setRow_heap w.drew b cur cur1 _ _ hb
  have hk : i + (n - j) < n:=by omega
  have hkc : ¬ cap = i + (n - j):=by omega
  obtain ⟨W2,cur2,hW2,hcl⟩ : ∃ W2 cur2,W2 = W1.setRow b cur2 ∧ cur2.size = cap * 4 ∧ cur2.toList.take ((i + (n - j)) * 4) = cur1.toList.take ((i + (n - j)) * 4) ∧ ∀ ty,(Builtin.clear_ #[114] ty #[.slice (some ⟨b,(i + (n - j)) * 4,none⟩) (n - (i + (n - j))) (cap - (i + (n - j)))]).run Tryz.prog W1 = .ok (.tuple #[]) W2:=by
    have hz:=zs_len tyEnt (n - (i + (n - j)));have hz4 : ty111.size = 4:=rfl;rw [hz4] at hz;refine ⟨_,_,rfl,?_,?_,fun ty=>run_clear_row Tryz.underlying114 tyEnt W1 b _ _ _ hb1 (by omega) (by rw [hsz1,hz4];omega)⟩
    · simp only [List.size_toArray,List.length_append,List.length_take,List.length_drop,Array.length_toList,hsz1,hz,hz4];omega
    · rw [List.append_assoc,List.take_append_of_le_length (by rw [List.length_take,Array.length_toList,hsz1];omega),List.take_take,Nat.min_self]
  obtain ⟨hsz2,htk,hcl⟩:=hcl;have fin : W2.heap[b]? = some (.cells cur2 111 (0,0)) ∧ Grew w W2 (some b):=by
    rw [hW2];exact ⟨setRow_heap W1 b cur1 cur2 _ _ hb1,by rw [← hW1,setRow_setRow];exact ⟨rfl,rfl,rfl,by simp,fun k hk hne=>setRow_other w.drew b k _ (fun e=>hne (by rw [e]))⟩⟩
  have hres : cur2.toList.take ((i + (n - j)) * 4) = cur.toList.take (i * 4) ++ news:=by
    rw [htk,← hcur1,List.take_append_of_le_length (by simp only [List.length_append,List.length_take,Array.length_toList,hcs,hlen];omega),List.take_of_length_le (by simp only [List.length_append,List.length_take,Array.length_toList,hcs,hlen];omega)]
  have hnn : n - (j - i) = i + (n - j):=by omega
  rw [hnn];rw [← hnews] at hres;clear hW2 hW1 htk hcur1 hb hb1 hsrc hone hlen hnews h1
  go_enter Tryz.func119,Tryz.ntmps119
  go_wp2
  go_region_law_o (refine step_append_runI rfl (.tmp 22) (.tmp 25) 114 114 rfl (.slice (some ⟨b,0,none⟩) i cap) (.slice (some A) (n - j) (cap - j)) (by simp [Act.eval,Act.put]) (by simp [Act.eval,Act.put]) (hap _) ?_)
  go_wp2_with (at_builtin;refine wpList_clear_runI _ rfl _ _ rfl _ rfl (hcl _) ?_)
  go_ret
  exact ⟨rfl,cur2,fin.2,fin.1,hsz2,hres⟩
end Q
end Ab
end Go.Proofs.YtpfkncffaanjcaaGreatDoor
namespace Go.Proofs.YtpfkncffaanjcaaGreatDoor
open Go.RowKit
namespace Ab
set_option maxRecDepth 100000
set_option maxHeartbeats 4000000
namespace Q
theorem run_copy_k {P : Program} (w : World) (dT sT ty elem : TypeId) {ei : TyI} (hu : P.underlying dT = some (.slice elem)) (he : TyOk P elem ei) (g o dLen dCap : Nat) (a : Addr) (sLen sCap n : Nat) (cur : Array Value) (t : TypeId) (cs : List Value)
    (hg : w.heap[g]? = some (.cells cur t (0,0))) (hm : Nat.min sLen dLen = n) (hn : cs.length = n * ei.size) (hsrc : ∀ j v,cs[j]? = some v → w.cell? (a.add j) = some v) (hfit : o + cs.length ≤ cur.size) (h1 : ∀ v ∈ cs,v.oneCell' = true) :
    (Builtin.copy_ #[dT,sT] ty #[.slice (some ⟨g,o,none⟩) dLen dCap,.slice (some a) sLen sCap]).run P w = .ok (goInt n) (w.setRow g (cur.toList.take o ++ cs ++ cur.toList.drop (o + cs.length)).toArray):=by
  have hl:=run_loadCells_list (P:=P) w a cs hsrc;have hst:=run_storeCells_at P g o t cs 0 cur w hg (by simpa using hfit) h1;simp only [Nat.add_zero] at hst;simp [Builtin.copy_,run_underlying hu,Builtin.lenOf,Builtin.firstCells,he.sizeOf,hm,← hn,hl,hst]
def RowTo (w w' : World) (v u : Value) (n : Nat) (cs : List Value) : Prop :=
  w'.ownsRow 0 111 4 u n cs ∧ Grew w w' (blk (some v)) ∧ (∀ b,blk (some u) = some b → blk (some v) = some b ∨ (w.heap.size ≤ b ∧ b < w'.heap.size)) ∧ ∃ a n c,u = .slice a n c
theorem rowCells {w : World} {b n cap : Nat} {cs : List Value} (h : w.ownsRow 0 111 4 (.slice (some ⟨b,0,none⟩) n cap) n cs) : ∃ cur,w.heap[b]? = some (.cells cur 111 (0,0)) ∧ n ≤ cap ∧ cap ≤ maxLen ∧ cur.size = cap * 4 ∧ cur.toList.take (n * 4) = cs ∧ cs.length = n * 4:=by
  rcases h.2 with ⟨h0,_⟩|⟨g,c,cur,hsl,_,hg,hnc,hcm,hcs,htake⟩
  · cases h0
  · injection hsl with e1 e2 e3
    injection e1 with e1
    injection e1 with e1 _ _
    subst e1 e3;exact ⟨cur,hg,hnc,hcm,hcs,htake,h.1⟩
theorem ins_end (n : Nat) (v : Value) (cs ns : List Value) (vb vc : Nat) (w : World) (hown : w.ownsRow 0 111 4 v n cs) (hown2 : w.ownsRow 0 111 4 (.slice (some ⟨vb,0,none⟩) 1 vc) 1 ns) (h1 : ∀ u ∈ ns,u.oneCell' = true) (hn : n ≤ 1000000) :
    Calls Tryz.prog 120 #[v,.int .i64 n,.slice (some ⟨vb,0,none⟩) 1 vc] w fun e w'=>∃ u,e = .returned u ∧ RowTo w w' v u (n + 1) (cs ++ ns):=by
  obtain ⟨v',w',hr,h2,h3,h4,h5⟩:=Ab.run_app (P:=Tryz.prog) (w:=w) (ty:=114) Tryz.underlying114 tyEnt (by decide) hown (ad:=⟨vb,0,none⟩) (m:=1) (c:=vc) (news:=ns) hown2.1 (fun j u hj=>hown2.cells (g:=vb) rfl j u hj) h1 Nat.one_pos (by unfold maxLen;omega) (qW (show n + 1 ≤ 1000000000 by omega) (show ty111.bytes ≤ 1000 by decide));have mixed : Tryz.prog.follows .mixedOrders = true:=by kernel_rfl
  have fin : RowTo w w' v v' (n + 1) (cs ++ ns):=⟨h2,h3,h4,h5⟩;obtain ⟨va,vn,vcap,hv,hvn⟩ : ∃ a m c,v = .slice a m c ∧ m = n:=by
    rcases hown.2 with ⟨h0,hz⟩|⟨g,c,cur,hsl,_⟩
    · exact ⟨_,_,_,h0,hz.symm⟩
    · exact ⟨_,_,_,hsl,rfl⟩
  subst hvn;subst hv;have hcap : vn ≤ vcap:=by
    rcases hown.2 with ⟨h0,hz⟩|⟨g,c,cur,hsl,_,_,hnc,_⟩
    · omega
    · injection hsl with _ _ e3;omega
  clear hown hown2 h1 h2 h3 h4 h5
  by_cases hq : vcap = vn
  · subst hq
    go_enter Tryz.func120,Tryz.ntmps120
    go_wp2_with (at_builtin;refine Lib.wpList_append_run _ rfl _ _ _ _ rfl _ _ rfl rfl _ _ hr ?_)
    go_ret
    exact ⟨_,rfl,fin⟩
  · go_enter Tryz.func120,Tryz.ntmps120
    go_wp2_with (at_builtin;refine Lib.wpList_append_run _ rfl _ _ _ _ rfl _ _ rfl rfl _ _ hr ?_)
    go_ret
    exact ⟨_,rfl,fin⟩
theorem take4 {α : Type} (l : List α) (a b : Nat) (h : a ≤ b) : (l.take b).take a = l.take a:=by rw [List.take_take,Nat.min_eq_left h]
theorem ins_shift (n i : Nat) (b cap : Nat) (cs ns : List Value) (vb vc : Nat) (w : World) (hi : i < n) (hroom : n + 1 ≤ cap) (hown : w.ownsRow 0 111 4 (.slice (some ⟨b,0,none⟩) n cap) n cs) (hown2 : w.ownsRow 0 111 4 (.slice (some ⟨vb,0,none⟩) 1 vc) 1 ns) (hne : vb ≠ b) (h1 : ∀ u ∈ ns,u.oneCell' = true) (h1c : ∀ u ∈ cs,u.oneCell' = true) :
    Calls Tryz.prog 120 #[.slice (some ⟨b,0,none⟩) n cap,.int .i64 i,.slice (some ⟨vb,0,none⟩) 1 vc] w fun e w'=>∃ u,e = .returned u ∧ RowTo w w' (.slice (some ⟨b,0,none⟩) n cap) u (n + 1) (cs.take (i * 4) ++ ns ++ cs.drop (i * 4)):=by
  obtain ⟨cur,hb,hnc,hcm,hcz,htk,hcl⟩:=rowCells hown;obtain ⟨cur2,hvb,hvc,_,hcz2,htk2,hnl⟩:=rowCells hown2;have hz4 : ty111.size = 4:=rfl;have hdl : (cs.drop (i * 4)).length = (n - i) * 4:=by rw [List.length_drop,hcl];omega
  have hov : ∀ lb cb,(callFunc 148 #[.slice (some ⟨vb,0,none⟩) 1 vc,.slice (some ⟨b,(i + 1) * 4,none⟩) lb cb]).run Tryz.prog w = .ok (.value (.bool false)) w:=fun lb cb=>by
    rw [run_callFunc_extern Tryz.func148 (by kernel_rfl) (by kernel_rfl) (by kernel_rfl) (e:=Extern.SlicesOverlaps.overlaps #[114,114] #[4]) (by kernel_rfl),
      Lib.run_overlaps_apart w 114 4 111 Tryz.underlying114 4 (fun w=>tyEnt.sizeOf w) ⟨vb,0,none⟩ ⟨b,(i + 1) * 4,none⟩ 1 vc lb cb hne 111 111 cur2.size cur.size (by simp [World.shape?,hvb]) (by simp [World.shape?,hb]) (by omega) (by simp [World.frozen?,hvb]) (by simp [World.frozen?,hvb])]
    rfl
  obtain ⟨cur1,hcur1⟩ : ∃ c : Array Value,(cur.toList.take ((i + 1) * 4) ++ cs.drop (i * 4) ++ cur.toList.drop ((i + 1) * 4 + (cs.drop (i * 4)).length)).toArray = c:=⟨_,rfl⟩;have hsz1 : cur1.size = cap * 4:=by
    rw [← hcur1];simp only [List.size_toArray,List.length_append,List.length_take,hdl,List.length_drop (l:=cur.toList),Array.length_toList,hcz];omega
  have hcsrc : ∀ j v,(cs.drop (i * 4))[j]? = some v → w.cell? ⟨b,i * 4 + j,none⟩ = some v:=by
    intro j v hj;have hlt:=(List.getElem?_eq_some_iff.1 hj).1;rw [List.getElem?_drop,← htk,List.getElem?_take_of_lt (by omega)] at hj;simp only [World.cell?,hb,Option.isSome_none,Bool.false_eq_true,if_false];rw [← hj];simp
  have hcp1 : ∀ ty dc sc,(Builtin.copy_ #[114,114] ty #[.slice (some ⟨b,(i + 1) * 4,none⟩) (n - i) dc,.slice (some ⟨b,i * 4,none⟩) (n + 1 - i) sc]).run Tryz.prog w.drew = .ok (goInt ((n - i : Nat) : Int)) (w.drew.setRow b cur1):=fun ty dc sc=>by
    rw [← hcur1];exact run_copy_k w.drew _ _ ty 111 Tryz.underlying114 tyEnt b ((i + 1) * 4) (n - i) dc ⟨b,i * 4,none⟩ (n + 1 - i) sc (n - i) cur _ (cs.drop (i * 4)) hb (by simp only [Nat.min_def];split <;> omega) (by rw [hdl,hz4]) (fun j v hj=>by rw [Go.WideShapes.add_plain];exact hcsrc j v hj) (by rw [hdl,hcz];omega) (fun v hv=>h1c v (List.mem_of_mem_drop hv))
  obtain ⟨W1,hW1⟩ : ∃ W1,w.drew.setRow b cur1 = W1:=⟨_,rfl⟩;rw [hW1] at hcp1;have hb1 : W1.heap[b]? = some (.cells cur1 111 (0,0)):=by rw [← hW1];exact setRow_heap w.drew b cur cur1 _ _ hb
  have hvb1 : W1.heap[vb]? = w.heap[vb]?:=by rw [← hW1];exact setRow_other w.drew b vb _ hne
  obtain ⟨curn,hcurn⟩ : ∃ c : Array Value,(cur1.toList.take (i * 4) ++ ns ++ cur1.toList.drop (i * 4 + ns.length)).toArray = c:=⟨_,rfl⟩;have hszn : curn.size = cap * 4:=by
    rw [← hcurn];simp only [List.size_toArray,List.length_append,List.length_take,hnl,List.length_drop,Array.length_toList,hsz1];omega
  have hcp2 : ∀ (W : World),(∀ k : Nat,W.heap[k]? = W1.heap[k]?) → ∀ ty dc,(Builtin.copy_ #[114,114] ty #[.slice (some ⟨b,i * 4,none⟩) (n + 1 - i) dc,.slice (some ⟨vb,0,none⟩) 1 vc]).run Tryz.prog W = .ok (goInt 1) (W.setRow b curn):=fun W hW ty dc=>by
    rw [← hcurn];exact run_copy_k W _ _ ty 111 Tryz.underlying114 tyEnt b (i * 4) (n + 1 - i) dc ⟨vb,0,none⟩ 1 vc 1 cur1 _ ns (by rw [hW];exact hb1) (by simp only [Nat.min_def];split <;> omega) (by rw [hnl,hz4]) (fun j v hj=>by
      rw [Go.WideShapes.add_plain];have h0:=hown2.cells (g:=vb) rfl j v hj;rw [Go.WideShapes.add_plain] at h0;rw [← h0];simp only [World.cell?,hW,hvb1]) (by rw [hnl,hsz1];omega) h1
  have hrow : curn.toList.take ((n + 1) * 4) = cs.take (i * 4) ++ ns ++ cs.drop (i * 4):=by
    rw [← hcurn];have e1 : cur1.toList.take (i * 4) = cs.take (i * 4):=by
      rw [← hcur1,List.append_assoc,List.take_append_of_le_length (by simp only [List.length_take,Array.length_toList,hcz];omega),take4 _ _ _ (by omega),← htk,take4 _ _ _ (by omega)]
    have e2 : cur1.toList.drop (i * 4 + ns.length) = cs.drop (i * 4) ++ cur.toList.drop ((i + 1) * 4 + (cs.drop (i * 4)).length):=by
      rw [← hcur1,hnl,List.append_assoc,show i * 4 + 1 * 4 = (cur.toList.take ((i + 1) * 4)).length by simp only [List.length_take,Array.length_toList,hcz];omega,List.drop_left]
    rw [e1,e2,← List.append_assoc,List.take_append_of_le_length (by simp only [List.length_append,List.length_take,hcl,hnl,hdl];omega),List.take_of_length_le (by simp only [List.length_append,List.length_take,hcl,hnl,hdl];omega)]
  have fin : ∀ W : World,(∀ k : Nat,W.heap[k]? = W1.heap[k]?) → W.heap.size = W1.heap.size → W.os = W1.os → W.tape = W1.tape → W.output = W1.output → RowTo w (W.setRow b curn) (.slice (some ⟨b,0,none⟩) n cap) (.slice (some ⟨b,0,none⟩) (n + 1) cap) (n + 1) (cs.take (i * 4) ++ ns ++ cs.drop (i * 4)):=by
    intro W hW hs ho ht hu;refine ⟨⟨by simp only [List.length_append,List.length_take,hcl,hnl,hdl];omega,.inr ⟨b,cap,curn,rfl,Nat.zero_le _,setRow_heap W b cur1 curn _ _ (by rw [hW];exact hb1),hroom,hcm,hszn,hrow⟩⟩,⟨?_,?_,?_,?_,?_⟩,fun _ h=>.inl h,_,_,_,rfl⟩
    · show W.os = _;rw [ho,← hW1];rfl
    · show W.tape = _;rw [ht,← hW1];rfl
    · show W.output = _;rw [hu,← hW1];rfl
    · rw [show (W.setRow b curn).heap.size = W.heap.size by simp,hs,← hW1];simp
    · intro k hk hkb;have hkb' : k ≠ b:=fun e=>hkb (by rw [e];rfl)
      rw [setRow_other W b k _ hkb',hW,← hW1];exact setRow_other w.drew b k _ hkb'
  have mixed : Tryz.prog.follows .mixedOrders = true:=by kernel_rfl
  have hz2 : ¬ ((i : Int) = (n : Int)):=by omega
  have hc63 : cap ≤ 9223372036854775807:=by unfold maxLen at hcm;omega
  have hw1 : IntKind.i64.wrap ((i : Int) + 1) = (i : Int) + 1:=by rw [IntKind.wrap_i64];omega
  have hw2 : IntKind.i64.wrap ((n : Int) + 1) = (n : Int) + 1:=by rw [IntKind.wrap_i64];omega
  have hin : i ≤ n:=by omega
  have hb1' : (0 : Int) ≤ (i : Int) + 1:=by omega
  have htn : ((i : Int) + 1).toNat = i + 1:=by omega
  have hb2 : ¬ (cap = i + 1):=by omega
  have hb4 : ¬ (cap = i):=by omega
  have hb3 : (i : Int) ≤ (n : Int) + 1:=by omega
  clear hcur1 hcurn hW1 hown hown2 h1 h1c hcsrc hrow hdl hcl hnl htk htk2
  go_enter Tryz.func120,Tryz.ntmps120
  go_wp2_with (simp only [hov])
  go_region_law_o (refine step_copy_runI rfl _ _ 114 114 rfl _ _ (by simp [Act.eval,Act.put]) (by simp [Act.eval,Act.put]) (hcp1 _ _ _) ?_)
  go_wp2_with (at_builtin;refine wpList_copy_runI _ rfl _ _ 114 114 rfl _ _ rfl rfl (hcp2 _ (fun _=>rfl) _ _) ?_)
  go_ret
  exact ⟨_,rfl,fin _ (fun _=>rfl) rfl rfl rfl rfl⟩
theorem ins_grow (n i : Nat) (b cap : Nat) (cs ns : List Value) (vb vc : Nat) (w : World) (hi : i < n) (hroom : cap < n + 1) (hn1 : n ≤ 1000000) (hown : w.ownsRow 0 111 4 (.slice (some ⟨b,0,none⟩) n cap) n cs) (hown2 : w.ownsRow 0 111 4 (.slice (some ⟨vb,0,none⟩) 1 vc) 1 ns) (h1 : ∀ u ∈ ns,u.oneCell' = true) (h1c : ∀ u ∈ cs,u.oneCell' = true) :
    Calls Tryz.prog 120 #[.slice (some ⟨b,0,none⟩) n cap,.int .i64 i,.slice (some ⟨vb,0,none⟩) 1 vc] w fun e w'=>∃ u,e = .returned u ∧ RowTo w w' (.slice (some ⟨b,0,none⟩) n cap) u (n + 1) (cs.take (i * 4) ++ ns ++ cs.drop (i * 4)):=by
  obtain ⟨cur,hb,hnc,hcm,hcz,htk,hcl⟩:=rowCells hown;obtain ⟨cur2,hvb,hvc,_,hcz2,htk2,hnl⟩:=rowCells hown2;have hbw : b < w.heap.size:=(Array.getElem?_eq_some_iff.1 hb).1;have hvw : vb < w.heap.size:=(Array.getElem?_eq_some_iff.1 hvb).1;have hz4 : ty111.size = 4:=rfl;have hdl : (cs.drop (i * 4)).length = (n - i) * 4:=by rw [List.length_drop,hcl];omega
  obtain ⟨i0,hi0,hz0,hzb,hzz⟩:=tyEnt.info;have hkk : (n : Int) + 1 - (i : Int) = ((n + 1 - i : Nat) : Int):=by omega
  have hik : i + (n + 1 - i) = n + 1:=by omega
  have hold : (Builtin.firstCells i0.size i (.slice (some ⟨b,0,none⟩) i cap)).run Tryz.prog w.drew = .ok (cs.take (i * 4)).toArray w.drew:=by
    rw [hz0,hz4];exact run_firstCells_some w.drew 4 i ⟨b,0,none⟩ i cap (cs.take (i * 4)) (by rw [List.length_take];omega) (fun j v hj=>by
      have hlt:=(List.getElem?_eq_some_iff.1 hj).1;rw [List.length_take] at hlt;rw [List.getElem?_take_of_lt (by omega)] at hj;exact hown.cells (g:=b) rfl j v hj)
  obtain ⟨G,hG⟩ : ∃ G,grownCap w (n + 1) cap 111 = G:=⟨_,rfl⟩;obtain ⟨ROW,hROW⟩ : ∃ ROW : Array Value,(cs.take (i * 4)).toArray ++ Builtin.zeroCells ty111.zeroV.cells (n + 1 - i) ++ Builtin.zeroCells ty111.zeroV.cells (G - (n + 1)) = ROW:=⟨_,rfl⟩;have hGn : n + 1 ≤ G:=by rw [← hG];exact grownCap_ge w _ _ _
  have hGm : G ≤ maxLen:=by rw [← hG];exact grownCap_le_maxLen w (n + 1) cap _ (by unfold maxLen;omega)
  have hRs : ROW.size = G * 4:=by
    have e1:=zs_len tyEnt (n + 1 - i);have e2:=zs_len tyEnt (G - (n + 1));rw [Array.length_toList,hz4] at e1 e2;rw [← hROW];simp only [Array.size_append,List.size_toArray,List.length_take,e1,e2];omega
  have hRt : ROW.toList.take (i * 4) = cs.take (i * 4):=by
    rw [← hROW];simp only [Array.toList_append,List.append_assoc];rw [List.take_append_of_le_length (by simp only [List.length_take];omega),take4 _ _ _ (by omega)]
  have hrz : ∀ ty,(Builtin.append_ #[114,3] ty #[.slice (some ⟨b,0,none⟩) i cap,.int .i64 ((n : Int) + 1 - (i : Int))]).run Tryz.prog w = .ok (.slice (some ⟨w.heap.size,0,none⟩) (n + 1) G) (w.drew.alloc (.cells ROW 111)):=fun ty=>by
    have h:=Lib.run_append_grow_zeros w 114 3 ty 111 i0 _ .i64 .i64 Tryz.underlying114 Tryz.underlying3 hi0 hzz (some ⟨b,0,none⟩) i cap (cs.take (i * 4)) hold (n + 1 - i) (by omega) (by rw [hz0,hz4];decide) (by omega) (by omega) (by rw [hzb,show ty111.bytes = 56 from rfl];omega) (by rw [hzb,hik];exact growslice_fits hroom (qW (show n + 1 ≤ 1000000000 by omega) (show ty111.bytes ≤ 1000 by decide)));rw [hik,hG,hROW] at h;rw [hkk];exact h
  obtain ⟨W1,hW1⟩ : ∃ W1,w.drew.alloc (.cells ROW 111) = W1:=⟨_,rfl⟩;have hN1 : W1.heap[w.heap.size]? = some (.cells ROW 111 (0,0)):=by rw [← hW1];exact heap_new w.drew _
  have hO1 : ∀ k,k < w.heap.size → W1.heap[k]? = w.heap[k]?:=fun k hk=>by rw [← hW1];exact Lib.alloc_old w.drew _ k hk
  obtain ⟨curA,hcurA⟩ : ∃ c : Array Value,(ROW.toList.take (i * 4) ++ ns ++ ROW.toList.drop (i * 4 + ns.length)).toArray = c:=⟨_,rfl⟩;have hszA : curA.size = G * 4:=by
    rw [← hcurA];simp only [List.size_toArray,List.length_append,List.length_take,hnl,List.length_drop,Array.length_toList,hRs];omega
  have hcpA : ∀ (W : World),(∀ k : Nat,W.heap[k]? = W1.heap[k]?) → ∀ ty dc,(Builtin.copy_ #[114,114] ty #[.slice (some ⟨w.heap.size,i * 4,none⟩) (n + 1 - i) dc,.slice (some ⟨vb,0,none⟩) 1 vc]).run Tryz.prog W = .ok (goInt 1) (W.setRow w.heap.size curA):=fun W hW ty dc=>by
    rw [← hcurA];exact run_copy_k W _ _ ty 111 Tryz.underlying114 tyEnt w.heap.size (i * 4) (n + 1 - i) dc ⟨vb,0,none⟩ 1 vc 1 ROW _ ns (by rw [hW];exact hN1) (by simp only [Nat.min_def];split <;> omega) (by rw [hnl,hz4]) (fun j v hj=>by
      rw [Go.WideShapes.add_plain];have h0:=hown2.cells (g:=vb) rfl j v hj;rw [Go.WideShapes.add_plain] at h0;rw [← h0];simp only [World.cell?,hW,hO1 vb hvw]) (by rw [hnl,hRs];omega) h1
  obtain ⟨W2,hW2⟩ : ∃ W2,W1.setRow w.heap.size curA = W2:=⟨_,rfl⟩;have hN2 : W2.heap[w.heap.size]? = some (.cells curA 111 (0,0)):=by rw [← hW2];exact setRow_heap W1 _ ROW curA _ _ hN1
  have hO2 : ∀ k,k < w.heap.size → W2.heap[k]? = w.heap[k]?:=fun k hk=>by rw [← hW2,setRow_other W1 _ k _ (by omega)];exact hO1 k hk
  obtain ⟨curn,hcurn⟩ : ∃ c : Array Value,(curA.toList.take ((i + 1) * 4) ++ cs.drop (i * 4) ++ curA.toList.drop ((i + 1) * 4 + (cs.drop (i * 4)).length)).toArray = c:=⟨_,rfl⟩;have hszn : curn.size = G * 4:=by
    rw [← hcurn];simp only [List.size_toArray,List.length_append,List.length_take,hdl,List.length_drop (l:=curA.toList),Array.length_toList,hszA];omega
  have hcpB : ∀ (W : World),(∀ k : Nat,W.heap[k]? = W2.heap[k]?) → ∀ ty dc sc,(Builtin.copy_ #[114,114] ty #[.slice (some ⟨w.heap.size,(i + 1) * 4,none⟩) (n - i) dc,.slice (some ⟨b,i * 4,none⟩) (n - i) sc]).run Tryz.prog W = .ok (goInt ((n - i : Nat) : Int)) (W.setRow w.heap.size curn):=fun W hW ty dc sc=>by
    rw [← hcurn];exact run_copy_k W _ _ ty 111 Tryz.underlying114 tyEnt w.heap.size ((i + 1) * 4) (n - i) dc ⟨b,i * 4,none⟩ (n - i) sc (n - i) curA _ (cs.drop (i * 4)) (by rw [hW];exact hN2) (by simp only [Nat.min_def];split <;> omega) (by rw [hdl,hz4]) (fun j v hj=>by
      rw [Go.WideShapes.add_plain];rw [List.getElem?_drop] at hj;have h0:=hown.cells (g:=b) rfl _ v hj;rw [Go.WideShapes.add_plain,Nat.zero_add] at h0;rw [← h0];simp only [World.cell?,hW,hO2 b hbw]) (by rw [hdl,hszA];omega) (fun v hv=>h1c v (List.mem_of_mem_drop hv))
  have hrow : curn.toList.take ((n + 1) * 4) = cs.take (i * 4) ++ ns ++ cs.drop (i * 4):=by
    have e1 : curA.toList.take ((i + 1) * 4) = cs.take (i * 4) ++ ns:=by
      have hlen : (ROW.toList.take (i * 4) ++ ns).length = (i + 1) * 4:=by
        rw [List.length_append,List.length_take,Array.length_toList,hRs,hnl];omega
      rw [← hcurA,← hlen,List.take_left,hRt]
    rw [← hcurn,e1,List.take_append_of_le_length (by simp only [List.length_append,List.length_take,hcl,hnl,hdl];omega),List.take_of_length_le (by simp only [List.length_append,List.length_take,hcl,hnl,hdl];omega)]
  have fin : ∀ W : World,(∀ k : Nat,W.heap[k]? = W2.heap[k]?) → W.heap.size = W2.heap.size → W.os = W2.os → W.tape = W2.tape → W.output = W2.output → RowTo w (W.setRow w.heap.size curn) (.slice (some ⟨b,0,none⟩) n cap) (.slice (some ⟨w.heap.size,0,none⟩) (n + 1) G) (n + 1) (cs.take (i * 4) ++ ns ++ cs.drop (i * 4)):=by
    intro W hW hs ho ht hu;have hsz : (W.setRow w.heap.size curn).heap.size = w.heap.size + 1:=by rw [show (W.setRow w.heap.size curn).heap.size = W.heap.size by simp,hs,← hW2,← hW1];simp
    refine ⟨⟨by simp only [List.length_append,List.length_take,hcl,hnl,hdl];omega,.inr ⟨w.heap.size,G,curn,rfl,Nat.zero_le _,setRow_heap W _ curA curn _ _ (by rw [hW];exact hN2),hGn,hGm,hszn,hrow⟩⟩,⟨?_,?_,?_,by omega,?_⟩,fun b' h=>.inr ?_,_,_,_,rfl⟩
    · show W.os = _;rw [ho,← hW2,← hW1];rfl
    · show W.tape = _;rw [ht,← hW2,← hW1];rfl
    · show W.output = _;rw [hu,← hW2,← hW1];rfl
    · intro k hk _;rw [setRow_other W _ k _ (by omega),hW];exact hO2 k hk
    · cases h;exact ⟨Nat.le_refl _,by rw [hsz];exact Nat.lt_succ_self _⟩
  have mixed : Tryz.prog.follows .mixedOrders = true:=by kernel_rfl
  have hz2 : ¬ ((i : Int) = (n : Int)):=by omega
  have hz3 : (cap : Int) < (n : Int) + 1:=by omega
  have hw1 : IntKind.i64.wrap ((i : Int) + 1) = (i : Int) + 1:=by rw [IntKind.wrap_i64];omega
  have hw2 : IntKind.i64.wrap ((n : Int) + 1) = (n : Int) + 1:=by rw [IntKind.wrap_i64];omega
  have hin : i ≤ n:=by omega
  have hb1' : (0 : Int) ≤ (i : Int) + 1:=by omega
  have htn : ((i : Int) + 1).toNat = i + 1:=by omega
  have hGi : ¬ (G = i):=by omega
  have hGim : ¬ (G = i + 1):=by omega
  have hci : ¬ (cap = i):=by omega
  have hb3 : (i : Int) ≤ (n : Int):=by omega
  have hG63 : G ≤ 9223372036854775807:=by unfold maxLen at hGm;omega
  rw [← hW1] at hW2;have hA : ∀ k : Nat,((w.alloc (.cells ROW 111)).drew).heap[k]? = W1.heap[k]?:=fun k=>by rw [← hW1];rfl
  have hB : ∀ k : Nat,(((w.alloc (.cells ROW 111)).drew.setRow w.heap.size curA).drew).heap[k]? = W2.heap[k]?:=fun k=>by rw [← hW2];rfl
  have hfin:=fin _ hB (by rw [← hW2];rfl) (by rw [← hW2];rfl) (by rw [← hW2];rfl) (by rw [← hW2];rfl);have hcA:=hcpA _ hA;have hcB:=hcpB _ hB;rw [hW1] at hrz;rw [← hW1] at hrz;clear hcpA hcpB fin hA hB hkk hik hold hG hROW hRs hRt hcurA hcurn hW1 hW2 hN1 hN2 hO1 hO2 hown hown2 h1 h1c hrow hdl hcl hnl htk htk2 hroom
  go_enter Tryz.func120,Tryz.ntmps120
  go_wp2_with (first
    | (at_builtin;refine Lib.wpList_append_run _ rfl _ _ _ _ rfl _ _ rfl rfl _ _ (hrz _) ?_)
    | (at_builtin;refine wpList_copy_runI _ rfl _ _ 114 114 rfl _ _ rfl rfl (hcA _ _) ?_))
  go_region_law_o (refine step_copy_runI rfl _ _ 114 114 rfl (.slice (some ⟨w.heap.size,(i + 1) * 4,none⟩) (n - i) (G - (i + 1))) (.slice (some ⟨b,i * 4,none⟩) (n - i) (cap - i)) (by simp [Act.eval,Act.put]) (by simp [Act.eval,Act.put]) (hcB _ _ _) ?_)
  go_wp2
  go_ret
  exact ⟨_,rfl,hfin⟩
end Q
end Ab
end Go.Proofs.YtpfkncffaanjcaaGreatDoor
namespace Go.Proofs.YtpfkncffaanjcaaGreatDoor
open Go.RowKit
namespace Ab
set_option maxRecDepth 100000
namespace Q
theorem flat_take {n : Nat} : ∀ (css : List (List Value)) (k : Nat),(∀ c ∈ css,c.length = n) → (css.take k).flatten = css.flatten.take (k * n)
  | [],_,_=>by simp
  | c :: r,0,_=>by simp
  | c :: r,k + 1,h=>by
    have h0 : c.length = n:=h c (by simp);have ih:=flat_take r k fun d hd=>h d (by simp [hd])
    rw [List.take_succ_cons,List.flatten_cons,List.flatten_cons,ih,Nat.add_mul,Nat.one_mul,Nat.add_comm (k * n) n]
    conv=>rhs;rw [← h0]
    rw [List.take_length_add_append,h0]
theorem flat_drop {n : Nat} : ∀ (css : List (List Value)) (k : Nat),(∀ c ∈ css,c.length = n) → (css.drop k).flatten = css.flatten.drop (k * n)
  | [],_,_=>by simp
  | c :: r,0,_=>by simp
  | c :: r,k + 1,h=>by
    have h0 : c.length = n:=h c (by simp);have ih:=flat_drop r k fun d hd=>h d (by simp [hd])
    rw [List.drop_succ_cons,List.flatten_cons,ih,Nat.add_mul,Nat.one_mul,Nat.add_comm (k * n) n,← List.drop_drop,← h0,List.drop_left,h0]
section
variable {cx : Cx} {ob : Obs} {nx : Nat} {ρ : Nat → Option Value} {w w' : World}
theorem ent_lens {ok : Oks} {xs : List Ent} {css : List (List Value)} (h1 : css.length = xs.length) (h2 : ∀ i (h : i < xs.length),rEnt.is ok w (css.getD i []) xs[i]) : ∀ c ∈ css,c.length = 4:=css_lens h1 h2
theorem ent_ones {ok : Oks} {xs : List Ent} {css : List (List Value)} (h1 : css.length = xs.length) (h2 : ∀ i (h : i < xs.length),rEnt.is ok w (css.getD i []) xs[i]) : ∀ v ∈ css.flatten,v.oneCell' = true:=css_ones h1 h2
theorem row_st (hs : StOk cx [] ob nx ρ ⟨#[],[]⟩ w) {xs xs' : List Ent} (hg : getO ob 0 = some (.vec 111 rEnt xs)) {v u : Value} (hv : ρ 0 = some v) {css' : List (List Value)} (hl : css'.length = xs'.length)
    (hR : ∀ i (h : i < xs'.length),rEnt.is (okOf cx ρ ob) w (css'.getD i []) xs'[i]) (hrow : RowTo w w' v u xs'.length css'.flatten) :
    ∃ ρ',StOk cx [] (setO 0 (.vec 111 rEnt xs') (subOb 0 .any ob)) nx ρ' ⟨#[],[]⟩ w' ∧ (C.vec 0).rep (okOf cx ρ' (setO 0 (.vec 111 rEnt xs') (subOb 0 .any ob))) ρ' w' u:=by
  obtain ⟨h1,h2,h3,h4⟩:=hrow;rw [← hv] at h2;have h3' : ∀ b,blk (some u) = some b → blk (ρ 0) = some b ∨ (w.heap.size ≤ b ∧ b < w'.heap.size):=by rw [hv];exact h3
  have hkp:=okOf_swap (o':=.vec 111 rEnt xs') hs hg h2 (fun b hb=>(h3' b hb).imp (fun h=>h) (·.1));refine ⟨upd ρ 0 u,hs.swap hg h2 h3' ⟨u,yS,css',hl,fun i hi=>Rd.kept _ hkp (hR i hi),h1⟩,yS,h4⟩
end
theorem getD_app {α : Type} (a b : List α) (i : Nat) (d : α) : (a ++ b).getD i d = if i < a.length then a.getD i d else b.getD (i - a.length) d:=by
  simp only [List.getD_eq_getElem?_getD];split
  · rename_i h;rw [List.getElem?_append_left h]
  · rename_i h;rw [List.getElem?_append_right (by omega)]
theorem delete_x (xs : List Ent) (i j : Nat) (hij : i < j) (hj : j ≤ xs.length) : ACallX Tryz.prog 119 [.one (.vec 0),ii .i64 i,ii .i64 j] [(0,.vec 111 rEnt xs)] 1 (.one (.vec 0)) [(0,.vec 111 rEnt (xs.take i ++ xs.drop j))] 1 []:=by
  refine ⟨⟨_,Tryz.func119,rfl,rfl⟩,fun cx ρ w vs _ _ _ hs hvs=>?_⟩;obtain ⟨v,r1,rfl,⟨hv,_⟩,vi,r2,rfl,hvi,vj,r3,rfl,hvj,hr3⟩:=hvs;rw [show r3 = [] from hr3,show vi = _ from hvi,show vj = _ from hvj];obtain ⟨v',hv',css,h1,h2,hown⟩ : ∃ v,ρ 0 = some v ∧ VecOk (okOf cx ρ [(0,.vec 111 rEnt xs)]) w v 111 rEnt xs:=hs.obs (0,.vec 111 rEnt xs) (by simp);rw [hv] at hv';obtain rfl:=Option.some.inj hv';have hfl:=ent_lens h1 h2;have hon:=ent_ones h1 h2;rcases id hown.2 with ⟨_,h0⟩|⟨b,cap,cur,rfl,_⟩
  · omega
  obtain ⟨cur,hb,hnc,hcm,hcz,htk,hcl⟩:=rowCells hown;refine (del_w b cap xs.length i j cur w hb hcz hnc hcm hij hj (by rw [htk];exact hon)).mono ?_
  rintro e w' ⟨rfl,cur',hgr,hb',hcz',hrow⟩
  have hnl : xs.length - (j - i) = (xs.take i ++ xs.drop j).length:=by rw [List.length_append,List.length_take,List.length_drop];omega
  have hf : (css.take i ++ css.drop j).flatten = cur.toList.take (i * 4) ++ (cur.toList.drop (j * 4)).take ((xs.length - j) * 4):=by
    rw [List.flatten_append,flat_take css i hfl,flat_drop css j hfl,← htk,take4 _ _ _ (by omega),List.drop_take]
    congr 2
    omega
  have hown' : w'.ownsRow 0 111 4 (.slice (some ⟨b,0,none⟩) (xs.length - (j - i)) cap) (xs.length - (j - i)) (css.take i ++ css.drop j).flatten:=by
    rw [hf,← hrow];have hcl' : cur'.toList.length = cap * 4:=by simpa using hcz'
    exact ⟨by rw [List.length_take,hcl'];omega,.inr ⟨b,cap,cur',rfl,Nat.zero_le _,hb',by omega,hcm,hcz',rfl⟩⟩
  rw [hnl] at hown' ⊢;obtain ⟨ρ',h3,h4⟩:=row_st (xs':=xs.take i ++ xs.drop j) (css':=css.take i ++ css.drop j) (u:=.slice (some ⟨b,0,none⟩) (xs.take i ++ xs.drop j).length cap) hs rfl hv (by simp [h1]) (fun k hk=>by
    rw [List.length_append,List.length_take,List.length_drop] at hk;rw [getD_app,List.getElem_append];simp only [List.length_take,h1];split
    · rename_i hlt;have:=h2 k (by omega);rw [List.getElem_take];rw [List.getD_eq_getElem?_getD] at this ⊢;rw [List.getElem?_take_of_lt (by omega)];exact this
    · rename_i hlt;have:=h2 (j + (k - min i xs.length)) (by omega);rw [List.getElem_drop];rw [List.getD_eq_getElem?_getD] at this ⊢;rw [List.getElem?_drop];exact this) ⟨hown',hgr,fun _ h=>.inl h,_,_,_,rfl⟩
  exact ⟨_,ρ',rfl,h3,h4,fun k hk=>by cases hk⟩
theorem insert_x (xs : List Ent) (e : Ent) (i : Nat) (hi : i ≤ xs.length) (hn : xs.length ≤ 1000000) : ACallX Tryz.prog 120 [.one (.vec 0),ii .i64 i,.one (.vec 1)] [(0,.vec 111 rEnt xs),(1,.vec 111 rEnt [e])] 2 (.one (.vec 0)) [(0,.vec 111 rEnt (insE xs i e)),(1,.vec 111 rEnt [e])] 2 []:=by
  refine ⟨⟨_,Tryz.func120,rfl,rfl⟩,fun cx ρ w vs _ _ _ hs hvs=>?_⟩;obtain ⟨v,r1,rfl,⟨hv,_⟩,vi,r2,rfl,hvi,v2,r3,rfl,⟨hv2,_⟩,hr3⟩:=hvs;rw [show r3 = [] from hr3,show vi = _ from hvi];obtain ⟨v',hv',css,h1,h2,hown⟩ : ∃ v,ρ 0 = some v ∧ VecOk (okOf cx ρ [(0,.vec 111 rEnt xs),(1,.vec 111 rEnt [e])]) w v 111 rEnt xs:=hs.obs (0,.vec 111 rEnt xs) (by simp);rw [hv] at hv';obtain rfl:=Option.some.inj hv';obtain ⟨v2',hv2',ess,g1,g2,hown2⟩ : ∃ v,ρ 1 = some v ∧ VecOk (okOf cx ρ [(0,.vec 111 rEnt xs),(1,.vec 111 rEnt [e])]) w v 111 rEnt [e]:=hs.obs (1,.vec 111 rEnt [e]) (by simp);rw [hv2] at hv2';obtain rfl:=Option.some.inj hv2';obtain ⟨es,rfl⟩ : ∃ es,ess = [es]:=List.length_eq_one_iff.1 g1;have hge:=g2 0 Nat.one_pos;have hel : es.length = 4:=Rd.len rEnt hge;have hfl:=ent_lens h1 h2;have hon:=ent_ones h1 h2;have hon2:=ent_ones g1 g2;rcases id hown2.2 with ⟨_,h0⟩|⟨vb,vc,cur2,hv2e,_⟩
  · simp at h0
  have hv2e : v2 = .slice (some ⟨vb,0,none⟩) 1 vc:=hv2e;subst hv2e;rw [show ([es] : List (List Value)).flatten = es by simp] at hown2 hon2;have hrow : Calls Tryz.prog 120 #[v,.int .i64 i,.slice (some ⟨vb,0,none⟩) 1 vc] w fun e' w'=>∃ u,e' = .returned u ∧ RowTo w w' v u (xs.length + 1) (css.flatten.take (i * 4) ++ es ++ css.flatten.drop (i * 4)):=by
    have hcl : css.flatten.length = xs.length * 4:=hown.1;rcases Nat.lt_or_ge i xs.length with hlt|hge'
    · rcases id hown.2 with ⟨_,h0⟩|⟨b,cap,cur,rfl,_⟩
      · omega
      have hne : vb ≠ b:=fun e'=>hs.sep (0,.vec 111 rEnt xs) (by simp) (1,.vec 111 rEnt [e]) (by simp) Nat.zero_ne_one b (by rw [hv];rfl) (by rw [hv2,e'];rfl)
      by_cases hroom : xs.length + 1 ≤ cap
      · exact ins_shift xs.length i b cap css.flatten es vb vc w hlt hroom hown hown2 hne hon2 hon
      · exact ins_grow xs.length i b cap css.flatten es vb vc w hlt (by omega) hn hown hown2 hon2 hon
    · obtain rfl : i = xs.length:=by omega
      have:=ins_end xs.length v css.flatten es vb vc w hown hown2 hon2 hn;rw [List.take_of_length_le (by omega),List.drop_of_length_le (by omega),List.append_nil];exact this
  refine hrow.mono ?_
  rintro e' w' ⟨u,rfl,hrt⟩
  have hf : (css.take i ++ es :: css.drop i).flatten = css.flatten.take (i * 4) ++ es ++ css.flatten.drop (i * 4):=by
    rw [List.flatten_append,List.flatten_cons,flat_take css i hfl,flat_drop css i hfl,List.append_assoc]
  have hnl : xs.length + 1 = (insE xs i e).length:=by unfold insE;rw [List.length_append,List.length_cons,List.length_take,List.length_drop];omega
  rw [← hf,hnl] at hrt;obtain ⟨ρ',h3,h4⟩:=row_st (xs':=insE xs i e) hs rfl hv (by rw [← hnl];simp [h1];omega) (fun k hk=>by
    rw [← hnl] at hk;simp only [insE,getD_app,List.getElem_append,List.length_take,h1];split
    · rename_i hlt;have:=h2 k (by omega);rw [List.getElem_take];rw [List.getD_eq_getElem?_getD] at this ⊢;rw [List.getElem?_take_of_lt (by omega)];exact this
    · rename_i hlt;obtain ⟨q,hq⟩ : ∃ q,k - min i xs.length = q:=⟨_,rfl⟩;simp only [hq];cases q with
      | zero=>exact hge
      | succ q =>
        have:=h2 (i + q) (by omega);simp only [List.getElem_cons_succ,List.getD_cons_succ,List.getElem_drop];rw [List.getD_eq_getElem?_getD] at this ⊢;rw [List.getElem?_drop];exact this) hrt
  exact ⟨_,ρ',rfl,h3,h4,fun k hk=>by cases hk⟩
theorem cloneE_o {k : Nat} (es : List Ent) (hl : es.length ≤ 1000000) : qU Tryz.prog 82 [.one (.slk k rEnt es)] [] 0 (.one (.vec 0)) [(0,.vec 111 rEnt es)] 1:=by
  refine qQ (rs:=[2]) Tryz.func82 rfl rfl rfl teOk (by decide) rfl ?_;refine qC ?_;refine qB ?_;refine qC ?_;refine qC ?_;refine acode_isnil (q:=k) [_] _ (R:=rEnt) (xs:=es) rfl rfl rfl rfl (e:=111) rfl rfl ?_;refine ⟨rfl,fun b hb=>?_⟩;refine qI rfl (fun h4=>?_) (fun h4=>?_)
  ·have hl0:=hb h4;subst hl0;refine qC ?_;refine qB ?_;refine xI 2 111 rEnt rfl ?_;refine qL ?_;exact ⟨rfl,rfl,rfl⟩
  ·refine qM ?_;refine qC ?_;refine qB ?_;refine zai (by first|exact qW (show es.length ≤ 1000000000 by omega) (by decide)|exact qW (show 0 + es.length ≤ 1000000000 by omega) (by decide)) ?_;refine qL ?_;exact ⟨rfl,rfl,rfl⟩
def recsT (l : List Itm) : List (List Fld):=(l.filter fun x=>decide (x.1 = 3)).map (·.2.2)
def fldL (a : List Fld) : List ByteArray:=a.flatMap fun f=>lineB f.1 f.2
def textT : List (List Fld) → List ByteArray
  | []=>[]
  | [a]=>fldL a
  | a :: b :: r=>fldL a ++ (⟨#[]⟩ :: textT (b :: r))
def GoodS (a : List Fld) : Prop:=a ≠ [] ∧ a.length ≤ 40 ∧ ∀ f ∈ a,yR f = 0
def badAt : Int → List Fld → Int × Int
  | _,[]=>(-9,0)
  | i,f :: r=>if yR f ≠ 0 then (i,yR f) else badAt (i + 1) r
def chkR (l : List Fld) : Int × Int:=if l = [] then (-9,2) else if 40 < l.length then (-9,11) else badAt 0 l
def chkA (l : List Fld) : C:=if (chkR l).2 = 0 then .lit .nilIface else if (chkR l).1 = -9 then errN (chkR l).2 else errF (chkR l).1 (chkR l).2
theorem badAt_hit : ∀ (l : List Fld) (i : Nat) (k : Int),i < l.length → (∀ f ∈ l.take i,yR f = 0) → yR (l.getD i (ByteArray.empty,ByteArray.empty)) ≠ 0 → badAt k l = (k + i,yR (l.getD i (ByteArray.empty,ByteArray.empty)))
  | [],i,k,h,_,_=>by simp at h
  | f :: r,0,k,_,_,hb=>by
    unfold badAt;rw [if_pos (by simpa using hb)];simp
  | f :: r,i + 1,k,h,ht,hb=>by
    unfold badAt;rw [if_neg (by simpa using ht f (by simp))];rw [badAt_hit r i (k + 1) (by simpa using h) (fun g hg=>ht g (by simp [hg])) (by simpa using hb)];simp only [List.getD_cons_succ]
    congr 1
    omega
theorem badAt_no : ∀ (l : List Fld) (k : Int),(∀ f ∈ l,yR f = 0) → badAt k l = (-9,0)
  | [],_,_=>rfl
  | f :: r,k,h=>by
    unfold badAt;rw [if_neg (by simpa using h f (by simp))];exact badAt_no r (k + 1) (fun g hg=>h g (by simp [hg]))
theorem chkA_nil {l : List Fld} (h : chkR l = (-9,0)) : chkA l = .lit .nilIface:=by unfold chkA;rw [h];rfl
theorem chkA_no {l : List Fld} {n : Int} (h : chkR l = (-9,n)) (hn : n ≠ 0) : chkA l = errN n:=by unfold chkA;rw [h,if_neg hn,if_pos rfl]
theorem chkA_at {l : List Fld} {i n : Int} (h : chkR l = (i,n)) (hn : n ≠ 0) (hi : 0 ≤ i) : chkA l = errF i n:=by unfold chkA;rw [h,if_neg hn,if_neg (by show ¬ i = -9;omega)]
theorem pcheck_c {κ : Nat} (l : List Fld) (hl : qT l) : qR Tryz.prog 47 [.one (.slk κ rFld l)] (.one (chkA l)):=by
  have hln:=hl.1;refine qP (rs:=[2]) Tryz.func47 rfl rfl rfl teOk rfl ?_;refine qC ?_;refine qB ?_;refine qC ?_;refine qN ?_;refine qC ?_;refine qB ?_;intro l1_1
  try simp only [zds] at l1_1
  refine qI rfl (fun h6=>?_) (fun h6=>?_)
  ·try simp only [decide_eq_true_eq] at h6
   try simp only [zds] at h6
   refine qC ?_;refine qB ?_;refine qL ?_;rw [chkA_no (l:=l) (n:=2) (by unfold chkR;rw [if_pos (List.eq_nil_of_length_eq_zero (by omega))]) (by decide)];rfl
  ·try simp only [decide_eq_false_iff_not] at h6
   try simp only [zds] at h6
   refine qC ?_;refine qB ?_;intro l3_1
   try simp only [zds] at l3_1
   refine qI rfl (fun h11=>?_) (fun h11=>?_)
   ·try simp only [decide_eq_true_eq] at h11
    try simp only [zds] at h11
    refine qC ?_;refine qB ?_;refine qL ?_;rw [chkA_no (l:=l) (n:=11) (by unfold chkR;rw [if_neg (fun e=>h6 (by rw [e];rfl)),if_pos (by omega)]) (by decide)];rfl
   ·try simp only [decide_eq_false_iff_not,Int.not_lt] at h11
    try simp only [zds] at h11
    refine qM ?_;refine qC ?_;refine qC ?_;refine qB ?_;intro l5_1
    try simp only [zds] at l5_1
    refine qN ?_;refine qX (fun (i : Nat)=>i ≤ l.length ∧ ∀ f ∈ l.take i,yR f = 0) (fun (i : Nat)=>[(16,.one (.slk κ rFld l)),(17,ii .i64 l.length),(18,ii .i64 i)]) (fun (i : Nat)=>[]) 0 (fun (i : Nat)=>l.length - i) 0 (⟨Nat.zero_le _,by simp⟩) (qV ⟨rfl,rfl,rfl⟩ trivial rfl) ?_;intro i hI1;obtain ⟨hi,hall⟩:=hI1;refine qC ?_;refine qB ?_;refine qC ?_;refine qI rfl (fun h19=>?_) (fun h19=>?_)
    ·try simp only [decide_eq_true_eq] at h19
     try simp only [zds] at h19
     have hlt : i < l.length:=(by omega);have hm:=hl.2 _ (yY hlt (ByteArray.empty,ByteArray.empty));have hne : l ≠ []:=(fun e=>by rw [e] at hlt;simp at hlt);refine qM ?_;refine qC ?_;refine qN ?_;refine qC ?_;refine qB ?_;refine zai (by first|omega|assumption|decide|(simp only [zds];omega)|(simp <;> omega)) ?_;refine qC ?_;rcases check_cases (l.getD i (ByteArray.empty,ByteArray.empty)) with hc|hc|hc
     ·refine qB ?_;refine Or.inl ?_;refine zai (rfl) ?_;refine zei _ (zai (check_v (l.getD i (ByteArray.empty,ByteArray.empty)) _ (by omega) hc) ?_);refine qC ?_;refine qB ?_;refine qI rfl (fun h26=>?_) (fun h26=>?_)
      ·skip
       refine qC ?_;refine qB ?_;refine qL ?_;rw [chkA_at (l:=l) (i:=i) (n:=5) (by unfold chkR;rw [if_neg hne,if_neg (by omega),badAt_hit l i 0 hlt hall (by rw [hc];decide),hc];simp) (by decide) (by omega)];rfl
      ·try simp only [zbq] at h26
       try simp only [zds] at h26
       cases h26
     ·refine qB ?_;refine Or.inl ?_;refine zai (rfl) ?_;refine zei _ (zai (check_v (l.getD i (ByteArray.empty,ByteArray.empty)) _ (by omega) hc) ?_);refine qC ?_;refine qB ?_;refine qI rfl (fun h26=>?_) (fun h26=>?_)
      ·skip
       refine qC ?_;refine qB ?_;refine qL ?_;rw [chkA_at (l:=l) (i:=i) (n:=6) (by unfold chkR;rw [if_neg hne,if_neg (by omega),badAt_hit l i 0 hlt hall (by rw [hc];decide),hc];simp) (by decide) (by omega)];rfl
      ·try simp only [zbq] at h26
       try simp only [zds] at h26
       cases h26
     ·refine qB ?_;refine Or.inl ?_;refine zai (rfl) ?_;refine zei _ (zai (check_v (l.getD i (ByteArray.empty,ByteArray.empty)) _ (by omega) hc) ?_);refine qC ?_;refine qB ?_;refine qI rfl (fun h26=>?_) (fun h26=>?_)
      ·try simp only [Bool.not_eq_true'] at h26
       try simp only [zds] at h26
       cases h26
      ·try simp only [Bool.not_eq_false'] at h26
       try simp only [zds] at h26
       refine qM ?_;refine qB ?_;refine zai (by first|omega|assumption|decide|(simp only [zds];omega)|(simp <;> omega)) ?_;exact ⟨i + 1,⟨by omega,by rw [← xA (ByteArray.empty,ByteArray.empty) hlt];intro f hf;rcases List.mem_append.1 hf with h|h;exact hall f h;rw [List.mem_singleton.1 h];exact hc⟩,by first|omega|(simp <;> omega),qV ⟨rfl,rfl,(yW (by omega))⟩ trivial rfl⟩
    ·try simp only [decide_eq_false_iff_not,Int.not_lt] at h19
     try simp only [zds] at h19
     refine yA ?_;refine qC ?_;refine qB ?_;refine qL ?_;rw [List.take_of_length_le (by omega)] at hall;rw [chkA_nil (by unfold chkR;rw [if_neg (fun e=>h6 (by rw [e];rfl)),if_neg (by omega)];exact badAt_no l 0 hall)];rfl
theorem badAt_zero : ∀ (l : List Fld) (k : Int),(badAt k l).2 = 0 → (∀ f ∈ l,yR f = 0)
  | [],_,_,f,hf=>by cases hf
  | g :: r,k,h,f,hf=>by
    unfold badAt at h;split at h
    · rename_i hg;exact absurd h hg
    · rename_i hg;rcases List.mem_cons.1 hf with rfl|hf
      · exact Classical.not_not.1 hg
      · exact badAt_zero r (k + 1) h f hf
theorem chk_good {l : List Fld} (h : (chkR l).2 = 0) : GoodS l ∧ badF l = 0 ∧ chkA l = .lit .nilIface:=by
  have hA : chkA l = .lit .nilIface:=by unfold chkA;rw [if_pos h]
  unfold chkR at h;split at h
  · cases h
  · rename_i h0;split at h
    · cases h
    · rename_i h4;have:=badAt_zero l 0 h;exact ⟨⟨h0,by omega,this⟩,badF_ok this,hA⟩
theorem chk_bad {l : List Fld} (h : (chkR l).2 ≠ 0) : ∃ e,chkA l = e ∧ ((∃ n,n ≠ 0 ∧ e = errN n ∧ chkR l = (-9,n)) ∨ ∃ i n,n ≠ 0 ∧ e = errF i n ∧ chkR l = (i,n)):=by
  refine ⟨_,rfl,?_⟩;unfold chkA;rw [if_neg h]
  by_cases h9 : (chkR l).1 = -9
  · rw [if_pos h9];exact .inl ⟨_,h,rfl,Prod.ext h9 rfl⟩
  · rw [if_neg h9];exact .inr ⟨_,_,h,rfl,rfl⟩
theorem pstanza_ok {κ : Nat} {l : List Fld} (hl : qT l) (h : (chkR l).2 = 0) : qR Tryz.prog 147 [.one (.slk κ rFld l)] (.tup [(false,[.lit (.string (bytes (foldL l)))]),(false,[.lit .nilIface])]):=by
  obtain ⟨h1,h2,h3⟩:=chk_good h;have hc:=pcheck_c (κ:=κ) l hl;rw [h3] at hc;refine qP (rs:=[2,3]) Tryz.func147 rfl rfl rfl teOk rfl ?_;refine qC ?_;refine qB ?_;refine qC ?_;refine qC ?_;refine qB ?_;refine Or.inl ?_;refine zai (rfl) ?_;refine zei _ (zai (hc) ?_);refine qC ?_;refine qB ?_;refine qI rfl (fun h8=>?_) (fun h8=>?_)
  ·try simp only [Bool.not_eq_true'] at h8
   try simp only [zds] at h8
   cases h8
  ·try simp only [Bool.not_eq_false'] at h8
   try simp only [zds] at h8
   refine qM ?_;refine qC ?_;refine qB ?_;refine Or.inl ?_;refine zai (rfl) ?_;refine zei _ (zai (fold_yes hl h2) ?_);refine qL ?_;rfl
theorem pstanza_err {κ : Nat} {l : List Fld} (hl : qT l) (h : (chkR l).2 ≠ 0) : qR Tryz.prog 147 [.one (.slk κ rFld l)] (.tup [(false,[.lit (.string ⟨#[]⟩)]),(false,[chkA l])]):=by
  have hc:=pcheck_c (κ:=κ) l hl;obtain ⟨e,he,hs⟩:=chk_bad h;rw [he] at hc ⊢;rcases hs with ⟨n,hn,rfl,_⟩|⟨i,n,hn,rfl,_⟩
  ·
    refine qP (rs:=[2,3]) Tryz.func147 rfl rfl rfl teOk rfl ?_;refine qC ?_;refine qB ?_;refine qC ?_;refine qC ?_;refine qB ?_;refine Or.inl ?_;refine zai (rfl) ?_;refine zei _ (zai (hc) ?_);refine qC ?_;refine qB ?_;refine qI rfl (fun h8=>?_) (fun h8=>?_)
    ·skip
     refine qC ?_;refine qB ?_;refine qL ?_;rfl
    ·try simp only [zbq] at h8
     try simp only [zds] at h8
     cases h8
  ·
    refine qP (rs:=[2,3]) Tryz.func147 rfl rfl rfl teOk rfl ?_;refine qC ?_;refine qB ?_;refine qC ?_;refine qC ?_;refine qB ?_;refine Or.inl ?_;refine zai (rfl) ?_;refine zei _ (zai (hc) ?_);refine qC ?_;refine qB ?_;refine qI rfl (fun h8=>?_) (fun h8=>?_)
    ·skip
     refine qC ?_;refine qB ?_;refine qL ?_;rfl
    ·try simp only [zbq] at h8
     try simp only [zds] at h8
     cases h8
theorem clone_c {k : Nat} (l : List Fld) (hl : l.length ≤ 1000000) : qR Tryz.prog 62 [.one (.slk k rFld l)] (.one (.sl rFld l)):=by
  refine qP (rs:=[2]) Tryz.func62 rfl rfl rfl teOk rfl ?_;refine qC ?_;refine qB ?_;refine qC ?_;refine qC ?_;refine acode_isnil (q:=k) [_] _ (R:=rFld) (xs:=l) rfl rfl rfl rfl (e:=82) rfl rfl ?_;refine ⟨rfl,fun b hb=>?_⟩;refine qI rfl (fun h4=>?_) (fun h4=>?_)
  ·have hl0:=hb h4;subst hl0;refine qC ?_;refine qB ?_;refine xI 2 82 rFld rfl ?_;refine qL ?_;rfl
  ·refine qM ?_;refine qC ?_;refine qB ?_;refine zai (by first|exact qW (show l.length ≤ 1000000000 by omega) (by decide)|exact qW (show 0 + l.length ≤ 1000000000 by omega) (by decide)) ?_;refine qL ?_;rfl
def al6 : List (List Fld):=[[(⟨#[65]⟩,⟨#[49]⟩)],[(⟨#[66]⟩,⟨#[50]⟩)]]
def itEs (es : List Ent) : List (List A):=(es.filter live).map fun e=>[A.agg (toL rEnt e)]
def cntL (es : List Ent) : Nat:=(es.filter live).length
theorem index_E (f : FuncId) {k : Nat} {β : Type} (S : Rd β) (y : β) (l : List Ent) (p : Ent → Bool) (hp : ∀ x ∈ l,qR Tryz.prog f [.agg (toL rEnt x),.one (.addr S y)] (ib (p x))) : qR Tryz.prog 137 [.one (.slk k rEnt l),.one (.clo f (.addr S y))] (ii .i64 (ixOf p l)):=by
  refine qP (rs:=[4]) Tryz.func137 rfl rfl rfl teOk rfl ?_;refine qC ?_;refine qB ?_;refine qC ?_;refine qC ?_;refine qB ?_;intro l1_1
  try simp only [zds] at l1_1
  refine qN ?_;refine qX (fun (i : Nat)=>i ≤ l.length ∧ (l.take i).any p = false) (fun (i : Nat)=>[(0,.one (.slk k rEnt l)),(1,.one (.clo f (.addr S y))),(7,ii .i64 l.length),(8,ii .i64 i)]) (fun (i : Nat)=>[]) 0 (fun (i : Nat)=>l.length - i) 0 (⟨Nat.zero_le _,rfl⟩) (qV ⟨rfl,rfl,rfl,rfl⟩ trivial rfl) ?_;intro i hI0;obtain ⟨hi,hn⟩:=hI0;refine qC ?_;refine qB ?_;refine qC ?_;refine qI rfl (fun h9=>?_) (fun h9=>?_)
  ·try simp only [decide_eq_true_eq] at h9
   try simp only [zds] at h9
   refine qM ?_;refine qC ?_;refine qN ?_;refine qC ?_;refine qB ?_;refine qC ?_;refine qB ?_;refine zai (by first|omega|assumption|decide|(simp only [zds];omega)|(simp <;> omega)) ?_;refine Or.inl ?_;refine zai (rfl) ?_;refine zei _ (zai (hp _ (yY (show i < l.length by omega) _)) ?_);refine qI rfl (fun h16=>?_) (fun h16=>?_)
   ·try simp only [zbq] at h16
    try simp only [Int.toNat_natCast,qH,qG,qF,qE] at h16
    refine qC ?_;refine qB ?_;refine qL ?_;exact yW (ixOf_at (((0 : Int),ByteArray.empty,([] : List Fld)),(0 : Int)) (by omega) hn h16).symm
   ·try simp only [zbq] at h16
    try simp only [Int.toNat_natCast,qH,qG,qF,qE] at h16
    refine qM ?_;refine qB ?_;refine zai (by first|omega|assumption|decide|(simp only [zds];omega)|(simp <;> omega)) ?_;exact ⟨i + 1,⟨by omega,by rw [take_any l p (((0 : Int),ByteArray.empty,([] : List Fld)),(0 : Int)) i (by omega),hn];exact h16⟩,by first|omega|(simp <;> omega),qV ⟨rfl,rfl,rfl,rfl⟩ trivial rfl⟩
  ·try simp only [decide_eq_false_iff_not,Int.not_lt] at h9
   try simp only [zds] at h9
   refine yA ?_;refine qC ?_;refine qB ?_;refine qL ?_;have e : i = l.length:=by omega
   subst e;rw [List.take_length] at hn;exact yW (ixOf_none hn).symm
theorem at1_c (id : Int) (e : Ent) : qR Tryz.prog 138 [.agg (toL rEnt e),.one (.addr (.int .i64) id)] (ib (hasId id e)):=by
  refine qP (rs:=[3]) Tryz.func138 rfl rfl rfl teOk rfl ?_;refine qC ?_;refine qB ?_;refine qC ?_;refine qB ?_;refine qL ?_;rfl
theorem at_c {k : Nat} (es : List Ent) (n m id : Int) : qR Tryz.prog 104 [.one (.adk k (rLst k) (es,n,m)),ii .i64 id] (ii .i64 (atE es id)):=by
  refine qP (rs:=[4]) Tryz.func104 rfl rfl rfl teOk rfl ?_;refine qC ?_;refine qB ?_;refine qC ?_;refine qC ?_;refine qB ?_;refine zai (fun h=>trivial) ?_;refine zai (fun h=>⟨⟨h,trivial⟩,trivial⟩) ?_;refine zai (by first|(intro h;rw [h];rfl)|(intro h;cases h)) ?_;refine qI rfl (fun h10=>?_) (fun h10=>?_)
  ·try simp only [decide_eq_true_eq,Bool.or_eq_true] at h10
   try simp only [zds] at h10
   have h10 : id < 1:=h10.elim (fun h=>by cases h) (fun h=>h);refine qC ?_;refine qB ?_;refine qL ?_;exact yW (by unfold atE;rw [if_pos h10])
  ·try simp only [decide_eq_false_iff_not,Bool.or_eq_false_iff,Int.not_lt] at h10
   try simp only [zds] at h10
   have h10 : ¬ id < 1:=(by simp at h10;omega);refine qM ?_;refine qC ?_;refine qB ?_;refine Or.inl ?_;refine zai (rfl) ?_;refine zei _ (zai (index_E _ (.int .i64) id es (hasId id) (fun x _=>at1_c id x)) ?_);refine qL ?_;exact yW (by unfold atE;rw [if_neg h10])
theorem next_c {k : Nat} (es : List Ent) (n m : Int) : qR Tryz.prog 25 [.one (.adk k (rLst k) (es,n,m))] (ii .i64 n):=by
  refine qP (rs:=[2]) Tryz.func25 rfl rfl rfl teOk rfl ?_;refine qC ?_;refine qB ?_;refine qC ?_;refine qC ?_;refine qB ?_;refine qI rfl (fun h4=>?_) (fun h4=>?_)
  ·try simp only [zbq] at h4
   try simp only [zds] at h4
   simp at h4
  ·skip
   refine qM ?_;refine qC ?_;refine qB ?_;refine qL ?_;rfl
theorem len_c {k : Nat} (es : List Ent) (n m : Int) : qR Tryz.prog 32 [.one (.adk k (rLst k) (es,n,m))] (ii .i64 m):=by
  refine qP (rs:=[2]) Tryz.func32 rfl rfl rfl teOk rfl ?_;refine qC ?_;refine qB ?_;refine qC ?_;refine qC ?_;refine qB ?_;refine qI rfl (fun h4=>?_) (fun h4=>?_)
  ·try simp only [zbq] at h4
   try simp only [zds] at h4
   simp at h4
  ·skip
   refine qM ?_;refine qC ?_;refine qB ?_;refine qL ?_;rfl
theorem at_lt {es : List Ent} {id : Int} (h : ¬ atE es id < 0) : ∃ i : Nat,i < es.length ∧ atE es id = i ∧ 0 < id ∧ (es.getD i (((0 : Int),ByteArray.empty,([] : List Fld)),(0 : Int))).2 = id:=by
  rcases at_cases es id with ⟨h1,_⟩|⟨i,h1,h2,h3,h4,_⟩
  · omega
  · exact ⟨i,h1,h2,h3,h4⟩
theorem get_c {k : Nat} (es : List Ent) (n m id : Int) (hf : ∀ e ∈ es,e.1.2.2.length ≤ 1000000) : qR Tryz.prog 68 [.one (.adk k (rLst k) (es,n,m)),ii .i64 id] (.tup [(false,[.sl rFld (if atE es id < 0 then [] else getL es id)]),(false,[.lit (.bool (decide (0 ≤ atE es id)))])]):=by
  refine qP (rs:=[4,5]) Tryz.func68 rfl rfl rfl teOk rfl ?_;refine qC ?_;refine qB ?_;refine qC ?_;refine qB ?_;refine Or.inl ?_;refine zai (rfl) ?_;refine zei _ (zai (at_c es n m id) ?_);refine qC ?_;refine qC ?_;refine qB ?_;refine qI rfl (fun h11=>?_) (fun h11=>?_)
  ·try simp only [decide_eq_true_eq] at h11
   try simp only [zds] at h11
   rw [if_pos h11,decide_eq_false (show ¬ 0 ≤ atE es id by omega)];refine qC ?_;refine qB ?_;refine xI 4 82 rFld rfl ?_;refine qL ?_;rfl
  ·try simp only [decide_eq_false_iff_not,Int.not_lt] at h11
   try simp only [zds] at h11
   have h11' : ¬ atE es id < 0:=(by omega);obtain ⟨i,hi,he,_,_⟩:=at_lt h11';rw [if_neg h11',decide_eq_true (show 0 ≤ atE es id by omega)];have hfi:=hf _ (yY hi (((0 : Int),ByteArray.empty,([] : List Fld)),(0 : Int)));unfold getL;rw [he];rw [Int.toNat_natCast];refine qM ?_;refine qC ?_;refine qB ?_;refine zai (by first|omega|assumption|decide|(simp only [];omega)|(simp <;> omega)) ?_;refine Or.inl ?_;refine zai (rfl) ?_;refine zei _ (zai (clone_c _ hfi) ?_);refine qL ?_;rfl
theorem lDel_no (es : List Ent) (n m id : Int) (h : atE es id < 0) : qU Tryz.prog 84 [.one (.own 0 0),ii .i64 id] (lsO (es,n,m)) 2 (.one (errN 7)) (lsO (es,n,m)) 2:=by
  refine qQ (rs:=[4]) Tryz.func84 rfl rfl rfl teOk (by decide) rfl ?_;refine qC ?_;refine qB ?_;refine qC ?_;refine qB ?_;refine Or.inr (Or.inr (Or.inl ?_));refine zai rfl ?_;refine zei _ (zai (at_c es n m id) ?_);refine qC ?_;refine qC ?_;refine qB ?_;refine qI rfl (fun h10=>?_) (fun h10=>?_)
  ·try simp only [decide_eq_true_eq] at h10
   try simp only [zds] at h10
   refine qC ?_;refine qB ?_;refine qL ?_;exact ⟨rfl,⟨rfl,rfl⟩,rfl⟩
  ·try simp only [decide_eq_false_iff_not,Int.not_lt] at h10
   try simp only [zds] at h10
   omega
theorem lDel_ok (es : List Ent) (n m id : Int) (i : Nat) (hi : i < es.length) (h : atE es id = i) (hm : 0 ≤ m ∧ m ≤ 1000000) (hl : es.length ≤ 1000000) : qU Tryz.prog 84 [.one (.own 0 0),ii .i64 id] (lsO (es,n,m)) 2 (.one (.lit .nilIface)) (lsO (delE es i,n,m - 1)) 2:=by
  refine qQ (rs:=[4]) Tryz.func84 rfl rfl rfl teOk (by decide) rfl ?_;refine qC ?_;refine qB ?_;refine qC ?_;refine qB ?_;refine Or.inr (Or.inr (Or.inl ?_));refine zai rfl ?_;refine zei _ (zai ((by have:=at_c (k:=1) es n m id;rw [h] at this;exact this)) ?_);refine qC ?_;refine qC ?_;refine qB ?_;refine qI rfl (fun h10=>?_) (fun h10=>?_)
  ·try simp only [decide_eq_true_eq] at h10
   try simp only [zds] at h10
   omega
  ·try simp only [decide_eq_false_iff_not,Int.not_lt] at h10
   try simp only [zds] at h10
   refine qM ?_;refine qC ?_;refine qB ?_;refine zai (by first|omega|assumption|decide|(simp only [zds];omega)|(simp <;> omega)) ?_;refine Or.inr (Or.inr (Or.inr (zei [1] (zei [] (zei _ (zei _ (zei _ (zei _ (zei _ (zai (delete_x es i (i + 1) (Nat.lt_succ_self _) hi) (zai rfl (zai (zai (zai rfl rfl) True.intro) (zai rfl ?_)))))))))))));refine qC ?_;refine qB ?_;refine zai (by first|omega|assumption|decide|(simp only [];omega)|(simp <;> omega)) ?_;refine qC ?_;refine qB ?_;refine qL ?_;exact ⟨rfl,⟨rfl,rfl⟩,rfl⟩
theorem pitem_ok {κ : Nat} {l : List Fld} (hl : qT l) (h : (chkR l).2 = 0) : qR Tryz.prog 118 [.one (.slk κ rFld l)] (.tup [(true,toL rItm (3,bytes (foldL l),l)),(false,[.lit .nilIface])]):=by
  refine acall_ofc (rs:=[.cell 2 109,.tmp 3]) Tryz.func118 rfl rfl rfl teOk rfl ?_;refine qC ?_;refine qB ?_;refine qC ?_;refine qB ?_;refine Or.inl ?_;refine zai (rfl) ?_;refine zei _ (zai (pstanza_ok hl h) ?_);refine qC ?_;refine qC ?_;refine qB ?_;refine qI rfl (fun h12=>?_) (fun h12=>?_)
  ·try simp only [Bool.not_eq_true'] at h12
   try simp only [zds] at h12
   cases h12
  ·try simp only [Bool.not_eq_false'] at h12
   try simp only [zds] at h12
   refine qM ?_;refine qC ?_;refine qB ?_;refine Or.inl ?_;refine zai (rfl) ?_;refine zei _ (zai (clone_c l (Nat.le_trans hl.1 (by decide))) ?_);refine qL ?_;rfl
theorem pitem_err {κ : Nat} {l : List Fld} (hl : qT l) (h : (chkR l).2 ≠ 0) : qR Tryz.prog 118 [.one (.slk κ rFld l)] (.tup [(true,[.lit (.int .i64 0),.lit (.string ⟨#[]⟩),.lit (.slice none 0 0)]),(false,[chkA l])]):=by
  have hc:=pstanza_err (κ:=κ) hl h;obtain ⟨e,he,hs⟩:=chk_bad h;rw [he] at hc ⊢;rcases hs with ⟨n,hn,rfl,_⟩|⟨i,n,hn,rfl,_⟩
  ·
    refine acall_ofc (rs:=[.cell 2 109,.tmp 3]) Tryz.func118 rfl rfl rfl teOk rfl ?_;refine qC ?_;refine qB ?_;refine qC ?_;refine qB ?_;refine Or.inl ?_;refine zai (rfl) ?_;refine zei _ (zai (hc) ?_);refine qC ?_;refine qC ?_;refine qB ?_;refine qI rfl (fun h12=>?_) (fun h12=>?_)
    ·skip
     refine qC ?_;refine qB ?_;refine qL ?_;rfl
    ·try simp only [zbq] at h12
     try simp only [zds] at h12
     cases h12
  ·
    refine acall_ofc (rs:=[.cell 2 109,.tmp 3]) Tryz.func118 rfl rfl rfl teOk rfl ?_;refine qC ?_;refine qB ?_;refine qC ?_;refine qB ?_;refine Or.inl ?_;refine zai (rfl) ?_;refine zei _ (zai (hc) ?_);refine qC ?_;refine qC ?_;refine qB ?_;refine qI rfl (fun h12=>?_) (fun h12=>?_)
    ·skip
     refine qC ?_;refine qB ?_;refine qL ?_;rfl
    ·try simp only [zbq] at h12
     try simp only [zds] at h12
     cases h12
def itmOf (f : List Fld) : Itm:=(3,bytes (foldL f),f)
theorem lRep_no {κ : Nat} (es : List Ent) (n m id : Int) (f : List Fld) (h : atE es id < 0) : qU Tryz.prog 83 [.one (.own 0 0),ii .i64 id,.one (.slk κ rFld f)] (lsO (es,n,m)) 2 (.one (errN 7)) (lsO (es,n,m)) 2:=by
  refine qQ (rs:=[6]) Tryz.func83 rfl rfl rfl teOk (by decide) rfl ?_;refine qC ?_;refine qB ?_;refine qC ?_;refine qB ?_;refine Or.inr (Or.inr (Or.inl ?_));refine zai rfl ?_;refine zei _ (zai (at_c es n m id) ?_);refine qC ?_;refine qC ?_;refine qB ?_;refine qI rfl (fun h14=>?_) (fun h14=>?_)
  ·try simp only [decide_eq_true_eq] at h14
   try simp only [zds] at h14
   refine qC ?_;refine qB ?_;refine qL ?_;exact ⟨rfl,⟨rfl,rfl⟩,rfl⟩
  ·try simp only [decide_eq_false_iff_not,Int.not_lt] at h14
   try simp only [zds] at h14
   omega
theorem lRep_bad {κ : Nat} (es : List Ent) (n m id : Int) (f : List Fld) (h : 0 ≤ atE es id) (hf : qT f) (hc : (chkR f).2 ≠ 0) : qU Tryz.prog 83 [.one (.own 0 0),ii .i64 id,.one (.slk κ rFld f)] (lsO (es,n,m)) 2 (.one (chkA f)) (lsO (es,n,m)) 2:=by
  have hpi:=pitem_err (κ:=κ) hf hc;obtain ⟨e,he,hs⟩:=chk_bad hc;rw [he] at hpi ⊢;rcases hs with ⟨x,hx,rfl,_⟩|⟨j,x,hx,rfl,_⟩
  ·
    refine qQ (rs:=[6]) Tryz.func83 rfl rfl rfl teOk (by decide) rfl ?_;refine qC ?_;refine qB ?_;refine qC ?_;refine qB ?_;refine Or.inr (Or.inr (Or.inl ?_));refine zai rfl ?_;refine zei _ (zai (at_c es n m id) ?_);refine qC ?_;refine qC ?_;refine qB ?_;refine qI rfl (fun h14=>?_) (fun h14=>?_)
    ·try simp only [decide_eq_true_eq] at h14
     try simp only [zds] at h14
     omega
    ·try simp only [decide_eq_false_iff_not,Int.not_lt] at h14
     try simp only [zds] at h14
     refine qM ?_;refine qC ?_;refine qB ?_;refine Or.inl ?_;refine zai (rfl) ?_;refine zei _ (zai (hpi) ?_);refine qC ?_;refine qC ?_;refine qB ?_;refine qI rfl (fun h22=>?_) (fun h22=>?_)
     ·skip
      refine qC ?_;refine qB ?_;refine qL ?_;exact ⟨rfl,⟨rfl,rfl⟩,rfl⟩
     ·try simp only [zbq] at h22
      try simp only [zds] at h22
      cases h22
  ·
    refine qQ (rs:=[6]) Tryz.func83 rfl rfl rfl teOk (by decide) rfl ?_;refine qC ?_;refine qB ?_;refine qC ?_;refine qB ?_;refine Or.inr (Or.inr (Or.inl ?_));refine zai rfl ?_;refine zei _ (zai (at_c es n m id) ?_);refine qC ?_;refine qC ?_;refine qB ?_;refine qI rfl (fun h14=>?_) (fun h14=>?_)
    ·try simp only [decide_eq_true_eq] at h14
     try simp only [zds] at h14
     omega
    ·try simp only [decide_eq_false_iff_not,Int.not_lt] at h14
     try simp only [zds] at h14
     refine qM ?_;refine qC ?_;refine qB ?_;refine Or.inl ?_;refine zai (rfl) ?_;refine zei _ (zai (hpi) ?_);refine qC ?_;refine qC ?_;refine qB ?_;refine qI rfl (fun h22=>?_) (fun h22=>?_)
     ·skip
      refine qC ?_;refine qB ?_;refine qL ?_;exact ⟨rfl,⟨rfl,rfl⟩,rfl⟩
     ·try simp only [zbq] at h22
      try simp only [zds] at h22
      cases h22
theorem lRep_ok {κ : Nat} (es : List Ent) (n m id : Int) (f : List Fld) (i : Nat) (hi : i < es.length) (h : atE es id = i) (hf : qT f) (hc : (chkR f).2 = 0) : qU Tryz.prog 83 [.one (.own 0 0),ii .i64 id,.one (.slk κ rFld f)] (lsO (es,n,m)) 2 (.one (.lit .nilIface)) (lsO (replE es i (itmOf f),n,m)) 2:=by
  refine qQ (rs:=[6]) Tryz.func83 rfl rfl rfl teOk (by decide) rfl ?_;refine qC ?_;refine qB ?_;refine qC ?_;refine qB ?_;refine Or.inr (Or.inr (Or.inl ?_));refine zai rfl ?_;refine zei _ (zai ((by have:=at_c (k:=1) es n m id;rw [h] at this;exact this)) ?_);refine qC ?_;refine qC ?_;refine qB ?_;refine qI rfl (fun h14=>?_) (fun h14=>?_)
  ·try simp only [decide_eq_true_eq] at h14
   try simp only [zds] at h14
   omega
  ·try simp only [decide_eq_false_iff_not,Int.not_lt] at h14
   try simp only [zds] at h14
   refine qM ?_;refine qC ?_;refine qB ?_;refine Or.inl ?_;refine zai (rfl) ?_;refine zei _ (zai (pitem_ok hf hc) ?_);refine qC ?_;refine qC ?_;refine qB ?_;refine qI rfl (fun h22=>?_) (fun h22=>?_)
   ·try simp only [Bool.not_eq_true'] at h22
    try simp only [zds] at h22
    cases h22
   ·try simp only [Bool.not_eq_false'] at h22
    try simp only [zds] at h22
    refine qM ?_;refine qC ?_;refine xJ rfl ?_;refine qJ 0 rfl rfl rfl (by kernel_rfl) ?_;refine qJ 1 rfl rfl rfl (by kernel_rfl) ?_;refine qJ 2 rfl rfl rfl (by kernel_rfl) ?_;refine qJ 4 rfl rfl rfl (by kernel_rfl) ?_;refine qK [3,5] (by kernel_rfl) rfl ?_;refine zai ?_ ?_
    ·refine qK [5] (by kernel_rfl) rfl ?_;refine qJ 6 rfl rfl rfl (by kernel_rfl) ?_;refine zai (by first|omega|assumption|decide|(simp only [];omega)|(simp <;> omega)) ?_;refine qK [7] (by kernel_rfl) rfl ?_;refine qK [8] (by kernel_rfl) rfl ?_;refine zai (by (rw [Int.toNat_natCast];exact hi)) ?_;refine qO (by kernel_rfl) ?_;refine qC ?_;refine qB ?_;refine qL ?_;exact ⟨rfl,⟨rfl,rfl⟩,rfl⟩
    ·refine qK [3] (by kernel_rfl) rfl ?_;refine qJ 6 rfl rfl rfl (by kernel_rfl) ?_;refine zai (by first|omega|assumption|decide|(simp only [];omega)|(simp <;> omega)) ?_;refine qK [7] (by kernel_rfl) rfl ?_;refine qK [8] (by kernel_rfl) rfl ?_;refine zai (by (rw [Int.toNat_natCast];exact hi)) ?_;refine qO (by kernel_rfl) ?_;refine qC ?_;refine qB ?_;refine qL ?_;exact ⟨rfl,⟨rfl,rfl⟩,rfl⟩
theorem lIns_no {κ : Nat} (es : List Ent) (n m id : Int) (f : List Fld) (h : atE es id < 0) (h0 : id ≠ 0) : qU Tryz.prog 85 [.one (.own 0 0),ii .i64 id,.one (.slk κ rFld f)] (lsO (es,n,m)) 2 (.tup [(false,[.lit (.int .i64 0)]),(false,[errN 7])]) (lsO (es,n,m)) 2:=by
  refine qQ (rs:=[6,7]) Tryz.func85 rfl rfl rfl teOk (by decide) rfl ?_;refine qC ?_;refine qB ?_;refine qC ?_;refine qB ?_;refine Or.inr (Or.inr (Or.inl ?_));refine zai rfl ?_;refine zei _ (zai (at_c es n m id) ?_);refine qC ?_;refine qC ?_;refine qB ?_;refine zai (fun h=>trivial) ?_;refine zai (fun h=>⟨⟨h,trivial⟩,trivial⟩) ?_;refine zai (fun h=>⟨⟨h,trivial⟩,trivial⟩) ?_;refine zai (fun h=>trivial) ?_;refine zai (fun h=>⟨⟨h,trivial⟩,trivial⟩) ?_;refine zai (fun h=>⟨⟨⟨h,trivial⟩,trivial⟩,by first|exact fun h2=>h2|(intro h2;rw [h,h2];rfl)|(intro h2;cases h2)|(intro h2;simp_all [gq])⟩) ?_;refine zai (by first|(intro h;rw [h];rfl)|(intro h;cases h)) ?_;refine qI rfl (fun h24=>?_) (fun h24=>?_)
  ·try simp only [decide_eq_true_eq,decide_eq_false_iff_not,Bool.and_eq_true,Bool.not_eq_true',Bool.or_eq_true] at h24
   try simp only [zds] at h24
   refine qC ?_;refine qB ?_;refine qL ?_;exact ⟨rfl,⟨rfl,rfl⟩,rfl⟩
  ·try simp only [decide_eq_true_eq,decide_eq_false_iff_not,Bool.not_eq_false',Bool.or_eq_false_iff,Bool.and_eq_false_iff,Int.not_lt] at h24
   try simp only [zds] at h24
   simp at h24;omega
theorem lIns_bad {κ : Nat} (es : List Ent) (n m id : Int) (f : List Fld) (h : ¬ (atE es id < 0 ∧ id ≠ 0)) (hf : qT f) (hc : (chkR f).2 ≠ 0) : qU Tryz.prog 85 [.one (.own 0 0),ii .i64 id,.one (.slk κ rFld f)] (lsO (es,n,m)) 2 (.tup [(false,[.lit (.int .i64 0)]),(false,[chkA f])]) (lsO (es,n,m)) 2:=by
  have hpi:=pitem_err (κ:=κ) hf hc;obtain ⟨e,he,hs⟩:=chk_bad hc;rw [he] at hpi ⊢;rcases hs with ⟨x,hx,rfl,_⟩|⟨j,x,hx,rfl,_⟩
  ·
    refine qQ (rs:=[6,7]) Tryz.func85 rfl rfl rfl teOk (by decide) rfl ?_;refine qC ?_;refine qB ?_;refine qC ?_;refine qB ?_;refine Or.inr (Or.inr (Or.inl ?_));refine zai rfl ?_;refine zei _ (zai (at_c es n m id) ?_);refine qC ?_;refine qC ?_;refine qB ?_;refine zai (fun h=>trivial) ?_;refine zai (fun h=>⟨⟨h,trivial⟩,trivial⟩) ?_;refine zai (fun h=>⟨⟨h,trivial⟩,trivial⟩) ?_;refine zai (fun h=>trivial) ?_;refine zai (fun h=>⟨⟨h,trivial⟩,trivial⟩) ?_;refine zai (fun h=>⟨⟨⟨h,trivial⟩,trivial⟩,by first|exact fun h2=>h2|(intro h2;rw [h,h2];rfl)|(intro h2;cases h2)|(intro h2;simp_all [gq])⟩) ?_;refine zai (by first|(intro h;rw [h];rfl)|(intro h;cases h)) ?_;refine qI rfl (fun h24=>?_) (fun h24=>?_)
    ·try simp only [decide_eq_true_eq,decide_eq_false_iff_not,Bool.and_eq_true,Bool.not_eq_true',Bool.or_eq_true] at h24
     try simp only [zds] at h24
     exact absurd (by simpa using h24) h
    ·try simp only [decide_eq_true_eq,decide_eq_false_iff_not,Bool.not_eq_false',Bool.or_eq_false_iff,Bool.and_eq_false_iff,Int.not_lt] at h24
     try simp only [zds] at h24
     refine qM ?_;refine qC ?_;refine qB ?_;refine Or.inl ?_;refine zai (rfl) ?_;refine zei _ (zai (hpi) ?_);refine qC ?_;refine qN ?_;refine qC ?_;refine qB ?_;refine qI rfl (fun h31=>?_) (fun h31=>?_)
     ·skip
      refine qC ?_;refine qB ?_;refine qL ?_;exact ⟨rfl,⟨rfl,rfl⟩,rfl⟩
     ·try simp only [zbq] at h31
      try simp only [zds] at h31
      cases h31
  ·
    refine qQ (rs:=[6,7]) Tryz.func85 rfl rfl rfl teOk (by decide) rfl ?_;refine qC ?_;refine qB ?_;refine qC ?_;refine qB ?_;refine Or.inr (Or.inr (Or.inl ?_));refine zai rfl ?_;refine zei _ (zai (at_c es n m id) ?_);refine qC ?_;refine qC ?_;refine qB ?_;refine zai (fun h=>trivial) ?_;refine zai (fun h=>⟨⟨h,trivial⟩,trivial⟩) ?_;refine zai (fun h=>⟨⟨h,trivial⟩,trivial⟩) ?_;refine zai (fun h=>trivial) ?_;refine zai (fun h=>⟨⟨h,trivial⟩,trivial⟩) ?_;refine zai (fun h=>⟨⟨⟨h,trivial⟩,trivial⟩,by first|exact fun h2=>h2|(intro h2;rw [h,h2];rfl)|(intro h2;cases h2)|(intro h2;simp_all [gq])⟩) ?_;refine zai (by first|(intro h;rw [h];rfl)|(intro h;cases h)) ?_;refine qI rfl (fun h24=>?_) (fun h24=>?_)
    ·try simp only [decide_eq_true_eq,decide_eq_false_iff_not,Bool.and_eq_true,Bool.not_eq_true',Bool.or_eq_true] at h24
     try simp only [zds] at h24
     exact absurd (by simpa using h24) h
    ·try simp only [decide_eq_true_eq,decide_eq_false_iff_not,Bool.not_eq_false',Bool.or_eq_false_iff,Bool.and_eq_false_iff,Int.not_lt] at h24
     try simp only [zds] at h24
     refine qM ?_;refine qC ?_;refine qB ?_;refine Or.inl ?_;refine zai (rfl) ?_;refine zei _ (zai (hpi) ?_);refine qC ?_;refine qN ?_;refine qC ?_;refine qB ?_;refine qI rfl (fun h31=>?_) (fun h31=>?_)
     ·skip
      refine qC ?_;refine qB ?_;refine qL ?_;exact ⟨rfl,⟨rfl,rfl⟩,rfl⟩
     ·try simp only [zbq] at h31
      try simp only [zds] at h31
      cases h31
theorem lIns_full {κ : Nat} (es : List Ent) (n m id : Int) (f : List Fld) (h : ¬ (atE es id < 0 ∧ id ≠ 0)) (hf : qT f) (hc : (chkR f).2 = 0) (hm : 400 ≤ m) : qU Tryz.prog 85 [.one (.own 0 0),ii .i64 id,.one (.slk κ rFld f)] (lsO (es,n,m)) 2 (.tup [(false,[.lit (.int .i64 0)]),(false,[errN 11])]) (lsO (es,n,m)) 2:=by
  refine qQ (rs:=[6,7]) Tryz.func85 rfl rfl rfl teOk (by decide) rfl ?_;refine qC ?_;refine qB ?_;refine qC ?_;refine qB ?_;refine Or.inr (Or.inr (Or.inl ?_));refine zai rfl ?_;refine zei _ (zai (at_c es n m id) ?_);refine qC ?_;refine qC ?_;refine qB ?_;refine zai (fun h=>trivial) ?_;refine zai (fun h=>⟨⟨h,trivial⟩,trivial⟩) ?_;refine zai (fun h=>⟨⟨h,trivial⟩,trivial⟩) ?_;refine zai (fun h=>trivial) ?_;refine zai (fun h=>⟨⟨h,trivial⟩,trivial⟩) ?_;refine zai (fun h=>⟨⟨⟨h,trivial⟩,trivial⟩,by first|exact fun h2=>h2|(intro h2;rw [h,h2];rfl)|(intro h2;cases h2)|(intro h2;simp_all [gq])⟩) ?_;refine zai (by first|(intro h;rw [h];rfl)|(intro h;cases h)) ?_;refine qI rfl (fun h24=>?_) (fun h24=>?_)
  ·try simp only [decide_eq_true_eq,decide_eq_false_iff_not,Bool.and_eq_true,Bool.not_eq_true',Bool.or_eq_true] at h24
   try simp only [zds] at h24
   exact absurd (by simpa using h24) h
  ·try simp only [decide_eq_true_eq,decide_eq_false_iff_not,Bool.not_eq_false',Bool.or_eq_false_iff,Bool.and_eq_false_iff,Int.not_lt] at h24
   try simp only [zds] at h24
   refine qM ?_;refine qC ?_;refine qB ?_;refine Or.inl ?_;refine zai (rfl) ?_;refine zei _ (zai (pitem_ok hf hc) ?_);refine qC ?_;refine qN ?_;refine qC ?_;refine qB ?_;refine qI rfl (fun h31=>?_) (fun h31=>?_)
   ·try simp only [Bool.not_eq_true'] at h31
    try simp only [zds] at h31
    cases h31
   ·try simp only [Bool.not_eq_false'] at h31
    try simp only [zds] at h31
    refine qC ?_;refine qB ?_;refine qI rfl (fun h35=>?_) (fun h35=>?_)
    ·try simp only [decide_eq_true_eq] at h35
     try simp only [zds] at h35
     refine qC ?_;refine qB ?_;refine qL ?_;exact ⟨rfl,⟨rfl,rfl⟩,rfl⟩
    ·try simp only [decide_eq_false_iff_not,Int.not_le] at h35
     try simp only [zds] at h35
     omega
theorem lIns_ok {κ : Nat} (es : List Ent) (n m id : Int) (f : List Fld) (j : Nat) (hj : j ≤ es.length) (h : ¬ (atE es id < 0 ∧ id ≠ 0)) (ha : atE es id + 1 = (j : Int)) (hf : qT f) (hc : (chkR f).2 = 0) (hm : 0 ≤ m ∧ m < 400) (hn : 0 ≤ n ∧ n ≤ 1000000000) (hl : es.length ≤ 1000000) : qU Tryz.prog 85 [.one (.own 0 0),ii .i64 id,.one (.slk κ rFld f)] (lsO (es,n,m)) 2 (.tup [(false,[.lit (.int .i64 n)]),(false,[.lit .nilIface])]) (lsO (insE es j (itmOf f,n),n + 1,m + 1)) 2:=by
  have hins:=insert_x es (itmOf f,n) j hj hl;rw [← ha] at hins;refine qQ (rs:=[6,7]) Tryz.func85 rfl rfl rfl teOk (by decide) rfl ?_;refine qC ?_;refine qB ?_;refine qC ?_;refine qB ?_;refine Or.inr (Or.inr (Or.inl ?_));refine zai rfl ?_;refine zei _ (zai (at_c es n m id) ?_);refine qC ?_;refine qC ?_;refine qB ?_;refine zai (fun h=>trivial) ?_;refine zai (fun h=>⟨⟨h,trivial⟩,trivial⟩) ?_;refine zai (fun h=>⟨⟨h,trivial⟩,trivial⟩) ?_;refine zai (fun h=>trivial) ?_;refine zai (fun h=>⟨⟨h,trivial⟩,trivial⟩) ?_;refine zai (fun h=>⟨⟨⟨h,trivial⟩,trivial⟩,by first|exact fun h2=>h2|(intro h2;rw [h,h2];rfl)|(intro h2;cases h2)|(intro h2;simp_all [gq])⟩) ?_;refine zai (by first|(intro h;rw [h];rfl)|(intro h;cases h)) ?_;refine qI rfl (fun h24=>?_) (fun h24=>?_)
  ·try simp only [decide_eq_true_eq,decide_eq_false_iff_not,Bool.and_eq_true,Bool.not_eq_true',Bool.or_eq_true] at h24
   try simp only [zds] at h24
   exact absurd (by simpa using h24) h
  ·try simp only [decide_eq_true_eq,decide_eq_false_iff_not,Bool.not_eq_false',Bool.or_eq_false_iff,Bool.and_eq_false_iff,Int.not_lt] at h24
   try simp only [zds] at h24
   refine qM ?_;refine qC ?_;refine qB ?_;refine Or.inl ?_;refine zai (rfl) ?_;refine zei _ (zai (pitem_ok hf hc) ?_);refine qC ?_;refine qN ?_;refine qC ?_;refine qB ?_;refine qI rfl (fun h31=>?_) (fun h31=>?_)
   ·try simp only [Bool.not_eq_true'] at h31
    try simp only [zds] at h31
    cases h31
   ·try simp only [Bool.not_eq_false'] at h31
    try simp only [zds] at h31
    refine qC ?_;refine qB ?_;refine qI rfl (fun h35=>?_) (fun h35=>?_)
    ·try simp only [decide_eq_true_eq] at h35
     try simp only [zds] at h35
     omega
    ·try simp only [decide_eq_false_iff_not,Int.not_le] at h35
     try simp only [zds] at h35
     refine qM ?_;refine qC ?_;refine qB ?_;refine qC ?_;refine xJ rfl ?_;refine qJ 0 rfl rfl rfl (by kernel_rfl) ?_;refine qJ 1 rfl rfl rfl (by kernel_rfl) ?_;refine qJ 2 rfl rfl rfl (by kernel_rfl) ?_;refine qJ 3 rfl rfl rfl (by kernel_rfl) ?_;refine qJ 5 rfl rfl rfl (by kernel_rfl) ?_;refine qJ 6 rfl rfl rfl (by kernel_rfl) ?_;refine zai (by first|omega|assumption|decide|(simp only [zds];omega)|(simp <;> omega)) ?_;refine qJ 8 rfl rfl rfl (by kernel_rfl) ?_;refine qK [4,7] (by kernel_rfl) rfl ?_;refine zai ?_ ?_
     ·refine qK [7] (by kernel_rfl) rfl ?_;refine qK [9] (by kernel_rfl) rfl ?_;refine qK [10] (by kernel_rfl) rfl ?_;refine qK [11] (by kernel_rfl) rfl ?_;refine Or.inr (Or.inr (Or.inr (zei [1,3] (zei [] (zei _ (zei _ (zei _ (zei _ (zei _ (zai (hins) (zai rfl (zai (zai (zai rfl rfl) (zai (zai rfl rfl) True.intro)) (zai rfl ?_)))))))))))));refine qJ 12 rfl rfl rfl (by kernel_rfl) ?_;refine qJ 13 rfl rfl rfl (by kernel_rfl) ?_;refine qK [14] (by kernel_rfl) rfl ?_;refine qO (by kernel_rfl) ?_;refine qC ?_;refine qB ?_;refine zai (by first|omega|assumption|decide|(simp only [];omega)|(simp <;> omega)) ?_;refine qC ?_;refine qB ?_;refine zai (by first|omega|assumption|decide|(simp only [];omega)|(simp <;> omega)) ?_;refine qC ?_;refine qB ?_;refine qL ?_;exact ⟨rfl,⟨rfl,rfl⟩,rfl⟩
     ·refine qK [4,9] (by kernel_rfl) rfl ?_;refine zai ?_ ?_
      ·refine qK [9] (by kernel_rfl) rfl ?_;refine qK [10] (by kernel_rfl) rfl ?_;refine qK [11] (by kernel_rfl) rfl ?_;refine Or.inr (Or.inr (Or.inr (zei [1,3] (zei [] (zei _ (zei _ (zei _ (zei _ (zei _ (zai (hins) (zai rfl (zai (zai (zai rfl rfl) (zai (zai rfl rfl) True.intro)) (zai rfl ?_)))))))))))));refine qJ 12 rfl rfl rfl (by kernel_rfl) ?_;refine qJ 13 rfl rfl rfl (by kernel_rfl) ?_;refine qK [14] (by kernel_rfl) rfl ?_;refine qO (by kernel_rfl) ?_;refine qC ?_;refine qB ?_;refine zai (by first|omega|assumption|decide|(simp only [];omega)|(simp <;> omega)) ?_;refine qC ?_;refine qB ?_;refine zai (by first|omega|assumption|decide|(simp only [];omega)|(simp <;> omega)) ?_;refine qC ?_;refine qB ?_;refine qL ?_;exact ⟨rfl,⟨rfl,rfl⟩,rfl⟩
      ·refine qK [4,10] (by kernel_rfl) rfl ?_;refine zai ?_ ?_
       ·refine qK [10] (by kernel_rfl) rfl ?_;refine qK [11] (by kernel_rfl) rfl ?_;refine Or.inr (Or.inr (Or.inr (zei [1,3] (zei [] (zei _ (zei _ (zei _ (zei _ (zei _ (zai (hins) (zai rfl (zai (zai (zai rfl rfl) (zai (zai rfl rfl) True.intro)) (zai rfl ?_)))))))))))));refine qJ 12 rfl rfl rfl (by kernel_rfl) ?_;refine qJ 13 rfl rfl rfl (by kernel_rfl) ?_;refine qK [14] (by kernel_rfl) rfl ?_;refine qO (by kernel_rfl) ?_;refine qC ?_;refine qB ?_;refine zai (by first|omega|assumption|decide|(simp only [];omega)|(simp <;> omega)) ?_;refine qC ?_;refine qB ?_;refine zai (by first|omega|assumption|decide|(simp only [];omega)|(simp <;> omega)) ?_;refine qC ?_;refine qB ?_;refine qL ?_;exact ⟨rfl,⟨rfl,rfl⟩,rfl⟩
       ·refine qK [4] (by kernel_rfl) rfl ?_;refine qK [11] (by kernel_rfl) rfl ?_;refine Or.inr (Or.inr (Or.inr (zei [1,3] (zei [] (zei _ (zei _ (zei _ (zei _ (zei _ (zai (hins) (zai rfl (zai (zai (zai rfl rfl) (zai (zai rfl rfl) True.intro)) (zai rfl ?_)))))))))))));refine qJ 12 rfl rfl rfl (by kernel_rfl) ?_;refine qJ 13 rfl rfl rfl (by kernel_rfl) ?_;refine qK [14] (by kernel_rfl) rfl ?_;refine qO (by kernel_rfl) ?_;refine qC ?_;refine qB ?_;refine zai (by first|omega|assumption|decide|(simp only [];omega)|(simp <;> omega)) ?_;refine qC ?_;refine qB ?_;refine zai (by first|omega|assumption|decide|(simp only [];omega)|(simp <;> omega)) ?_;refine qC ?_;refine qB ?_;refine qL ?_;exact ⟨rfl,⟨rfl,rfl⟩,rfl⟩
end Q
end Ab
end Go.Proofs.YtpfkncffaanjcaaGreatDoor
namespace Go.Proofs.YtpfkncffaanjcaaGreatDoor
open Go.RowKit
namespace Ab
set_option maxRecDepth 100000
abbrev Edt:=Int × Int × List Fld
abbrev rEdt : Rd Edt:=.st (.int .i64) (.st (.int .i64) (.sl rFld))
namespace Q
def yZ (l : List Edt) : Bool:=decide (51 < l.length) || l.any fun e=>muchB e.2.2
theorem xE (l : List Edt) : qR Tryz.prog 10 [.one (.sl rEdt l)] (ib (yZ l)):=by
  refine qP (rs:=[2]) Tryz.func10 rfl rfl rfl teOk rfl ?_;refine qC ?_;refine qB ?_;refine qC ?_;refine qC ?_;refine qB ?_;intro l1_1
  try simp only [zds] at l1_1
  refine qN ?_;refine qX (fun (i : Nat)=>i ≤ l.length ∧ i ≤ 51 ∧ (l.take i).any (fun e=>muchB e.2.2) = false) (fun (i : Nat)=>[(5,.one (.sl rEdt l)),(6,ii .i64 l.length),(7,ii .i64 i)]) (fun (i : Nat)=>[]) 0 (fun (i : Nat)=>l.length - i) 0 (⟨Nat.zero_le _,Nat.zero_le _,rfl⟩) (qV ⟨rfl,rfl,rfl⟩ trivial rfl) ?_;intro i hI0;obtain ⟨hi,hi2,hn⟩:=hI0;refine qC ?_;refine qB ?_;refine qC ?_;refine qI rfl (fun h8=>?_) (fun h8=>?_)
  ·try simp only [decide_eq_true_eq] at h8
   try simp only [zds] at h8
   have hil : i < l.length:=(by omega);have hsn:=take_any l (fun e : Edt=>muchB e.2.2) ((0 : Int),(0 : Int),([] : List Fld)) i hil;rw [hn,Bool.false_or] at hsn;refine qM ?_;refine qC ?_;refine qN ?_;refine qC ?_;refine qB ?_;refine zai (by first|omega|assumption|decide|(simp only [zds];omega)|(simp <;> omega)) ?_;refine qC ?_;refine qB ?_;refine zai (fun h=>trivial) ?_;refine zai (fun h=>⟨⟨h,trivial⟩,trivial⟩) ?_;refine Or.inl ?_;refine zai (rfl) ?_;refine zei _ (zai (fun h=>⟨⟨⟨h,trivial⟩,trivial⟩,much_c _⟩) ?_);refine zai (by first|(intro h;rw [h];rfl)|(intro h;cases h)) ?_;refine qI rfl (fun h18=>?_) (fun h18=>?_)
   ·try simp only [decide_eq_true_eq,Bool.or_eq_true] at h18
    try simp only [Int.toNat_natCast,qH,qG,qE] at h18
    refine qC ?_;refine qB ?_;refine qL ?_;refine ib_eq (Eq.symm ?_);unfold yZ;rcases h18 with h|h
    rw [decide_eq_true (show 51 < l.length by omega)];rfl;rw [show l.any (fun e : Edt=>muchB e.2.2) = true from List.any_eq_true.2 ⟨_,yY hil ((0 : Int),(0 : Int),([] : List Fld)),h⟩,Bool.or_true]
   ·try simp only [decide_eq_false_iff_not,Bool.or_eq_false_iff,Int.not_lt] at h18
    try simp only [Int.toNat_natCast,qH,qG,qE] at h18
    refine qM ?_;refine qB ?_;refine zai (by first|omega|assumption|decide|(simp only [zds];omega)|(simp <;> omega)) ?_;exact ⟨i + 1,⟨by omega,by omega,by rw [hsn];exact h18.2⟩,by first|omega|(simp <;> omega),qV ⟨rfl,rfl,(yW (by omega))⟩ trivial rfl⟩
  ·try simp only [decide_eq_false_iff_not,Int.not_lt] at h8
   try simp only [zds] at h8
   refine yA ?_;refine qC ?_;refine qB ?_;refine qL ?_;rw [List.take_of_length_le (by omega)] at hn;refine ib_eq (Eq.symm ?_);unfold yZ;rw [hn,decide_eq_false (by omega)];rfl
def spF : Fld:=(⟨#[115,112,111,105,108,116]⟩,⟨#[115,112,111,105,108,116]⟩)
theorem fieldsk_c {κ : Nat} (a b : List Fld) : qR Tryz.prog 60 [.one (.slk κ rFld a),.one (.sl rFld b)] (ib (decide (a = b))):=by
  refine qP (rs:=[4]) Tryz.func60 rfl rfl rfl teOk rfl ?_;refine qC ?_;refine qB ?_;refine qC ?_;refine qC ?_;refine qB ?_;intro l1_1
  try simp only [zds] at l1_1
  intro l1_3
  try simp only [zds] at l1_3
  refine qI rfl (fun h10=>?_) (fun h10=>?_)
  ·try simp only [decide_eq_false_iff_not,Bool.not_eq_true'] at h10
   try simp only [zds] at h10
   refine qC ?_;refine qB ?_;refine qL ?_;exact ib_eq (decide_eq_false (fun e=>by rw [e] at h10;omega)).symm
  ·try simp only [decide_eq_true_eq,Bool.not_eq_false'] at h10
   try simp only [zds] at h10
   refine qM ?_;refine qC ?_;refine qC ?_;refine qB ?_;intro l3_1
   try simp only [zds] at l3_1
   refine qN ?_;refine qX (fun (i : Nat)=>i ≤ a.length ∧ a.take i = b.take i) (fun (i : Nat)=>[(0,.one (.slk κ rFld a)),(1,.one (.sl rFld b)),(12,ii .i64 a.length),(13,ii .i64 i)]) (fun (i : Nat)=>[]) 0 (fun (i : Nat)=>a.length - i) 0 (⟨Nat.zero_le _,by simp⟩) (qV ⟨rfl,rfl,rfl,rfl⟩ trivial rfl) ?_;intro i hI0;obtain ⟨hi,ht⟩:=hI0;refine qC ?_;refine qB ?_;refine qC ?_;refine qI rfl (fun h14=>?_) (fun h14=>?_)
   ·try simp only [decide_eq_true_eq] at h14
    try simp only [zds] at h14
    have hla : i < a.length:=by omega
    have hlb : i < b.length:=by omega
    refine qM ?_;refine qC ?_;refine qN ?_;refine qC ?_;refine qB ?_;refine qC ?_;refine acode_draw rfl (by kernel_rfl) ?_;refine zai (by first|omega|assumption|decide|(simp only [zds];omega)|(simp <;> omega)) ?_;refine zai (by first|omega|assumption|decide|(simp only [zds];omega)|(simp <;> omega)) ?_;refine zai (by rfl) ?_;refine qI rfl (fun h24=>?_) (fun h24=>?_)
    ·try simp only [decide_eq_false_iff_not,Bool.not_eq_true',Bool.and_eq_false_iff] at h24
     try simp only [Int.toNat_natCast,qG,qF] at h24
     refine qC ?_;refine qB ?_;refine qL ?_;exact ib_eq (decide_eq_false (ne_at (i:=i) (ByteArray.empty,ByteArray.empty) (fun e=>h24.elim (fun h=>h (congrArg Prod.fst e)) (fun h=>h (congrArg Prod.snd e))))).symm
    ·try simp only [decide_eq_true_eq,Bool.and_eq_true,Bool.not_eq_false'] at h24
     try simp only [Int.toNat_natCast,qG,qF] at h24
     refine qM ?_;refine qB ?_;refine zai (by first|omega|assumption|decide|(simp only [zds];omega)|(simp <;> omega)) ?_;exact ⟨i + 1,⟨by omega,list_ext_take (ByteArray.empty,ByteArray.empty) hla hlb ht (Prod.ext h24.1 h24.2)⟩,by first|omega|(simp <;> omega),qV ⟨rfl,rfl,rfl,(yW (by omega))⟩ trivial rfl⟩
   ·try simp only [decide_eq_false_iff_not,Int.not_lt] at h14
    try simp only [zds] at h14
    refine yA ?_;refine qC ?_;refine qB ?_;refine qL ?_;exact ib_eq (decide_eq_true (by rw [List.take_of_length_le (by omega),List.take_of_length_le (by omega)] at ht;exact ht)).symm
end Q
end Ab
end Go.Proofs.YtpfkncffaanjcaaGreatDoor
namespace Go.Proofs.YtpfkncffaanjcaaGreatDoor
open Go.RowKit
namespace Ab
set_option maxRecDepth 100000
namespace Q
def stT (es : List Ent) (i : Nat) : List Stz:=((es.filter live).take i).map stzOf
def SmallF (l : List Fld) : Prop:=∀ f ∈ l,f.1.size ≤ 1000 ∧ f.2.size ≤ 1000
structure GP (p : PSt) : Prop where
  flds : SmallF p.flds
  room : p.lns ≠ [] → p.full = false → p.flds.length < 40
  len : p.flds.length ≤ 40
  its : ∀ x ∈ p.its,SmallF x.2.2 ∧ x.2.2.length ≤ 40
theorem smallF_nil : SmallF []:=fun f hf=>by cases hf
theorem flush_gp {p q : PSt} (h : GP p) (hf : yH p = .inr q) : GP q:=by
  unfold yH at hf;split at hf
  · cases hf;exact h
  · rename_i h0;split at hf
    · cases hf
    · split at hf
      · cases hf
      · rename_i h1 h2;cases hf;have hr:=h.room h0 (by simpa using h2);refine ⟨fun f hf=>?_,fun h=>absurd rfl h,by simp only [List.length_append,List.length_cons,List.length_nil];omega,h.its⟩;rcases List.mem_append.1 hf with hf|hf
        · exact h.flds f hf
        · rw [List.mem_singleton.1 hf];rcases unf_cases (p.lns.map ls) with ⟨n,hn,e⟩|⟨k,v,e,hk,hv⟩
          · rw [e];exact ⟨by show (bytes []).size ≤ 1000;decide,by show (bytes []).size ≤ 1000;decide⟩
          · rw [e];simp only [yV];refine ⟨?_,hv⟩;unfold keyOk at hk;simp only [Bool.and_eq_true,decide_eq_true_eq] at hk;omega
theorem close_gp {q : PSt} (h : GP q) : GP (xK q):=by
  unfold xK;split
  · exact ⟨smallF_nil,fun _ _=>(by show 0 < 40;decide),(by show 0 ≤ 40;decide),h.its⟩
  · refine ⟨smallF_nil,fun _ _=>(by show 0 < 40;decide),(by show 0 ≤ 40;decide),fun x hx=>?_⟩;rcases List.mem_append.1 hx with hx|hx
    · exact h.its x hx
    · rw [List.mem_singleton.1 hx];exact ⟨h.flds,h.len⟩
theorem end_gp {p q : PSt} (h : GP p) (hf : endS p = .inr q) : GP q:=by
  unfold endS at hf;split at hf
  · cases hf
  · rename_i r e;cases hf;exact close_gp (flush_gp h e)
theorem begin_gp {p : PSt} (l : Lne) (h : GP p) : GP (xH p l):=by
  refine ⟨h.flds,fun _ hf=>?_,h.len,h.its⟩;have:=h.len;unfold xH at hf;simp only [Bool.or_eq_false_iff,decide_eq_false_iff_not] at hf;show p.flds.length < 40;omega
theorem ahead_gp {p q : PSt} {l : Lne} {k : Int} (h : GP p) (hf : yJ p l k = .inr q) : GP q:=by
  unfold yJ at hf;split at hf
  · split at hf
    · cases hf
    · rename_i h0;have h2 : GP { p with lns:=p.lns ++ [l.2.2.1] }:=⟨h.flds,fun _=>h.room h0,h.len,h.its⟩;split at hf
      · cases hf;exact h2
      · exact flush_gp h2 hf
  · split at hf
    · exact end_gp h hf
    · exact flush_gp h hf
theorem line_gp {p q : PSt} {l : Lne} {k : Int} (h : GP p) (hf : lineS p l k = .inr q) : GP q:=by
  unfold lineS at hf;split at hf
  · cases hf
  · split at hf
    · cases hf;refine ⟨h.flds,h.room,h.len,fun x hx=>?_⟩;rcases List.mem_append.1 hx with hx|hx
      · exact h.its x hx
      · rw [List.mem_singleton.1 hx];exact ⟨smallF_nil,by show 0 ≤ 40;decide⟩
    · split at hf
      · cases hf;have:=begin_gp l h;exact ⟨this.flds,this.room,this.len,this.its⟩
      · cases hf;exact ⟨h.flds,h.room,h.len,h.its⟩
theorem take_gp {p q : PSt} {l : Lne} (h : GP p) (hf : yL p l = .inr q) : GP q:=by
  unfold yL at hf;split at hf
  · cases hf
  · rename_i r e;exact line_gp (ahead_gp h e) hf
theorem run_gp : ∀ (L : List Lne) {p q : PSt},GP p → runS p L = .inr q → GP q
  | [],p,q,h,hf=>by
    cases hf;exact h
  | l :: r,p,q,h,hf=>by
    unfold runS at hf;split at hf
    · cases hf
    · rename_i t e;exact run_gp r (take_gp h e) hf
theorem items_small {s : ByteArray} {l : List Itm} (hp : yO s = .inr l) : ∀ x ∈ l,SmallF x.2.2 ∧ x.2.2.length ≤ 40:=by
  unfold yO at hp;split at hp
  · cases hp
  · rename_i p e;split at hp
    · cases hp
    · rename_i q e2;cases hp;exact (end_gp (run_gp _ ⟨smallF_nil,fun h=>absurd rfl h,by decide,fun x hx=>by cases hx⟩ e) e2).its
theorem fldsOk_of {l : List Fld} (h : SmallF l) (hl : l.length ≤ 40) : qT l:=⟨by omega,fun f hf=>by have:=h f hf;omega⟩
abbrev RLs:=List Ent × Int
abbrev rRL : Rd RLs:=.st (.sl rEnt) (.int .i64)
def doL (L : Lst) (e : Edt) : Lst :=
  if e.1 = 1 then
    if atE L.1 e.2.1 < 0 then L else if (chkR e.2.2).2 ≠ 0 then L else (replE L.1 (atE L.1 e.2.1).toNat (itmOf e.2.2),L.2)
  else if e.1 = 2 then
    if atE L.1 e.2.1 < 0 then L else (delE L.1 (atE L.1 e.2.1).toNat,L.2.1,L.2.2 - 1)
  else if atE L.1 e.2.1 < 0 ∧ e.2.1 ≠ 0 then L else if (chkR e.2.2).2 ≠ 0 then L else if 400 ≤ L.2.2 then L else
    (insE L.1 (atE L.1 e.2.1 + 1).toNat (itmOf e.2.2,L.2.1),L.2.1 + 1,L.2.2 + 1)
def refRep (M : RLs) (id : Int) (f : List Fld) : RLs × Int × Int :=
  if atE M.1 id < 0 then (M,-9,7) else if (chkR f).2 ≠ 0 then (M,(chkR f).1,(chkR f).2) else ((replE M.1 (atE M.1 id).toNat (itmOf f),M.2),-9,0)
def refDel (M : RLs) (id : Int) : RLs × Int :=
  if atE M.1 id < 0 then (M,7) else ((delE M.1 (atE M.1 id).toNat,M.2),0)
def refIns (M : RLs) (id : Int) (f : List Fld) : RLs × Int × Int × Int :=
  if atE M.1 id < 0 ∧ id ≠ 0 then (M,0,-9,7) else if (chkR f).2 ≠ 0 then (M,0,(chkR f).1,(chkR f).2) else if 400 ≤ ((M.1.filter live).length : Int) then (M,0,-9,11) else
    ((insE M.1 (atE M.1 id + 1).toNat (itmOf f,M.2),M.2 + 1),M.2,-9,0)
def posI (n : Int) : Bool:=decide (0 < n)
def nmsL (es : List Ent) : List Int:=(es.map (·.2)).filter posI
theorem ids_eq (es : List Ent) : (es.filter live).map (·.2) = nmsL es:=by
  unfold nmsL;rw [List.filter_map];rfl
theorem ids_len (es : List Ent) : (nmsL es).length = (es.filter live).length:=by rw [← ids_eq,List.length_map]
structure LOk (c : Nat) (L : Lst) : Prop where
  flds : ∀ e ∈ L.1,qT e.1.2.2
  ids : ∀ e ∈ L.1,0 ≤ e.2 ∧ e.2 < L.2.1
  nd : (nmsL L.1).Nodup
  many : L.2.2 = ((nmsL L.1).length : Int)
  next : 1 ≤ L.2.1 ∧ L.2.1 ≤ c
  len : L.1.length ≤ c
theorem ids_repl (es : List Ent) (i : Nat) (x : Itm) (h : i < es.length) : (replE es i x).map (·.2) = es.map (·.2):=by
  apply List.ext_getElem
  · simp [replE]
  · intro j h1 h2;simp only [replE,List.getElem_map,List.getElem_set];split
    · rename_i e;subst e;simp only;rw [List.getD_eq_getElem?_getD,List.getElem?_eq_getElem h];rfl
    · rfl
theorem mem_repl {es : List Ent} {i : Nat} {x : Itm} {e : Ent} (h : e ∈ replE es i x) : e ∈ es ∨ e = (x,(es.getD i (((0 : Int),ByteArray.empty,([] : List Fld)),(0 : Int))).2):=List.mem_or_eq_of_mem_set h
theorem del_split {es : List Ent} {i : Nat} (h : i < es.length) : es = es.take i ++ (es.getD i (((0 : Int),ByteArray.empty,([] : List Fld)),(0 : Int))) :: es.drop (i + 1):=by
  conv=>lhs;rw [← List.take_append_drop i es,List.drop_eq_getElem_cons h]
  rw [List.getD_eq_getElem?_getD,List.getElem?_eq_getElem h];rfl
theorem mem_del {es : List Ent} {i : Nat} {e : Ent} (h : e ∈ delE es i) : e ∈ es:=by
  rcases List.mem_append.1 h with h|h
  · exact List.mem_of_mem_take h
  · exact List.mem_of_mem_drop h
theorem ids_app (a b : List Ent) : nmsL (a ++ b) = nmsL a ++ nmsL b:=by unfold nmsL;rw [List.map_append,List.filter_append]
theorem ids_cons (e : Ent) (b : List Ent) : nmsL (e :: b) = if 0 < e.2 then e.2 :: nmsL b else nmsL b:=by
  unfold nmsL;rw [List.map_cons,List.filter_cons];unfold posI
  by_cases h : 0 < e.2
  · rw [if_pos h,if_pos (decide_eq_true h)]
  · rw [if_neg h,if_neg (by simpa using h)]
theorem ids_del {es : List Ent} {i : Nat} (h : i < es.length) (hp : 0 < (es.getD i (((0 : Int),ByteArray.empty,([] : List Fld)),(0 : Int))).2) : (nmsL es).length = (nmsL (delE es i)).length + 1 ∧ ((nmsL es).Nodup → (nmsL (delE es i)).Nodup):=by
  have e1 : nmsL es = nmsL (es.take i) ++ (es.getD i (((0 : Int),ByteArray.empty,([] : List Fld)),(0 : Int))).2 :: nmsL (es.drop (i + 1)):=by
    conv=>lhs;rw [del_split h,ids_app,ids_cons,if_pos hp]
  have e2 : nmsL (delE es i) = nmsL (es.take i) ++ nmsL (es.drop (i + 1)):=ids_app _ _;rw [e1,e2];refine ⟨by simp only [List.length_append,List.length_cons];omega,fun hn=>?_⟩;exact hn.sublist (List.Sublist.append_left (List.sublist_cons_self _ _) _)
theorem mem_ins {es : List Ent} {i : Nat} {x e : Ent} (h : e ∈ insE es i x) : e ∈ es ∨ e = x:=by
  rcases List.mem_append.1 h with h|h
  · exact .inl (List.mem_of_mem_take h)
  · rcases List.mem_cons.1 h with h|h
    · exact .inr h
    · exact .inl (List.mem_of_mem_drop h)
theorem ids_ins {es : List Ent} {i : Nat} {x : Ent} (hp : 0 < x.2) (hlt : ∀ e ∈ es,e.2 < x.2) : (nmsL (insE es i x)).length = (nmsL es).length + 1 ∧ ((nmsL es).Nodup → (nmsL (insE es i x)).Nodup):=by
  have e1 : nmsL es = nmsL (es.take i) ++ nmsL (es.drop i):=by
    conv=>lhs;rw [← List.take_append_drop i es,ids_app]
  have e2 : nmsL (insE es i x) = nmsL (es.take i) ++ x.2 :: nmsL (es.drop i):=by unfold insE;rw [ids_app,ids_cons,if_pos hp]
  have hno : x.2 ∉ nmsL es:=fun h=>by
    unfold nmsL at h;obtain ⟨e,he,hx⟩:=List.mem_map.1 (List.mem_filter.1 h).1;have:=hlt e he;omega
  rw [e1] at hno ⊢;rw [e2];refine ⟨by simp only [List.length_append,List.length_cons];omega,fun hn=>?_⟩;rw [List.perm_middle.nodup_iff];exact List.nodup_cons.2 ⟨hno,hn⟩
theorem doL_ok {c : Nat} {L : Lst} {e : Edt} (h : LOk c L) (hf : qT e.2.2) : LOk (c + 1) (doL L e):=by
  have h0 : LOk (c + 1) L:=⟨h.flds,h.ids,h.nd,h.many,⟨h.next.1,by have:=h.next.2;omega⟩,by have:=h.len;omega⟩;have hat : ∀ id,¬ atE L.1 id < 0 → ∃ i : Nat,i < L.1.length ∧ atE L.1 id = i ∧ 0 < id ∧ (L.1.getD i (((0 : Int),ByteArray.empty,([] : List Fld)),(0 : Int))).2 = id:=fun id hn=>by
    rcases at_cases L.1 id with ⟨h1,_⟩|⟨i,h1,h2,h3,h4,_⟩
    · omega
    · exact ⟨i,h1,h2,h3,h4⟩
  unfold doL;split
  · split
    · exact h0
    · rename_i hn;obtain ⟨i,hi,he,hp,hid⟩:=hat _ hn;rw [he,Int.toNat_natCast];split
      · exact h0
      · have hids : nmsL (replE L.1 i (itmOf e.2.2)) = nmsL L.1:=by unfold nmsL;rw [ids_repl _ _ _ hi]
        refine ⟨fun x hx=>?_,fun x hx=>?_,by show (nmsL (replE L.1 i _)).Nodup;rw [hids];exact h.nd,by show L.2.2 = ((nmsL (replE L.1 i _)).length : Int);rw [hids];exact h.many,h0.next,?_⟩
        · rcases mem_repl hx with hx|rfl
          · exact h.flds x hx
          · exact hf
        · rcases mem_repl hx with hx|rfl
          · exact h.ids x hx
          · show 0 ≤ (L.1.getD i (((0 : Int),ByteArray.empty,([] : List Fld)),(0 : Int))).2 ∧ (L.1.getD i (((0 : Int),ByteArray.empty,([] : List Fld)),(0 : Int))).2 < L.2.1;exact h.ids _ (yY hi (((0 : Int),ByteArray.empty,([] : List Fld)),(0 : Int)))
        · show (replE L.1 i _).length ≤ c + 1;unfold replE;rw [List.length_set];exact h0.len
  · split
    · split
      · exact h0
      · rename_i hn;obtain ⟨i,hi,he,hp,hid⟩:=hat _ hn;rw [he,Int.toNat_natCast];obtain ⟨h1,h2⟩:=ids_del hi (by omega);refine ⟨fun x hx=>h.flds x (mem_del hx),fun x hx=>h.ids x (mem_del hx),h2 h.nd,?_,h0.next,?_⟩
        · show L.2.2 - 1 = ((nmsL (delE L.1 i)).length : Int);rw [h.many];omega
        · show (delE L.1 i).length ≤ c + 1;have:=h.len;unfold delE;rw [List.length_append,List.length_take,List.length_drop];omega
    · split
      · exact h0
      · rename_i hn;split
        · exact h0
        · split
          · exact h0
          · have hnx:=h.next;obtain ⟨h1,h2⟩:=ids_ins (es:=L.1) (i:=(atE L.1 e.2.1 + 1).toNat) (x:=(itmOf e.2.2,L.2.1)) (by show 0 < L.2.1;omega) (fun x hx=>(h.ids x hx).2);refine ⟨fun x hx=>?_,fun x hx=>?_,h2 h.nd,?_,⟨by show 1 ≤ L.2.1 + 1;omega,by show L.2.1 + 1 ≤ ((c + 1 : Nat) : Int);omega⟩,?_⟩
            · rcases mem_ins hx with hx|rfl
              · exact h.flds x hx
              · exact hf
            · show 0 ≤ x.2 ∧ x.2 < L.2.1 + 1;rcases mem_ins hx with hx|rfl
              · have:=h.ids x hx;omega
              · show 0 ≤ L.2.1 ∧ L.2.1 < L.2.1 + 1;omega
            · show L.2.2 + 1 = _;rw [h1,h.many];omega
            · have:=h.len;show (insE L.1 _ _).length ≤ c + 1;unfold insE;rw [List.length_append,List.length_cons,List.length_take,List.length_drop];omega
theorem ids_num : ∀ (l : List Itm) (n : Int),1 ≤ n → nmsL (numI n l) = (List.range (cntR l)).map (fun k : Nat=>n + (k : Int)) ∧ ∀ e ∈ numI n l,0 ≤ e.2 ∧ e.2 < n + (cntR l : Int)
  | [],n,_=>⟨rfl,fun e he=>by cases he⟩
  | x :: r,n,hn=>by
    unfold numI;split
    · rename_i h;obtain ⟨h1,h2⟩:=ids_num r (n + 1) (by omega);have hc : cntR (x :: r) = cntR r + 1:=by simp [cntR,h]
      rw [hc];refine ⟨?_,fun e he=>?_⟩
      · rw [ids_cons,if_pos (show 0 < n by omega),h1,List.range_succ_eq_map,List.map_cons,List.map_map]
        congr 1
        · simp
        · apply List.map_congr_left;intro k _;simp only [Function.comp];omega
      · rcases List.mem_cons.1 he with rfl|he
        · show 0 ≤ n ∧ n < _;omega
        · have:=h2 e he;omega
    · rename_i h;obtain ⟨h1,h2⟩:=ids_num r n hn;have hc : cntR (x :: r) = cntR r:=by simp [cntR,h]
      rw [hc];refine ⟨?_,fun e he=>?_⟩
      · rw [ids_cons,if_neg (show ¬ (0 : Int) < 0 by omega),h1]
      · rcases List.mem_cons.1 he with rfl|he
        · show 0 ≤ (0 : Int) ∧ (0 : Int) < _;omega
        · exact h2 e he
theorem ofT_ok {l : List Itm} {c : Nat} (hl : l.length < c) (hf : ∀ x ∈ l,qT x.2.2) : LOk c (ofT l):=by
  obtain ⟨h1,h2⟩:=ids_num l 1 (Int.le_refl _);have h3:=List.length_filter_le isRec l;have h4 : cntR l ≤ l.length:=h3;refine ⟨fun e he=>?_,h2,?_,?_,⟨?_,?_⟩,?_⟩
  · have : e.1 ∈ (numI 1 l).map (·.1):=List.mem_map.2 ⟨e,he,rfl⟩;rw [numI_items] at this;exact hf _ this
  · show (nmsL (numI 1 l)).Nodup;rw [h1];refine List.Pairwise.map _ ?_ List.nodup_range;intro a b hab e;apply hab;omega
  · show (cntR l : Int) = _;rw [show nmsL (ofT l).1 = _ from h1,List.length_map,List.length_range]
  · show 1 ≤ 1 + (cntR l : Int);omega
  · show 1 + (cntR l : Int) ≤ c;omega
  · show (numI 1 l).length ≤ c;rw [numI_len];omega
def refDo (M : RLs) (e : Edt) : RLs:=if e.1 = 1 then (refRep M e.2.1 e.2.2).1 else if e.1 = 2 then (refDel M e.2.1).1 else (refIns M e.2.1 e.2.2).1
def prPl (es : List Ent) (id : Int) : Bool → Nat → Nat × Int → Prop
  | false,j,x=>x.1 = j ∧ x.2 = 0 ∧ ((es.filter live).take x.1).any (hasId id) = false
  | true,_,x=>x.2 = plcL es id
theorem copyL_o {k : Nat} (es : List Ent) (n m : Int) (hl : es.length ≤ 1000000) : qU Tryz.prog 51 [.one (.adk k (rLst k) (es,n,m))] [] 0 (.one (.own 1 0)) [(1,.box 116 [.vec 0,.lit (.int .i64 n),.lit (.int .i64 m)]),(0,.vec 111 rEnt es)] 2:=by
  have hcl:=cloneE_o (k:=k) es hl;refine qQ (rs:=[2]) Tryz.func51 rfl rfl rfl teOk (by decide) rfl ?_;refine qC ?_;refine qB ?_;refine qC ?_;refine qC ?_;refine qB ?_;refine qI rfl (fun h4=>?_) (fun h4=>?_)
  ·try simp only [zbq] at h4
   try simp only [zds] at h4
   simp at h4
  ·try simp only [zbq] at h4
   try simp only [zds] at h4
   refine qM ?_;refine qC ?_;refine xJ rfl ?_;refine qJ 0 rfl rfl rfl (by kernel_rfl) ?_;refine qJ 1 rfl rfl rfl (by kernel_rfl) ?_;refine qJ 2 rfl rfl rfl (by kernel_rfl) ?_;refine qJ 5 rfl rfl rfl (by kernel_rfl) ?_;refine qJ 6 rfl rfl rfl (by kernel_rfl) ?_;refine qJ 7 rfl rfl rfl (by kernel_rfl) ?_;refine qJ 9 rfl rfl rfl (by kernel_rfl) ?_;refine qJ 10 rfl rfl rfl (by kernel_rfl) ?_;refine qJ 11 rfl rfl rfl (by kernel_rfl) ?_;refine qK [3,8,12] (by kernel_rfl) rfl ?_;refine zai ?_ ?_
   ·refine qK [4,8,12] (by kernel_rfl) rfl ?_;refine zai ?_ ?_
    ·refine Or.inr (Or.inl (zei [] (zei [] (zei _ (zei _ (zei _ (zei _ (zei _ (zai (hcl) (zai rfl (zai True.intro (zai rfl ?_))))))))))));refine qK [8,12] (by kernel_rfl) rfl ?_;refine zai ?_ ?_
     ·refine qK [12] (by kernel_rfl) rfl ?_;refine qK [13] (by kernel_rfl) rfl ?_;refine qK [14] (by kernel_rfl) rfl ?_;refine qJ 15 rfl rfl rfl (by kernel_rfl) ?_;refine qO (by kernel_rfl) ?_;refine qL ?_;exact ⟨rfl,⟨rfl,rfl⟩,rfl⟩
     ·refine qK [8] (by kernel_rfl) rfl ?_;refine qK [13] (by kernel_rfl) rfl ?_;refine qK [14] (by kernel_rfl) rfl ?_;refine qJ 15 rfl rfl rfl (by kernel_rfl) ?_;refine qO (by kernel_rfl) ?_;refine qL ?_;exact ⟨rfl,⟨rfl,rfl⟩,rfl⟩
    refine zai ?_ ?_
    ·refine qK [4,12] (by kernel_rfl) rfl ?_;refine zai ?_ ?_
     ·refine Or.inr (Or.inl (zei [] (zei [] (zei _ (zei _ (zei _ (zei _ (zei _ (zai (hcl) (zai rfl (zai True.intro (zai rfl ?_))))))))))));refine qK [12] (by kernel_rfl) rfl ?_;refine qK [13] (by kernel_rfl) rfl ?_;refine qK [14] (by kernel_rfl) rfl ?_;refine qJ 15 rfl rfl rfl (by kernel_rfl) ?_;refine qO (by kernel_rfl) ?_;refine qL ?_;exact ⟨rfl,⟨rfl,rfl⟩,rfl⟩
     ·refine qK [4] (by kernel_rfl) rfl ?_;refine Or.inr (Or.inl (zei [] (zei [] (zei _ (zei _ (zei _ (zei _ (zei _ (zai (hcl) (zai rfl (zai True.intro (zai rfl ?_))))))))))));refine qK [13] (by kernel_rfl) rfl ?_;refine qK [14] (by kernel_rfl) rfl ?_;refine qJ 15 rfl rfl rfl (by kernel_rfl) ?_;refine qO (by kernel_rfl) ?_;refine qL ?_;exact ⟨rfl,⟨rfl,rfl⟩,rfl⟩
    ·refine qK [4,8] (by kernel_rfl) rfl ?_;refine zai ?_ ?_
     ·refine Or.inr (Or.inl (zei [] (zei [] (zei _ (zei _ (zei _ (zei _ (zei _ (zai (hcl) (zai rfl (zai True.intro (zai rfl ?_))))))))))));refine qK [8] (by kernel_rfl) rfl ?_;refine qK [13] (by kernel_rfl) rfl ?_;refine qK [14] (by kernel_rfl) rfl ?_;refine qJ 15 rfl rfl rfl (by kernel_rfl) ?_;refine qO (by kernel_rfl) ?_;refine qL ?_;exact ⟨rfl,⟨rfl,rfl⟩,rfl⟩
     ·refine qK [4] (by kernel_rfl) rfl ?_;refine Or.inr (Or.inl (zei [] (zei [] (zei _ (zei _ (zei _ (zei _ (zei _ (zai (hcl) (zai rfl (zai True.intro (zai rfl ?_))))))))))));refine qK [13] (by kernel_rfl) rfl ?_;refine qK [14] (by kernel_rfl) rfl ?_;refine qJ 15 rfl rfl rfl (by kernel_rfl) ?_;refine qO (by kernel_rfl) ?_;refine qL ?_;exact ⟨rfl,⟨rfl,rfl⟩,rfl⟩
   refine zai ?_ ?_
   ·refine qK [3,12] (by kernel_rfl) rfl ?_;refine zai ?_ ?_
    ·refine qK [4,12] (by kernel_rfl) rfl ?_;refine zai ?_ ?_
     ·refine Or.inr (Or.inl (zei [] (zei [] (zei _ (zei _ (zei _ (zei _ (zei _ (zai (hcl) (zai rfl (zai True.intro (zai rfl ?_))))))))))));refine qK [12] (by kernel_rfl) rfl ?_;refine qK [13] (by kernel_rfl) rfl ?_;refine qK [14] (by kernel_rfl) rfl ?_;refine qJ 15 rfl rfl rfl (by kernel_rfl) ?_;refine qO (by kernel_rfl) ?_;refine qL ?_;exact ⟨rfl,⟨rfl,rfl⟩,rfl⟩
     ·refine qK [4] (by kernel_rfl) rfl ?_;refine Or.inr (Or.inl (zei [] (zei [] (zei _ (zei _ (zei _ (zei _ (zei _ (zai (hcl) (zai rfl (zai True.intro (zai rfl ?_))))))))))));refine qK [13] (by kernel_rfl) rfl ?_;refine qK [14] (by kernel_rfl) rfl ?_;refine qJ 15 rfl rfl rfl (by kernel_rfl) ?_;refine qO (by kernel_rfl) ?_;refine qL ?_;exact ⟨rfl,⟨rfl,rfl⟩,rfl⟩
    ·refine qK [3] (by kernel_rfl) rfl ?_;refine qK [4] (by kernel_rfl) rfl ?_;refine Or.inr (Or.inl (zei [] (zei [] (zei _ (zei _ (zei _ (zei _ (zei _ (zai (hcl) (zai rfl (zai True.intro (zai rfl ?_))))))))))));refine qK [13] (by kernel_rfl) rfl ?_;refine qK [14] (by kernel_rfl) rfl ?_;refine qJ 15 rfl rfl rfl (by kernel_rfl) ?_;refine qO (by kernel_rfl) ?_;refine qL ?_;exact ⟨rfl,⟨rfl,rfl⟩,rfl⟩
   ·refine qK [3,8] (by kernel_rfl) rfl ?_;refine zai ?_ ?_
    ·refine qK [4,8] (by kernel_rfl) rfl ?_;refine zai ?_ ?_
     ·refine Or.inr (Or.inl (zei [] (zei [] (zei _ (zei _ (zei _ (zei _ (zei _ (zai (hcl) (zai rfl (zai True.intro (zai rfl ?_))))))))))));refine qK [8] (by kernel_rfl) rfl ?_;refine qK [13] (by kernel_rfl) rfl ?_;refine qK [14] (by kernel_rfl) rfl ?_;refine qJ 15 rfl rfl rfl (by kernel_rfl) ?_;refine qO (by kernel_rfl) ?_;refine qL ?_;exact ⟨rfl,⟨rfl,rfl⟩,rfl⟩
     ·refine qK [4] (by kernel_rfl) rfl ?_;refine Or.inr (Or.inl (zei [] (zei [] (zei _ (zei _ (zei _ (zei _ (zei _ (zai (hcl) (zai rfl (zai True.intro (zai rfl ?_))))))))))));refine qK [13] (by kernel_rfl) rfl ?_;refine qK [14] (by kernel_rfl) rfl ?_;refine qJ 15 rfl rfl rfl (by kernel_rfl) ?_;refine qO (by kernel_rfl) ?_;refine qL ?_;exact ⟨rfl,⟨rfl,rfl⟩,rfl⟩
    ·refine qK [3] (by kernel_rfl) rfl ?_;refine qK [4] (by kernel_rfl) rfl ?_;refine Or.inr (Or.inl (zei [] (zei [] (zei _ (zei _ (zei _ (zei _ (zei _ (zai (hcl) (zai rfl (zai True.intro (zai rfl ?_))))))))))));refine qK [13] (by kernel_rfl) rfl ?_;refine qK [14] (by kernel_rfl) rfl ?_;refine qJ 15 rfl rfl rfl (by kernel_rfl) ?_;refine qO (by kernel_rfl) ?_;refine qL ?_;exact ⟨rfl,⟨rfl,rfl⟩,rfl⟩
abbrev zRL : List C:=[.lit (.slice none 0 0),.lit (.int .i64 0)]
def insT (es : List Ent) (j : Nat) (e : Ent) (i : Nat) : List Ent:=if i < j then es.take i else insE (es.take i) j e
def doB (num at_ id bad at2 want : Int) : Bool:=((true && decide (num = bad)) && decide (at_ = at2)) && decide (id = want)
theorem chk_shape {f : List Fld} (h : (chkR f).2 ≠ 0) : (∃ k9,chkA f = errN k9 ∧ k9 ≠ 0 ∧ (-9 : Int) = (chkR f).1 ∧ k9 = (chkR f).2) ∨ ∃ a9 k9,chkA f = errF a9 k9 ∧ k9 ≠ 0 ∧ a9 = (chkR f).1 ∧ k9 = (chkR f).2:=by
  obtain ⟨e,he,hs⟩:=chk_bad h;rcases hs with ⟨n,hn,rfl,hr⟩|⟨i,n,hn,rfl,hr⟩
  · exact .inl ⟨n,he,hn,by rw [hr],by rw [hr]⟩
  · exact .inr ⟨i,n,he,hn,by rw [hr],by rw [hr]⟩
def yN (L : Lst) (s : List Edt) (i : Nat) : Lst:=(s.take i).foldl doL L
theorem plays_snoc (L : Lst) {s : List Edt} {i : Nat} (h : i < s.length) : yN L s (i + 1) = doL (yN L s i) (s.getD i ((0 : Int),(0 : Int),([] : List Fld))):=by
  unfold yN;rw [← xA ((0 : Int),(0 : Int),([] : List Fld)) h,List.foldl_append];rfl
theorem plays_ok {c : Nat} {L : Lst} {s : List Edt} (h : LOk c L) (hf : ∀ e ∈ s,qT e.2.2) : ∀ i,i ≤ s.length → LOk (c + i) (yN L s i)
  | 0,_=>by simpa [yN] using h
  | i + 1,hi=>by
    rw [plays_snoc L (by omega)];exact doL_ok (plays_ok h hf i (by omega)) (hf _ (yY (by omega) ((0 : Int),(0 : Int),([] : List Fld))))
theorem xG {s : List Edt} (h : yZ s = false) : s.length ≤ 51 ∧ ∀ e ∈ s,muchB e.2.2 = false:=by
  unfold yZ at h;simp only [Bool.or_eq_false_iff,decide_eq_false_iff_not] at h;exact ⟨by omega,fun e he=>by simpa using List.any_eq_false.1 h.2 e he⟩
theorem items_len {s : ByteArray} {l : List Itm} (hp : yO s = .inr l) : l.length ≤ 2 * s.size + 1:=by
  have h0:=parse_ref s;rw [hp] at h0;obtain ⟨h1,_⟩:=linesT_len s;have key : ∀ (L : List Lne) (t : RSt) (bh : Bool) (l : List Itm),runR bh t L = .inr l → l.length ≤ t.out.length + 1 + 2 * L.length:=by
    intro L
    induction L with
    | nil =>
      intro t bh l h;unfold runR at h;cases h;split <;> simp
    | cons a r ih =>
      intro t bh l h;unfold runR at h;split at h
      · cases h
      · have i1:=ih _ _ _ h;have so : (stepR t a r).out.length ≤ t.out.length + 2:=by
          unfold stepR;split
          · simp only;split <;> simp
          · split <;> simp
        rw [List.length_cons];omega
  have k1:=key _ _ _ _ h0.symm;simp only [rst0,List.length_nil] at k1;omega
theorem of_lok {s : ByteArray} {l : List Itm} (hs : s.size ≤ 4000) (hp : yO s = .inr l) : LOk 9000 (ofT l):=by
  have h1:=items_len hp;exact ofT_ok (by omega) fun x hx=>fldsOk_of (items_small hp x hx).1 (items_small hp x hx).2
theorem LOk.f1 {c : Nat} {L : Lst} (h : LOk c L) : ∀ e ∈ L.1,e.1.2.2.length ≤ 1000000:=fun e he=>Nat.le_trans (h.flds e he).1 (by decide)
end Q
end Ab
end Go.Proofs.YtpfkncffaanjcaaGreatDoor
namespace Go.Proofs.YtpfkncffaanjcaaGreatDoor
open Go.RowKit
namespace Ab
set_option maxRecDepth 100000
abbrev rEdk (κ : Nat) : Rd Edt:=.st (.int .i64) (.st (.int .i64) (.slk κ rFld))
namespace Q
def goodN (x : Edt) : Int:=if x.1 = 2 then (if 0 < x.2.2.length then 2 else 0) else if x.1 = 1 ∨ x.1 = 3 then (chkR x.2.2).2 else 2
def chkF (k : Int) : List Edt → Int × Int
  | []=>(-9,0)
  | x :: r=>if goodN x ≠ 0 then (k,goodN x) else chkF (k + 1) r
def chkB (l : List Edt) : Int × Int:=if l.length < 1 ∨ 40 < l.length then (-9,1) else chkF 0 l
theorem chkF_at : ∀ (l : List Edt) (i : Nat) (k : Int),i < l.length → (∀ e ∈ l.take i,goodN e = 0) → goodN (l.getD i ((0 : Int),(0 : Int),([] : List Fld))) ≠ 0 → chkF k l = (k + i,goodN (l.getD i ((0 : Int),(0 : Int),([] : List Fld))))
  | [],i,k,h,_,_=>by simp at h
  | f :: r,0,k,_,_,hb=>by
    unfold chkF;rw [if_pos (by simpa using hb)];simp
  | f :: r,i + 1,k,h,ht,hb=>by
    unfold chkF;rw [if_neg (by simpa using ht f (by simp))];rw [chkF_at r i (k + 1) (by simpa using h) (fun g hg=>ht g (by simp [hg])) (by simpa using hb)];simp only [List.getD_cons_succ]
    congr 1
    omega
theorem chkF_no : ∀ (l : List Edt) (k : Int),(∀ e ∈ l,goodN e = 0) → chkF k l = (-9,0)
  | [],_,_=>rfl
  | f :: r,k,h=>by
    unfold chkF;rw [if_neg (by simpa using h f (by simp))];exact chkF_no r (k + 1) (fun g hg=>h g (by simp [hg]))
theorem chkF_zero : ∀ (l : List Edt) (k : Int),(chkF k l).2 = 0 → ∀ e ∈ l,goodN e = 0
  | [],_,_,f,hf=>by cases hf
  | g :: r,k,h,f,hf=>by
    unfold chkF at h;split at h
    · rename_i hg;exact absurd h hg
    · rename_i hg;rcases List.mem_cons.1 hf with rfl|hf
      · exact Classical.not_not.1 hg
      · exact chkF_zero r (k + 1) h f hf
theorem chkB_rng {l : List Edt} (h : l.length < 1 ∨ 40 < l.length) : chkB l = (-9,1):=if_pos h
theorem chkB_at {l : List Edt} {i : Nat} (h1 : ¬ (l.length < 1 ∨ 40 < l.length)) (h : i < l.length) (ht : ∀ e ∈ l.take i,goodN e = 0) (hb : goodN (l.getD i ((0 : Int),(0 : Int),([] : List Fld))) ≠ 0) : chkB l = ((i : Int),goodN (l.getD i ((0 : Int),(0 : Int),([] : List Fld)))):=by
  unfold chkB;rw [if_neg h1,chkF_at l i 0 h ht hb,Int.zero_add]
theorem chkB_no {l : List Edt} (h1 : ¬ (l.length < 1 ∨ 40 < l.length)) (h : ∀ e ∈ l,goodN e = 0) : chkB l = (-9,0):=by
  unfold chkB;rw [if_neg h1,chkF_no l 0 h]
theorem chkB_zero {l : List Edt} (h : (chkB l).2 = 0) : (1 ≤ l.length ∧ l.length ≤ 40) ∧ ∀ e ∈ l,goodN e = 0:=by
  unfold chkB at h;split at h
  · cases h
  · exact ⟨by omega,chkF_zero l 0 h⟩
theorem chkB_good {l : List Edt} (h : (chkB l).2 = 0) : chkB l = (-9,0):=chkB_no (by have:=(chkB_zero h).1;omega) (chkB_zero h).2
theorem chkB_cases (l : List Edt) : (chkB l = (-9,0) ∧ (1 ≤ l.length ∧ l.length ≤ 40) ∧ ∀ e ∈ l,goodN e = 0) ∨ chkB l = (-9,1) ∨ ∃ (i : Nat) (n : Int),n ≠ 0 ∧ chkB l = ((i : Int),n):=by
  by_cases h : (chkB l).2 = 0
  · exact .inl ⟨chkB_good h,chkB_zero h⟩
  · by_cases h1 : l.length < 1 ∨ 40 < l.length
    · exact .inr (.inl (chkB_rng h1))
    · refine .inr (.inr ?_);have h2 : chkB l = chkF 0 l:=if_neg h1;rw [h2] at h ⊢;clear h1 h2;have key : ∀ (l : List Edt) (k : Nat),(chkF (k : Int) l).2 ≠ 0 → ∃ (i : Nat) (n : Int),n ≠ 0 ∧ chkF (k : Int) l = ((i : Int),n):=by
        intro l
        induction l with
        | nil=>intro k h;exact absurd rfl h
        | cons x r ih =>
          intro k h;unfold chkF at h ⊢;split at h
          · rename_i hg;rw [if_pos hg];exact ⟨k,_,hg,rfl⟩
          · rename_i hg;rw [if_neg hg];exact ih (k + 1) h
      exact key l 0 h
theorem take_good {l : List Edt} {i : Nat} (h : i < l.length) (ht : ∀ e ∈ l.take i,goodN e = 0) (hb : goodN (l.getD i ((0 : Int),(0 : Int),([] : List Fld))) = 0) : ∀ e ∈ l.take (i + 1),goodN e = 0:=by
  rw [← xA ((0 : Int),(0 : Int),([] : List Fld)) h];intro e he;rcases List.mem_append.1 he with he|he
  · exact ht e he
  · rw [List.mem_singleton.1 he];exact hb
def oneN (L : Lst) (e : Edt) : Int :=
  if e.1 = 1 then (if atE L.1 e.2.1 < 0 then 7 else (chkR e.2.2).2)
  else if e.1 = 2 then (if atE L.1 e.2.1 < 0 then 7 else 0)
  else if atE L.1 e.2.1 < 0 ∧ e.2.1 ≠ 0 then 7 else if (chkR e.2.2).2 ≠ 0 then (chkR e.2.2).2 else if 400 ≤ L.2.2 then 11 else 0
def newN (L : Lst) (e : Edt) : Int:=if e.1 = 1 ∨ e.1 = 2 then 0 else if oneN L e = 0 then L.2.1 else 0
def batK (k : Int) (L : Lst) : List Edt → Int × Int
  | []=>(-9,0)
  | x :: r=>if oneN L x ≠ 0 then (k,oneN L x) else batK (k + 1) (doL L x) r
def doR (L : Lst) (s : List Edt) : Int × Int:=if (chkB s).2 ≠ 0 then chkB s else batK 0 L s
def idsT (L : Lst) (s : List Edt) (i : Nat) : List Int:=((List.range i).map fun j=>newN (yN L s j) (s.getD j ((0 : Int),(0 : Int),([] : List Fld)))).filter posI
theorem idsT_snoc (L : Lst) (s : List Edt) (i : Nat) : idsT L s (i + 1) = idsT L s i ++ if 0 < newN (yN L s i) (s.getD i ((0 : Int),(0 : Int),([] : List Fld))) then [newN (yN L s i) (s.getD i ((0 : Int),(0 : Int),([] : List Fld)))] else []:=by
  unfold idsT;rw [List.range_succ,List.map_append,List.filter_append]
  congr 1
  simp only [List.map_cons,List.map_nil,List.filter_cons,List.filter_nil,posI,decide_eq_true_eq]
theorem idsT_len (L : Lst) (s : List Edt) (i : Nat) : (idsT L s i).length ≤ i:=by
  unfold idsT;have:=List.length_filter_le posI ((List.range i).map fun j=>newN (yN L s j) (s.getD j ((0 : Int),(0 : Int),([] : List Fld))));rw [List.length_map,List.length_range] at this;exact this
theorem batK_cases : ∀ (s : List Edt) (L : Lst) (k : Nat),(batK k L s = (-9,0) ∧ ∀ j,j < s.length → oneN (yN L s j) (s.getD j ((0 : Int),(0 : Int),([] : List Fld))) = 0) ∨
    ∃ (i : Nat),i < s.length ∧ batK k L s = (((k + i : Nat) : Int),oneN (yN L s i) (s.getD i ((0 : Int),(0 : Int),([] : List Fld)))) ∧ oneN (yN L s i) (s.getD i ((0 : Int),(0 : Int),([] : List Fld))) ≠ 0 ∧ ∀ j,j < i → oneN (yN L s j) (s.getD j ((0 : Int),(0 : Int),([] : List Fld))) = 0
  | [],_,_=>.inl ⟨rfl,fun j h=>by simp at h⟩
  | x :: r,L,k=>by
    by_cases h0 : oneN L x = 0
    · have e : batK k L (x :: r) = batK ((k + 1 : Nat) : Int) (doL L x) r:=by
        conv=>lhs;unfold batK
        rw [if_neg (by rw [h0];decide)];rfl
      rw [e];rcases batK_cases r (doL L x) (k + 1) with ⟨h1,h2⟩|⟨i,hi,h1,h2,h3⟩
      · refine .inl ⟨h1,fun j hj=>?_⟩;cases j with
        | zero=>exact h0
        | succ j=>exact h2 j (by simpa using hj)
      · refine .inr ⟨i + 1,by simpa using hi,?_,h2,fun j hj=>?_⟩
        · rw [h1];show (((k + 1 + i : Nat) : Int),_) = (((k + (i + 1) : Nat) : Int),oneN (yN (doL L x) r i) (r.getD i ((0 : Int),(0 : Int),([] : List Fld))))
          congr 1
          omega
        · cases j with
          | zero=>exact h0
          | succ j=>exact h3 j (by omega)
    · refine .inr ⟨0,by simp,?_,h0,fun j hj=>by omega⟩;unfold batK;rw [if_pos h0];rfl
theorem doR_cases (L : Lst) (s : List Edt) (hc : (chkB s).2 = 0) : (doR L s = (-9,0) ∧ ∀ j,j < s.length → oneN (yN L s j) (s.getD j ((0 : Int),(0 : Int),([] : List Fld))) = 0) ∨
    ∃ (i : Nat),i < s.length ∧ doR L s = ((i : Int),oneN (yN L s i) (s.getD i ((0 : Int),(0 : Int),([] : List Fld)))) ∧ oneN (yN L s i) (s.getD i ((0 : Int),(0 : Int),([] : List Fld))) ≠ 0 ∧ ∀ j,j < i → oneN (yN L s j) (s.getD j ((0 : Int),(0 : Int),([] : List Fld))) = 0:=by
  unfold doR;rw [if_neg (fun h=>h hc)];rcases batK_cases s L 0 with h|⟨i,h1,h2,h3⟩
  · exact .inl h
  · refine .inr ⟨i,h1,?_,h3⟩;rw [Nat.zero_add] at h2;exact h2
end Q
end Ab
end Go.Proofs.YtpfkncffaanjcaaGreatDoor
namespace Go.Proofs.YtpfkncffaanjcaaGreatDoor.As
open Go.RowKit Go.Extern.Stop Go.Stop Go.Extern
theorem valueOf27 (t : Addr) (w : World) : (ReflectliteValue.unpack (.iface 193 (.pointer (some t)))).run Tryz.prog w
    = .ok (.agg #[.pointer (some ⟨4,193,none⟩),.pointer (some ⟨w.heap.size,0,none⟩),.int .u64 150]) (w.alloc (.cells #[.pointer (some t)] 193)):=by kernel_rfl
theorem type27 (a : Addr) (w : World) : (ReflectliteValue.methodAny (ReflectliteValue.valueError "reflectlite.Value.Type" 0) (fun t _ _ _ => ReflectliteType.toType t) #[.agg #[.pointer (some ⟨4, 193, none⟩), .pointer (some a), .int .u64 150]]).run Tryz.prog w
    = .ok (.iface 239 (.agg #[.pointer (some ⟨4,193,none⟩)])) w:=by kernel_rfl
theorem methodKind (h : Value) (w : World) : (Go.method 409 239 (.agg #[h]) "Kind").run Tryz.prog w = .ok (223, h) w := by kernel_rfl
theorem kind27 (w : World) : ((ReflectliteType.abiMethod fun t=>(fun a : Nat=>Value.int IntKind.u8 (a : Int)) <$> Rtype.kind t) #[.pointer (some ⟨4,193,none⟩)]).run Tryz.prog w = .ok (.int .u8 22) w:=by kernel_rfl
theorem kind25 (w : World) : ((ReflectliteType.abiMethod fun t=>(fun a : Nat=>Value.int IntKind.u8 (a : Int)) <$> Rtype.kind t) #[.pointer (some ⟨4,93,none⟩)]).run Tryz.prog w = .ok (.int .u8 22) w:=by kernel_rfl
theorem rlm (z : Sem Value) (f : TypeId → Addr → Nat → Nat → Sem Value) (v : Value) :
    ReflectliteValue.method z f #[v] = (do match ← ReflectliteValue.parts v with|none=>z|some (t,a,fl)=>f t a fl (fl % 32)):=rfl
theorem parts27 (a : Addr) (w : World) : (ReflectliteValue.parts (.agg #[.pointer (some ⟨4,193,none⟩),.pointer (some a),.int .u64 150])).run Tryz.prog w = .ok (some (193,a,150)) w:=by kernel_rfl
theorem isNil27 (a p : Addr) (W : World) (ha : W.cell? a = some (.pointer (some p))) :
    (ReflectliteValue.method (ReflectliteValue.valueError "reflectlite.Value.IsNil" 0) ReflectliteValue.isNil #[.agg #[.pointer (some ⟨4, 193, none⟩), .pointer (some a), .int .u64 150]]).run Tryz.prog W = .ok (.bool false) W := by
  rw [rlm];simp only [Sem.run_bind,parts27,Result.andThen];simp [ReflectliteValue.isNil,loadVar,isAgg,underlying,Tryz.underlying193,ha,Result.andThen]
theorem methodElem (h : Value) (w : World) : (Go.method 409 239 (.agg #[h]) "Elem").run Tryz.prog w = .ok (236, .agg #[h]) w := by kernel_rfl
theorem methodImplements (h : Value) (w : World) : (Go.method 409 239 (.agg #[h]) "Implements").run Tryz.prog w = .ok (237, .agg #[h]) w := by kernel_rfl
theorem methodAssignableTo (h : Value) (w : World) : (Go.method 409 239 (.agg #[h]) "AssignableTo").run Tryz.prog w = .ok (234, .agg #[h]) w := by kernel_rfl
theorem elem27 (w : World) : (ReflectliteType.method ReflectliteType.elem #[.agg #[.pointer (some ⟨4,193,none⟩)]]).run Tryz.prog w = .ok (.iface 239 (.agg #[.pointer (some ⟨4,93,none⟩)])) w:=by kernel_rfl
theorem implements25 (w : World) : (ReflectliteType.relation "Implements" ReflectliteType.implements_ #[.agg #[.pointer (some ⟨4, 93, none⟩)], .iface 239 (.agg #[.pointer (some ⟨4, 34, none⟩)])]).run Tryz.prog w = .ok (.bool true) w := by kernel_rfl
theorem typeOf25 (v : Value) (w : World) : (ReflectliteType.typeOf #[.iface 93 v]).run Tryz.prog w = .ok (.iface 239 (.agg #[.pointer (some ⟨4,93,none⟩)])) w:=by kernel_rfl
theorem assignable25 (w : World) : (ReflectliteType.relation "AssignableTo" ReflectliteType.assignableTo #[.agg #[.pointer (some ⟨4, 93, none⟩)], .iface 239 (.agg #[.pointer (some ⟨4, 93, none⟩)])]).run Tryz.prog w = .ok (.bool true) w := by kernel_rfl
theorem valueOf25 (e : Addr) (w : World) : (ReflectliteValue.unpack (.iface 93 (.pointer (some e)))).run Tryz.prog w
    = .ok (.agg #[.pointer (some ⟨4,93,none⟩),.pointer (some ⟨w.heap.size,0,none⟩),.int .u64 150]) (w.alloc (.cells #[.pointer (some e)] 93)):=by kernel_rfl
theorem elemOf27 (w : World) : (Rtype.elem? 193).run Tryz.prog w = .ok (some 93) w:=by kernel_rfl
theorem mk25 (p : Addr) (w : World) : (ReflectliteValue.mk 93 p ReflectliteValue.flagAddr).run Tryz.prog w = .ok (.agg #[.pointer (some ⟨4,93,none⟩),.pointer (some p),.int .u64 406]) w:=by kernel_rfl
theorem elemV27 (a p : Addr) (W : World) (ha : W.cell? a = some (.pointer (some p))) :
    (ReflectliteValue.method (ReflectliteValue.valueError "reflectlite.Value.Elem" 0) ReflectliteValue.elem #[.agg #[.pointer (some ⟨4, 193, none⟩), .pointer (some a), .int .u64 150]]).run Tryz.prog W
      = .ok (.agg #[.pointer (some ⟨4,93,none⟩),.pointer (some p),.int .u64 406]) W:=by
  rw [rlm];simp only [Sem.run_bind,parts27,Result.andThen];simp [ReflectliteValue.elem,loadVar,isAgg,underlying,Tryz.underlying193,ha,Result.andThen,elemOf27,mk25]
theorem rls (v x : Value) : ReflectliteValue.set #[v,x] = (do
    let (some (dst,a,fl),some (src,b,_)):=(← ReflectliteValue.parts v,← ReflectliteValue.parts x)
      | unsupported (.noEntry "extern/(internal/reflectlite.Value).Set.zeroValue")
    if fl / ReflectliteValue.flagAddr % 2 == 0 then unsupported (.noEntry "extern/(internal/reflectlite.Value).Set.unaddressable")
    let val ← loadVar src b
    if ← Rtype.directlyAssignable dst src then storeVar dst a val
    else if ← Rtype.implements dst src then
      if (← Rtype.kind src) == 20 then
        match val with
        | .nilIface => unsupported (.noEntry "extern/reflectlite: a nil value of one interface type handed on as a value of another")
        | _=>storeVar dst a val
      else storeVar dst a (.iface src val)
    else panicString ("reflectlite.Set: value of type " ++ (← Rtype.spelt src) ++ " is not assignable to type " ++ (← Rtype.spelt dst))
    pure (.tuple #[])):=rfl
theorem parts25a (a : Addr) (w : World) : (ReflectliteValue.parts (.agg #[.pointer (some ⟨4,93,none⟩),.pointer (some a),.int .u64 406])).run Tryz.prog w = .ok (some (93,a,406)) w:=by kernel_rfl
theorem parts25 (a : Addr) (w : World) : (ReflectliteValue.parts (.agg #[.pointer (some ⟨4,93,none⟩),.pointer (some a),.int .u64 150])).run Tryz.prog w = .ok (some (93,a,150)) w:=by kernel_rfl
theorem direct25 (w : World) : (Rtype.directlyAssignable 93 93).run Tryz.prog w = .ok true w:=by kernel_rfl
theorem set25 (ta b e : Addr) (old : Value) (W : World) (hb : W.cell? b = some (.pointer (some e))) (ht : W.cell? ta = some old) (hf : W.frozen? ta = false) :
    (ReflectliteValue.set #[.agg #[.pointer (some ⟨4,93,none⟩),.pointer (some ta),.int .u64 406],.agg #[.pointer (some ⟨4,93,none⟩),.pointer (some b),.int .u64 150]]).run Tryz.prog W
      = .ok (.tuple #[]) (W.setCell ta (.pointer (some e))):=by
  rw [rls];simp only [Sem.run_bind,parts25a,parts25,Result.andThen];simp [ReflectliteValue.flagAddr,loadVar,isAgg,underlying,Tryz.underlying93,hb,Result.andThen,direct25,storeVar,Value.cells,storeCells,Addr.add];rw [run_store Tryz.prog W ta _ _ (by rfl)];simp [ht,hf]
theorem typeOfN (v : Value) (w : World) : (ReflectliteType.typeOf #[.iface 59 v]).run Tryz.prog w = .ok (.iface 239 (.agg #[.pointer (some ⟨4,59,none⟩)])) w:=by kernel_rfl
theorem assignableN (w : World) : (ReflectliteType.relation "AssignableTo" ReflectliteType.assignableTo #[.agg #[.pointer (some ⟨4, 59, none⟩)], .iface 239 (.agg #[.pointer (some ⟨4, 93, none⟩)])]).run Tryz.prog w = .ok (.bool false) w := by kernel_rfl
theorem noAs (v : Value) (xT : TypeId) (w : World) : (Instr.typeAssert (.iface 59 v) xT 244 true).run Tryz.prog w = .ok (.tuple #[.nilIface,.bool false]) w:=run_typeAssert_lacksB Tryz.underlying244 (by kernel_rfl) (by kernel_rfl) v xT w
theorem noUnwrap (v : Value) (xT : TypeId) (w : World) : (Instr.typeAssert (.iface 59 v) xT 247 true).run Tryz.prog w = .ok (.tuple #[.nilIface,.bool false]) w:=run_typeAssert_lacksB Tryz.underlying247 (by kernel_rfl) (by kernel_rfl) v xT w
theorem noUnwraps (v : Value) (xT : TypeId) (w : World) : (Instr.typeAssert (.iface 59 v) xT 248 true).run Tryz.prog w = .ok (.tuple #[.nilIface,.bool false]) w:=run_typeAssert_lacksB Tryz.underlying248 (by kernel_rfl) (by kernel_rfl) v xT w
set_option maxHeartbeats 4000000 in
theorem as_hit (e t : Addr) (old : Value) (w : World) (hg : w.cell? ⟨0,0,none⟩ = some (.iface 239 (.agg #[.pointer (some ⟨4,34,none⟩)]))) (ht0 : w.cell? t = some old) (hf0 : w.frozen? t = false) :
    Calls Tryz.prog 121 #[.iface 93 (.pointer (some e)),.iface 193 (.pointer (some t))] w fun ev w'=>ev = .returned (.bool true) ∧ w' = ((((w.alloc (.cells #[.pointer (some t)] 193)).alloc (.cells #[.pointer (some ⟨4,193,none⟩),.pointer (some ⟨w.heap.size,0,none⟩),.int .u64 150] 222)).alloc (.cells #[.pointer (some ⟨4,193,none⟩),.pointer (some ⟨w.heap.size,0,none⟩),.int .u64 150] 222)).alloc (.cells #[.pointer (some e)] 93)).setCell t (.pointer (some e)):=by
  have h6 := @run_callFunc_extern Tryz.prog 150 _ (fun args => ReflectliteValue.unpack (args.getD 0 (.tuple #[]))) Tryz.func150 (by kernel_rfl) (by kernel_rfl) (by kernel_rfl) (by kernel_rfl);have h7 := @run_callFunc_extern Tryz.prog 151 _ (ReflectliteValue.methodAny (ReflectliteValue.valueError "reflectlite.Value.Type" 0) (fun t _ _ _ => ReflectliteType.toType t)) Tryz.func151 (by kernel_rfl) (by kernel_rfl) (by kernel_rfl) (by kernel_rfl);have h8 := @run_callFunc_extern Tryz.prog 152 _ (ReflectliteValue.method (ReflectliteValue.valueError "reflectlite.Value.IsNil" 0) ReflectliteValue.isNil) Tryz.func152 (by kernel_rfl) (by kernel_rfl) (by kernel_rfl) (by kernel_rfl);have h27 := @run_callFunc_extern Tryz.prog 223 _ (ReflectliteType.abiMethod fun t => do pure (.int .u8 (← Rtype.kind t))) Tryz.func223 (by kernel_rfl) (by kernel_rfl) (by kernel_rfl) (by kernel_rfl);have h37 := @run_callFunc_extern Tryz.prog 236 _ (ReflectliteType.method ReflectliteType.elem) Tryz.func236 (by kernel_rfl) (by kernel_rfl) (by kernel_rfl) (by kernel_rfl);have h38 := @run_callFunc_extern Tryz.prog 237 _ (ReflectliteType.relation "Implements" ReflectliteType.implements_) Tryz.func237 (by kernel_rfl) (by kernel_rfl) (by kernel_rfl) (by kernel_rfl);have h10 := @run_callFunc_extern Tryz.prog 166 _ ReflectliteType.typeOf Tryz.func166 (by kernel_rfl) (by kernel_rfl) (by kernel_rfl) (by kernel_rfl);have h35 := @run_callFunc_extern Tryz.prog 234 _ (ReflectliteType.relation "AssignableTo" ReflectliteType.assignableTo) Tryz.func234 (by kernel_rfl) (by kernel_rfl) (by kernel_rfl) (by kernel_rfl);have h11 := @run_callFunc_extern Tryz.prog 167 _ (ReflectliteValue.method (ReflectliteValue.valueError "reflectlite.Value.Elem" 0) ReflectliteValue.elem) Tryz.func167 (by kernel_rfl) (by kernel_rfl) (by kernel_rfl) (by kernel_rfl);have h12 := @run_callFunc_extern Tryz.prog 168 _ ReflectliteValue.set Tryz.func168 (by kernel_rfl) (by kernel_rfl) (by kernel_rfl) (by kernel_rfl);have tO := typeOf25;have mA := methodAssignableTo;have a25 := assignable25;have v25 := valueOf25;have f6 := valueOf27;have f7 := type27;have mK := methodKind;have mE := methodElem;have mI := methodImplements;have k27 := kind27;have k25 := kind25;have e27 := elem27;have i25 := implements25;have n8 := isNil27 ⟨w.heap.size, 0, none⟩ t ((w.alloc (.cells #[.pointer (some t)] 193)).alloc (.cells #[.pointer (some ⟨4, 193, none⟩), .pointer (some ⟨w.heap.size, 0, none⟩), .int .u64 150] 222)) (by simp);have hlt : 0 < w.heap.size := by
    rcases Nat.lt_or_ge 0 w.heap.size with h|h
    · exact h
    · simp [World.cell?,Array.getElem?_eq_none h] at hg
  have hg2 : ((w.alloc (.cells #[.pointer (some t)] 193)).alloc (.cells #[.pointer (some ⟨4,193,none⟩),.pointer (some ⟨w.heap.size,0,none⟩),.int .u64 150] 222)).cell? ⟨0,0,none⟩ = some (.iface 239 (.agg #[.pointer (some ⟨4,34,none⟩)])):=by
    rw [World.cell?_alloc_lt _ _ ⟨0,0,none⟩ (by simp),World.cell?_alloc_lt _ _ ⟨0,0,none⟩ hlt];exact hg
  have htl : t.block < w.heap.size:=by
    rcases Nat.lt_or_ge t.block w.heap.size with h|h
    · exact h
    · simp [World.cell?,Array.getElem?_eq_none h] at ht0
  have el:=elemV27 ⟨w.heap.size,0,none⟩ t (((w.alloc (.cells #[.pointer (some t)] 193)).alloc (.cells #[.pointer (some ⟨4,193,none⟩),.pointer (some ⟨w.heap.size,0,none⟩),.int .u64 150] 222)).alloc (.cells #[.pointer (some ⟨4,193,none⟩),.pointer (some ⟨w.heap.size,0,none⟩),.int .u64 150] 222)) (by rw [World.cell?_alloc_lt _ _ ⟨w.heap.size,0,none⟩ (by simp;omega)];simp);have st:=set25 t ⟨w.heap.size + 1 + 1 + 1,0,none⟩ e old ((((w.alloc (.cells #[.pointer (some t)] 193)).alloc (.cells #[.pointer (some ⟨4,193,none⟩),.pointer (some ⟨w.heap.size,0,none⟩),.int .u64 150] 222)).alloc (.cells #[.pointer (some ⟨4,193,none⟩),.pointer (some ⟨w.heap.size,0,none⟩),.int .u64 150] 222)).alloc (.cells #[.pointer (some e)] 93))
    (by rw [World.cell?_alloc_at _ _ _ _ (by simp)];rfl)
    (by rw [World.cell?_alloc_lt _ _ t (by simp;omega),World.cell?_alloc_lt _ _ t (by simp;omega),World.cell?_alloc_lt _ _ t (by simp;omega),World.cell?_alloc_lt _ _ t htl];exact ht0)
    (by rw [World.frozen?_alloc_old _ _ t (by simp;omega),World.frozen?_alloc_old _ _ t (by simp;omega),World.frozen?_alloc_old _ _ t (by simp;omega),World.frozen?_alloc_old _ _ t (Nat.ne_of_lt htl)];exact hf0)
  go_enter Tryz.func121,Tryz.ntmps121
  go_wp2
  refine wp_loop_rounds 1 ?_;rw [rounds_succ]
  go_wp2
  go_ret
  exact ⟨rfl,rfl⟩
set_option maxHeartbeats 4000000 in
theorem as_miss (v : Value) (t : Addr) (old : Value) (w : World) (hg : w.cell? ⟨0,0,none⟩ = some (.iface 239 (.agg #[.pointer (some ⟨4,34,none⟩)]))) (ht0 : w.cell? t = some old) (_ : w.frozen? t = false) :
    Calls Tryz.prog 121 #[.iface 59 v,.iface 193 (.pointer (some t))] w fun ev w'=>ev = .returned (.bool false) ∧ w' = ((w.alloc (.cells #[.pointer (some t)] 193)).alloc (.cells #[.pointer (some ⟨4,193,none⟩),.pointer (some ⟨w.heap.size,0,none⟩),.int .u64 150] 222)).alloc (.cells #[.pointer (some ⟨4,193,none⟩),.pointer (some ⟨w.heap.size,0,none⟩),.int .u64 150] 222):=by
  have h6 := @run_callFunc_extern Tryz.prog 150 _ (fun args => ReflectliteValue.unpack (args.getD 0 (.tuple #[]))) Tryz.func150 (by kernel_rfl) (by kernel_rfl) (by kernel_rfl) (by kernel_rfl);have h7 := @run_callFunc_extern Tryz.prog 151 _ (ReflectliteValue.methodAny (ReflectliteValue.valueError "reflectlite.Value.Type" 0) (fun t _ _ _ => ReflectliteType.toType t)) Tryz.func151 (by kernel_rfl) (by kernel_rfl) (by kernel_rfl) (by kernel_rfl);have h8 := @run_callFunc_extern Tryz.prog 152 _ (ReflectliteValue.method (ReflectliteValue.valueError "reflectlite.Value.IsNil" 0) ReflectliteValue.isNil) Tryz.func152 (by kernel_rfl) (by kernel_rfl) (by kernel_rfl) (by kernel_rfl);have h27 := @run_callFunc_extern Tryz.prog 223 _ (ReflectliteType.abiMethod fun t => do pure (.int .u8 (← Rtype.kind t))) Tryz.func223 (by kernel_rfl) (by kernel_rfl) (by kernel_rfl) (by kernel_rfl);have h37 := @run_callFunc_extern Tryz.prog 236 _ (ReflectliteType.method ReflectliteType.elem) Tryz.func236 (by kernel_rfl) (by kernel_rfl) (by kernel_rfl) (by kernel_rfl);have h38 := @run_callFunc_extern Tryz.prog 237 _ (ReflectliteType.relation "Implements" ReflectliteType.implements_) Tryz.func237 (by kernel_rfl) (by kernel_rfl) (by kernel_rfl) (by kernel_rfl);have h10 := @run_callFunc_extern Tryz.prog 166 _ ReflectliteType.typeOf Tryz.func166 (by kernel_rfl) (by kernel_rfl) (by kernel_rfl) (by kernel_rfl);have h35 := @run_callFunc_extern Tryz.prog 234 _ (ReflectliteType.relation "AssignableTo" ReflectliteType.assignableTo) Tryz.func234 (by kernel_rfl) (by kernel_rfl) (by kernel_rfl) (by kernel_rfl);have h11 := @run_callFunc_extern Tryz.prog 167 _ (ReflectliteValue.method (ReflectliteValue.valueError "reflectlite.Value.Elem" 0) ReflectliteValue.elem) Tryz.func167 (by kernel_rfl) (by kernel_rfl) (by kernel_rfl) (by kernel_rfl);have h12 := @run_callFunc_extern Tryz.prog 168 _ ReflectliteValue.set Tryz.func168 (by kernel_rfl) (by kernel_rfl) (by kernel_rfl) (by kernel_rfl);have tO := typeOfN;have q1 := noAs;have q2 := noUnwrap;have q3 := noUnwraps;have mA := methodAssignableTo;have a25 := assignableN;have v25 := valueOf25;have f6 := valueOf27;have f7 := type27;have mK := methodKind;have mE := methodElem;have mI := methodImplements;have k27 := kind27;have k25 := kind25;have e27 := elem27;have i25 := implements25;have n8 := isNil27 ⟨w.heap.size, 0, none⟩ t ((w.alloc (.cells #[.pointer (some t)] 193)).alloc (.cells #[.pointer (some ⟨4, 193, none⟩), .pointer (some ⟨w.heap.size, 0, none⟩), .int .u64 150] 222)) (by simp);have hlt : 0 < w.heap.size := by
    rcases Nat.lt_or_ge 0 w.heap.size with h|h
    · exact h
    · simp [World.cell?,Array.getElem?_eq_none h] at hg
  have hg2 : ((w.alloc (.cells #[.pointer (some t)] 193)).alloc (.cells #[.pointer (some ⟨4,193,none⟩),.pointer (some ⟨w.heap.size,0,none⟩),.int .u64 150] 222)).cell? ⟨0,0,none⟩ = some (.iface 239 (.agg #[.pointer (some ⟨4,34,none⟩)])):=by
    rw [World.cell?_alloc_lt _ _ ⟨0,0,none⟩ (by simp),World.cell?_alloc_lt _ _ ⟨0,0,none⟩ hlt];exact hg
  have htl : t.block < w.heap.size:=by
    rcases Nat.lt_or_ge t.block w.heap.size with h|h
    · exact h
    · simp [World.cell?,Array.getElem?_eq_none h] at ht0
  have el:=elemV27 ⟨w.heap.size,0,none⟩ t (((w.alloc (.cells #[.pointer (some t)] 193)).alloc (.cells #[.pointer (some ⟨4,193,none⟩),.pointer (some ⟨w.heap.size,0,none⟩),.int .u64 150] 222)).alloc (.cells #[.pointer (some ⟨4,193,none⟩),.pointer (some ⟨w.heap.size,0,none⟩),.int .u64 150] 222)) (by rw [World.cell?_alloc_lt _ _ ⟨w.heap.size,0,none⟩ (by simp;omega)];simp)
  go_enter Tryz.func121,Tryz.ntmps121
  go_wp2
  refine wp_loop_rounds 1 ?_;rw [rounds_succ]
  go_wp2
  go_ret
  exact ⟨rfl,rfl⟩
end Go.Proofs.YtpfkncffaanjcaaGreatDoor.As
namespace Go.Proofs.YtpfkncffaanjcaaGreatDoor
open Go.RowKit
namespace Ab
set_option maxRecDepth 100000
namespace Q
theorem errCell {ok : Oks} {w : World} (h : GlobAt ok w) : w.cell? ⟨0,0,none⟩ = some (.iface 239 (.agg #[.pointer (some ⟨3 + 1,34,none⟩)])):=h.2.2.2
theorem as_hit' {n0 : Nat} (e t : Addr) (old : Value) (w : World) (hg : w.cell? ⟨0,0,none⟩ = some (.iface 239 (.agg #[.pointer (some ⟨3 + 1,34,none⟩)]))) (ht : w.cell? t = some old) (hf : w.frozen? t = false) (h0 : n0 ≤ t.block) (h1 : n0 ≤ w.heap.size) :
    Calls Tryz.prog 121 #[.iface 93 (.pointer (some e)),.iface 193 (.pointer (some t))] w fun ev w'=>ev = .returned (.bool true) ∧ Below n0 w w' ∧ w'.cell? t = some (.pointer (some e)):=by
  have htl : t.block < w.heap.size:=by
    rcases Nat.lt_or_ge t.block w.heap.size with h|h
    · exact h
    · simp [World.cell?,Array.getElem?_eq_none h] at ht
  refine (As.as_hit e t old w hg ht hf).mono ?_
  rintro ev w' ⟨rfl,rfl⟩
  have hb:=((((Below.refl n0 w).alloc h1 (.cells #[.pointer (some t)] 193)).alloc (by simp;omega) (.cells #[.pointer (some ⟨3 + 1,193,none⟩),.pointer (some ⟨w.heap.size,0,none⟩),.int .u64 150] 222)).alloc (by simp;omega) (.cells #[.pointer (some ⟨3 + 1,193,none⟩),.pointer (some ⟨w.heap.size,0,none⟩),.int .u64 150] 222)).alloc (by simp;omega) (.cells #[.pointer (some e)] 93);refine ⟨rfl,hb.setCell h0 _,World.cell?_setCell_same _ _ _ (u:=old) ?_⟩;rw [World.cell?_alloc_lt _ _ t (by simp;omega),World.cell?_alloc_lt _ _ t (by simp;omega),World.cell?_alloc_lt _ _ t (by simp;omega),World.cell?_alloc_lt _ _ t htl];exact ht
theorem as_miss' {n0 : Nat} (v : Value) (t : Addr) (old : Value) (w : World) (hg : w.cell? ⟨0,0,none⟩ = some (.iface 239 (.agg #[.pointer (some ⟨3 + 1,34,none⟩)]))) (ht : w.cell? t = some old) (hf : w.frozen? t = false) (h1 : n0 ≤ w.heap.size) :
    Calls Tryz.prog 121 #[.iface 59 v,.iface 193 (.pointer (some t))] w fun ev w'=>ev = .returned (.bool false) ∧ Below n0 w w':=by
  refine (As.as_miss v t old w hg ht hf).mono ?_
  rintro ev w' ⟨rfl,rfl⟩
  exact ⟨rfl,(((Below.refl n0 w).alloc h1 _).alloc (by simp;omega) _).alloc (by simp;omega) _⟩
set_option maxHeartbeats 4000000 in
theorem bareN_calls (v : Value) (w : World) (hg : w.cell? ⟨0,0,none⟩ = some (.iface 239 (.agg #[.pointer (some ⟨3 + 1,34,none⟩)]))) (hlt : 0 < w.heap.size) :
    Calls Tryz.prog 86 #[.iface 59 v] w fun e w'=>e = .returned (.iface 59 v) ∧ Below w.heap.size w w':=by
  have hgA : (w.alloc (.cells #[.pointer none] 93)).cell? ⟨0,0,none⟩ = some (.iface 239 (.agg #[.pointer (some ⟨3 + 1,34,none⟩)])):=by
    rw [World.cell?_alloc_lt _ _ ⟨0,0,none⟩ hlt];exact hg
  have htA : (w.alloc (.cells #[.pointer none] 93)).cell? ⟨w.heap.size,0,none⟩ = some (.pointer none):=by simp
  have hfA : (w.alloc (.cells #[.pointer none] 93)).frozen? ⟨w.heap.size,0,none⟩ = false:=by simp
  have hbA : Below w.heap.size w (w.alloc (.cells #[.pointer none] 93)):=(Below.refl _ w).alloc (Nat.le_refl _) _
  go_enter Tryz.func86,Tryz.ntmps86
  go_wp2_with (go_at_call 121;refine (as_miss' (n0:=w.heap.size) v _ _ _ hgA htA hfA (by simp)).mono ?_;rintro e w' ⟨rfl,hb⟩)
  go_ret
  exact ⟨rfl,hbA.trans hb⟩
set_option maxHeartbeats 4000000 in
theorem bareF_calls (b off : Nat) (x : Value) (w : World) (hg : w.cell? ⟨0,0,none⟩ = some (.iface 239 (.agg #[.pointer (some ⟨3 + 1,34,none⟩)]))) (hlt : 0 < w.heap.size) (hx : w.cell? ⟨b,off + 1,none⟩ = some x) :
    Calls Tryz.prog 86 #[.iface 93 (.pointer (some ⟨b,off,none⟩))] w fun e w'=>e = .returned x ∧ Below w.heap.size w w':=by
  have hgA : (w.alloc (.cells #[.pointer none] 93)).cell? ⟨0,0,none⟩ = some (.iface 239 (.agg #[.pointer (some ⟨3 + 1,34,none⟩)])):=by
    rw [World.cell?_alloc_lt _ _ ⟨0,0,none⟩ hlt];exact hg
  have htA : (w.alloc (.cells #[.pointer none] 93)).cell? ⟨w.heap.size,0,none⟩ = some (.pointer none):=by simp
  have hfA : (w.alloc (.cells #[.pointer none] 93)).frozen? ⟨w.heap.size,0,none⟩ = false:=by simp
  have hbA : Below w.heap.size w (w.alloc (.cells #[.pointer none] 93)):=(Below.refl _ w).alloc (Nat.le_refl _) _
  go_enter Tryz.func86,Tryz.ntmps86
  go_wp2_with (go_at_call 121;refine (as_hit' (n0:=w.heap.size) ⟨b,off,none⟩ _ _ _ hgA htA hfA (by simp) (by simp)).mono ?_;rintro e w' ⟨rfl,hb,hc⟩;have hx2 : w'.cell? ⟨b,off + 1,none⟩ = some x:=cell_later (hbA.trans hb) hx)
  go_ret
  exact ⟨rfl,hbA.trans hb⟩
theorem bareN_c (n : Int) : qR Tryz.prog 86 [.one (errN n)] (.one (errN n)):=by
  refine ⟨⟨_,Tryz.func86,rfl,rfl⟩,fun ok w vs hg hvs=>?_⟩;obtain ⟨v,t,rfl,hv,ht⟩:=hvs;rw [show t = [] from ht,show v = _ from hv];exact (bareN_calls (.int .i64 n) w (errCell hg) (Nat.lt_of_lt_of_le (by decide) hg.2.1)).mono fun e w' ⟨he,hb⟩=>⟨_,he,hb,rfl⟩
theorem bareF_c (a n : Int) : qR Tryz.prog 86 [.one (errF a n)] (.one (errN n)):=by
  refine ⟨⟨_,Tryz.func86,rfl,rfl⟩,fun ok w vs hg hvs=>?_⟩;obtain ⟨v,t,rfl,⟨u,rfl,b,off,cs,rfl,_,hlt,hc,hr⟩,ht⟩:=hvs;obtain ⟨c,d,rfl,h1,h2⟩:=hr;rw [show t = [] from ht];have hx : w.cell? ⟨b,off + 1,none⟩ = some (.iface 59 (.int .i64 n)):=by
    rw [hc.2 1 (by decide),show c = _ from h1,show d = _ from h2.1];rfl
  exact (bareF_calls b off _ w (errCell hg) (Nat.lt_of_lt_of_le (by decide) hg.2.1) hx).mono fun e w' ⟨he,hb⟩=>⟨_,he,hb,rfl⟩
end Q
end Ab
end Go.Proofs.YtpfkncffaanjcaaGreatDoor
namespace Go.Proofs.YtpfkncffaanjcaaGreatDoor
open Go.RowKit
namespace Ab
set_option maxRecDepth 100000
abbrev rItm3 : Rd Itm:=rItm.kd 3
namespace Q
end Q
end Ab
end Go.Proofs.YtpfkncffaanjcaaGreatDoor
namespace Go.Proofs.YtpfkncffaanjcaaGreatDoor
open Go.RowKit
namespace Ab
set_option maxRecDepth 100000
namespace Q
theorem a1_parse7 : yO ⟨#[65,58,32,49,10]⟩ = .inr [(3,⟨#[65,58,32,49,10]⟩,[(⟨#[65]⟩,⟨#[49]⟩)])]:=by decide +kernel
def al0 : List Ent:=[((3,⟨#[65,58,32,49,10]⟩,[(⟨#[65]⟩,⟨#[49]⟩)]),1)]
def alF : List Fld:=[(⟨#[66]⟩,⟨#[50]⟩)]
def al1 : List Ent:=insE al0 0 (itmOf alF,2)
structure SeenI (es : List Ent) (n : Int) (i : Nat) (sn : List Bool) : Prop where
  le : i ≤ (stzL es).length
  len : sn.length = n.toNat
  seen : ∀ k : Nat,sn.getD k false = true → ∃ j,j < i ∧ ((stzL es).getD j ((0 : Int),([] : List Fld))).1 = k
theorem SeenI.next {es : List Ent} {n : Int} {i : Nat} {sn : List Bool} (h : SeenI es n i sn) (hi : i < (stzL es).length) (hp : 0 < ((stzL es).getD i ((0 : Int),([] : List Fld))).1) : SeenI es n (i + 1) (sn.set (((stzL es).getD i ((0 : Int),([] : List Fld))).1).toNat true):=by
  refine ⟨hi,by rw [List.length_set];exact h.len,fun k hk=>?_⟩
  by_cases e : (((stzL es).getD i ((0 : Int),([] : List Fld))).1).toNat = k
  · exact ⟨i,Nat.lt_succ_self _,by omega⟩
  · rw [List.getD_eq_getElem?_getD,List.getElem?_set_ne e,← List.getD_eq_getElem?_getD] at hk;obtain ⟨j,hj,h2⟩:=h.seen k hk;exact ⟨j,by omega,h2⟩
theorem lsvec_eq {L M : Lst} (h : M = L) : some (Ob.vec 111 rEnt L.1) = some (Ob.vec 111 rEnt M.1):=by rw [h]
abbrev rStz3 : Rd Stz:=rStz.kd 3
def goodA (x : Edt) : C:=if x.1 = 2 then (if 0 < x.2.2.length then errN 2 else .lit .nilIface) else if x.1 = 1 ∨ x.1 = 3 then chkA x.2.2 else errN 2
theorem goodA_cases (x : Edt) : (goodN x = 0 ∧ goodA x = .lit .nilIface) ∨ (∃ n,n ≠ 0 ∧ goodN x = n ∧ goodA x = errN n) ∨ ∃ a n,n ≠ 0 ∧ goodN x = n ∧ goodA x = errF a n:=by
  unfold goodN goodA
  by_cases h2 : x.1 = 2
  · simp only [if_pos h2]
    by_cases h3 : 0 < x.2.2.length
    · simp only [if_pos h3];exact .inr (.inl ⟨2,by decide,rfl,rfl⟩)
    · simp only [if_neg h3];exact .inl ⟨trivial,trivial⟩
  · simp only [if_neg h2]
    by_cases h3 : x.1 = 1 ∨ x.1 = 3
    · simp only [if_pos h3]
      by_cases hc : (chkR x.2.2).2 = 0
      · exact .inl ⟨hc,(chk_good hc).2.2⟩
      · obtain ⟨e,he,hs⟩:=chk_bad hc;rcases hs with ⟨n,hn,rfl,hr⟩|⟨i,n,hn,rfl,hr⟩
        · exact .inr (.inl ⟨n,hn,by rw [hr],he⟩)
        · exact .inr (.inr ⟨i,n,hn,by rw [hr],he⟩)
    · simp only [if_neg h3];exact .inr (.inl ⟨2,by decide,rfl,rfl⟩)
theorem goodA_2 {x : Edt} (h : x.1 = 2) (h3 : 0 < x.2.2.length) : goodA x = errN 2:=by unfold goodA;rw [if_pos h,if_pos h3]
theorem goodA_20 {x : Edt} (h : x.1 = 2) (h3 : ¬ 0 < x.2.2.length) : goodA x = .lit .nilIface:=by unfold goodA;rw [if_pos h,if_neg h3]
theorem goodA_13 {x : Edt} (h : x.1 = 1 ∨ x.1 = 3) : goodA x = chkA x.2.2:=by unfold goodA;rw [if_neg (by omega),if_pos h]
theorem goodA_no {x : Edt} (h : x.1 ≠ 2) (h3 : ¬ (x.1 = 1 ∨ x.1 = 3)) : goodA x = errN 2:=by unfold goodA;rw [if_neg h,if_neg h3]
theorem chkA_cases (l : List Fld) : chkA l = .lit .nilIface ∨ (∃ n,chkA l = errN n) ∨ ∃ a n,chkA l = errF a n:=by
  unfold chkA;split
  · exact .inl rfl
  · split
    · exact .inr (.inl ⟨_,rfl⟩)
    · exact .inr (.inr ⟨_,_,rfl⟩)
theorem good_c {κ : Nat} (x : Edt) (hf : qT x.2.2) : qR Tryz.prog 81 [.agg (toL (rEdk κ) x)] (.one (goodA x)):=by
  refine qP (rs:=[2]) Tryz.func81 rfl rfl rfl teOk rfl ?_;refine qC ?_;refine qB ?_;refine qC ?_;refine qC ?_;refine qB ?_;refine qN ?_;refine qC ?_;refine qB ?_;refine qI rfl (fun h5=>?_) (fun h5=>?_)
  ·try simp only [decide_eq_true_eq] at h5
   try simp only [zds] at h5
   refine qC ?_;refine qC ?_;refine qB ?_;intro l3_2
   try simp only [zds] at l3_2
   refine qI rfl (fun h10=>?_) (fun h10=>?_)
   ·try simp only [decide_eq_true_eq] at h10
    try simp only [zds] at h10
    refine qC ?_;refine qB ?_;refine qL ?_;rw [goodA_2 h5 (by omega)];rfl
   ·try simp only [decide_eq_false_iff_not,Int.not_lt] at h10
    try simp only [zds] at h10
    refine qM ?_;refine qC ?_;refine qB ?_;refine qL ?_;rw [goodA_20 h5 (by omega)];rfl
  ·try simp only [decide_eq_false_iff_not] at h5
   try simp only [zds] at h5
   refine qC ?_;refine qC ?_;refine qB ?_;refine qI rfl (fun h12=>?_) (fun h12=>?_)
   ·try simp only [decide_eq_true_eq] at h12
    try simp only [zds] at h12
    refine qM ?_;refine qI rfl (fun h12=>?_) (fun h12=>?_)
    ·try simp only [decide_eq_true_eq] at h12
     try simp only [zds] at h12
     refine qC ?_;have hk:=pcheck_c (κ:=κ) x.2.2 hf ; rcases chkA_cases x.2.2 with hA|⟨n,hA⟩|⟨a,n,hA⟩ <;> rw [hA] at hk
     ·refine qB ?_;refine Or.inl ?_;refine zai (rfl) ?_;refine zei _ (zai (hk) ?_);refine qL ?_;rw [goodA_13 (by omega),hA];rfl
     ·refine qB ?_;refine Or.inl ?_;refine zai (rfl) ?_;refine zei _ (zai (hk) ?_);refine qL ?_;rw [goodA_13 (by omega),hA];rfl
     ·refine qB ?_;refine Or.inl ?_;refine zai (rfl) ?_;refine zei _ (zai (hk) ?_);refine qL ?_;rw [goodA_13 (by omega),hA];rfl
    ·try simp only [decide_eq_false_iff_not] at h12
     try simp only [zds] at h12
     omega
   ·try simp only [decide_eq_false_iff_not] at h12
    try simp only [zds] at h12
    refine qB ?_;refine qI rfl (fun h12=>?_) (fun h12=>?_)
    ·try simp only [decide_eq_true_eq] at h12
     try simp only [zds] at h12
     refine qC ?_;have hk:=pcheck_c (κ:=κ) x.2.2 hf ; rcases chkA_cases x.2.2 with hA|⟨n,hA⟩|⟨a,n,hA⟩ <;> rw [hA] at hk
     ·refine qB ?_;refine Or.inl ?_;refine zai (rfl) ?_;refine zei _ (zai (hk) ?_);refine qL ?_;rw [goodA_13 (by omega),hA];rfl
     ·refine qB ?_;refine Or.inl ?_;refine zai (rfl) ?_;refine zei _ (zai (hk) ?_);refine qL ?_;rw [goodA_13 (by omega),hA];rfl
     ·refine qB ?_;refine Or.inl ?_;refine zai (rfl) ?_;refine zei _ (zai (hk) ?_);refine qL ?_;rw [goodA_13 (by omega),hA];rfl
    ·try simp only [decide_eq_false_iff_not] at h12
     try simp only [zds] at h12
     skip
     refine qM ?_;refine qC ?_;refine qB ?_;refine qL ?_;rw [goodA_no (by omega) (by omega)];rfl
theorem faultN_c (i n : Int) : qR Tryz.prog 53 [ii .i64 i,.one (errN n)] (.one (errF i n)):=by
  refine qP (rs:=[4]) Tryz.func53 rfl rfl rfl teOk rfl ?_;refine qC ?_;refine qB ?_;refine qC ?_;refine qB ?_;refine Or.inl ?_;refine zai (rfl) ?_;refine zei _ (zai (bareN_c n) ?_);refine qL ?_;rfl
theorem faultF_c (i a n : Int) : qR Tryz.prog 53 [ii .i64 i,.one (errF a n)] (.one (errF i n)):=by
  refine qP (rs:=[4]) Tryz.func53 rfl rfl rfl teOk rfl ?_;refine qC ?_;refine qB ?_;refine qC ?_;refine qB ?_;refine Or.inl ?_;refine zai (rfl) ?_;refine zei _ (zai (bareF_c a n) ?_);refine qL ?_;rfl
def erB (p : Int × Int) : C:=if p.2 = 0 then .lit .nilIface else if p.1 = -9 then errN p.2 else errF p.1 p.2
theorem erB_z : erB (-9,0) = .lit .nilIface:=rfl
theorem erB_n {n : Int} (h : n ≠ 0) : erB (-9,n) = errN n:=by unfold erB;rw [if_neg h,if_pos rfl]
theorem erB_f {i : Nat} {n : Int} (h : n ≠ 0) : erB ((i : Int),n) = errF i n:=by unfold erB;rw [if_neg h,if_neg (show ¬ (i : Int) = -9 by omega)]
theorem check_c9 {κ κ' : Nat} (s : List Edt) (hf : ∀ e ∈ s,qT e.2.2) (hl : s.length ≤ 1000000) : qR Tryz.prog 50 [.one (.slk κ (rEdk κ') s)] (.one (erB (chkB s))):=by
  refine qP (rs:=[2]) Tryz.func50 rfl rfl rfl teOk rfl ?_;refine qC ?_;refine qB ?_;refine qC ?_;refine qC ?_;refine qB ?_;intro l1_1
  try simp only [zds] at l1_1
  refine zai (fun h=>trivial) ?_;refine zai (fun h=>⟨⟨h,trivial⟩,trivial⟩) ?_;refine zai (fun h=>⟨⟨h,trivial⟩,trivial⟩) ?_;refine zai (by first|(intro h;rw [h];rfl)|(intro h;cases h)) ?_;refine qI rfl (fun h13=>?_) (fun h13=>?_)
  ·try simp only [decide_eq_true_eq,Bool.or_eq_true] at h13
   try simp only [zds] at h13
   refine qC ?_;refine qB ?_;refine qL ?_;rw [chkB_rng (by omega),erB_n (by decide)];rfl
  ·try simp only [decide_eq_false_iff_not,Bool.or_eq_false_iff,Int.not_lt] at h13
   try simp only [zds] at h13
   refine qM ?_;refine qC ?_;refine qC ?_;refine qB ?_;intro l3_1
   try simp only [zds] at l3_1
   refine qN ?_;refine qX (fun (i : Nat)=>i ≤ s.length ∧ ∀ e ∈ s.take i,goodN e = 0) (fun (i : Nat)=>[(15,.one (.slk κ (rEdk κ') s)),(16,ii .i64 s.length),(17,ii .i64 i)]) (fun (i : Nat)=>[]) 0 (fun (i : Nat)=>s.length - i) 0 (⟨Nat.zero_le _,by simp⟩) (qV ⟨rfl,rfl,rfl⟩ trivial rfl) ?_;intro i hI0;obtain ⟨hi,hall⟩:=hI0;refine qC ?_;refine qB ?_;refine qC ?_;refine qI rfl (fun h18=>?_) (fun h18=>?_)
   ·try simp only [decide_eq_true_eq] at h18
    try simp only [zds] at h18
    have hlt : i < s.length:=(by omega);have hm:=hf _ (yY hlt ((0 : Int),(0 : Int),([] : List Fld)));have hg:=good_c (κ:=κ') (s.getD i ((0 : Int),(0 : Int),([] : List Fld))) hm;refine qM ?_;refine qC ?_;refine qN ?_;refine qC ?_;refine qB ?_;refine zai (by first|omega|assumption|decide|(simp only [zds];omega)|(simp <;> omega)) ?_;refine qC ?_;rcases goodA_cases (s.getD i ((0 : Int),(0 : Int),([] : List Fld))) with ⟨hz,hA⟩|⟨n,hn,hz,hA⟩|⟨a,n,hn,hz,hA⟩ <;> rw [hA] at hg
    ·refine qB ?_;refine Or.inl ?_;refine zai (rfl) ?_;refine zei _ (zai (hg) ?_);refine qC ?_;refine qB ?_;refine qI rfl (fun h25=>?_) (fun h25=>?_)
     ·try simp only [Bool.not_eq_true'] at h25
      try simp only [zds] at h25
      cases h25
     ·try simp only [Bool.not_eq_false'] at h25
      try simp only [zds] at h25
      refine qM ?_;refine qB ?_;refine zai (by first|omega|assumption|decide|(simp only [zds];omega)|(simp <;> omega)) ?_;exact ⟨i + 1,⟨by omega,take_good hlt hall hz⟩,by first|omega|(simp <;> omega),qV ⟨rfl,rfl,(yW (by omega))⟩ trivial rfl⟩
    ·refine qB ?_;refine Or.inl ?_;refine zai (rfl) ?_;refine zei _ (zai (hg) ?_);refine qC ?_;refine qB ?_;refine qI rfl (fun h25=>?_) (fun h25=>?_)
     ·skip
      refine qC ?_;refine qB ?_;refine Or.inl ?_;refine zai (rfl) ?_;refine zei _ (zai (faultN_c i n) ?_);refine qL ?_;rw [chkB_at (by omega) hlt hall (by rw [hz];exact hn),hz,erB_f hn];rfl
     ·try simp only [zbq] at h25
      try simp only [zds] at h25
      cases h25
    ·refine qB ?_;refine Or.inl ?_;refine zai (rfl) ?_;refine zei _ (zai (hg) ?_);refine qC ?_;refine qB ?_;refine qI rfl (fun h25=>?_) (fun h25=>?_)
     ·skip
      refine qC ?_;refine qB ?_;refine Or.inl ?_;refine zai (rfl) ?_;refine zei _ (zai (faultF_c i a n) ?_);refine qL ?_;rw [chkB_at (by omega) hlt hall (by rw [hz];exact hn),hz,erB_f hn];rfl
     ·try simp only [zbq] at h25
      try simp only [zds] at h25
      cases h25
   ·try simp only [decide_eq_false_iff_not,Int.not_lt] at h18
    try simp only [zds] at h18
    refine yA ?_;refine qC ?_;refine qB ?_;refine qL ?_;rw [List.take_of_length_le (by omega)] at hall;rw [chkB_no (by omega) hall,erB_z];rfl
theorem oneRep_z {κ : Nat} (L L' : Lst) (id : Int) (f : List Fld) (h : qU Tryz.prog 83 [.one (.own 0 0),ii .i64 id,.one (.slk κ rFld f)] (lsO L) 2 (.one (.lit .nilIface)) (lsO L') 2) : qU Tryz.prog 52 [.one (.own 0 0),.agg (toL (rEdk κ) ((1 : Int),id,f))] (lsO L) 2 (.tup [(false,[.lit (.int .i64 0)]),(false,[.lit .nilIface])]) (lsO L') 2:=by
  refine qQ (rs:=[4,5]) Tryz.func52 rfl rfl rfl teOk (by decide) rfl ?_;refine qC ?_;refine qB ?_;refine qC ?_;refine qC ?_;refine qB ?_;refine qN ?_;refine qC ?_;refine qB ?_;refine qI rfl (fun h8=>?_) (fun h8=>?_)
  ·try simp only [decide_eq_true_eq] at h8
   try simp only [zds] at h8
   refine qC ?_;refine qB ?_;refine Or.inr (Or.inl (zei [] (zei [0,1] (zei _ (zei _ (zei _ (zei _ (zei _ (zai (h) (zai rfl (zai (zai (zai rfl rfl) (zai (zai rfl rfl) True.intro)) (zai rfl ?_))))))))))));refine qL ?_;exact ⟨rfl,⟨rfl,rfl⟩,rfl⟩
  ·try simp only [decide_eq_false_iff_not] at h8
   try simp only [zds] at h8
   simp at h8
theorem oneDel_z {κ : Nat} (L L' : Lst) (id : Int) (f : List Fld) (h : qU Tryz.prog 84 [.one (.own 0 0),ii .i64 id] (lsO L) 2 (.one (.lit .nilIface)) (lsO L') 2) : qU Tryz.prog 52 [.one (.own 0 0),.agg (toL (rEdk κ) ((2 : Int),id,f))] (lsO L) 2 (.tup [(false,[.lit (.int .i64 0)]),(false,[.lit .nilIface])]) (lsO L') 2:=by
  refine qQ (rs:=[4,5]) Tryz.func52 rfl rfl rfl teOk (by decide) rfl ?_;refine qC ?_;refine qB ?_;refine qC ?_;refine qC ?_;refine qB ?_;refine qN ?_;refine qC ?_;refine qB ?_;refine qI rfl (fun h8=>?_) (fun h8=>?_)
  ·try simp only [decide_eq_true_eq] at h8
   try simp only [zds] at h8
   simp at h8
  ·try simp only [decide_eq_false_iff_not] at h8
   try simp only [zds] at h8
   refine qC ?_;refine qB ?_;refine qI rfl (fun h16=>?_) (fun h16=>?_)
   ·try simp only [decide_eq_true_eq] at h16
    try simp only [zds] at h16
    refine qC ?_;refine qB ?_;refine Or.inr (Or.inl (zei [] (zei [0,1] (zei _ (zei _ (zei _ (zei _ (zei _ (zai (h) (zai rfl (zai (zai (zai rfl rfl) (zai (zai rfl rfl) True.intro)) (zai rfl ?_))))))))))));refine qL ?_;exact ⟨rfl,⟨rfl,rfl⟩,rfl⟩
   ·try simp only [decide_eq_false_iff_not] at h16
    try simp only [zds] at h16
    simp at h16
theorem oneIns_z {κ : Nat} (L L' : Lst) (k id m : Int) (f : List Fld) (h1 : k ≠ 1) (h2 : k ≠ 2) (h : qU Tryz.prog 85 [.one (.own 0 0),ii .i64 id,.one (.slk κ rFld f)] (lsO L) 2 (.tup [(false,[.lit (.int .i64 m)]),(false,[.lit .nilIface])]) (lsO L') 2) : qU Tryz.prog 52 [.one (.own 0 0),.agg (toL (rEdk κ) (k,id,f))] (lsO L) 2 (.tup [(false,[.lit (.int .i64 m)]),(false,[.lit .nilIface])]) (lsO L') 2:=by
  refine qQ (rs:=[4,5]) Tryz.func52 rfl rfl rfl teOk (by decide) rfl ?_;refine qC ?_;refine qB ?_;refine qC ?_;refine qC ?_;refine qB ?_;refine qN ?_;refine qC ?_;refine qB ?_;refine qI rfl (fun h8=>?_) (fun h8=>?_)
  ·try simp only [decide_eq_true_eq] at h8
   try simp only [zds] at h8
   exact absurd h8 h1
  ·try simp only [decide_eq_false_iff_not] at h8
   try simp only [zds] at h8
   refine qC ?_;refine qB ?_;refine qI rfl (fun h16=>?_) (fun h16=>?_)
   ·try simp only [decide_eq_true_eq] at h16
    try simp only [zds] at h16
    exact absurd h16 h2
   ·try simp only [decide_eq_false_iff_not] at h16
    try simp only [zds] at h16
    refine qM ?_;refine qC ?_;refine qB ?_;refine Or.inr (Or.inl (zei [] (zei [0,1] (zei _ (zei _ (zei _ (zei _ (zei _ (zai (h) (zai rfl (zai (zai (zai rfl rfl) (zai (zai rfl rfl) True.intro)) (zai rfl ?_))))))))))));refine qL ?_;exact ⟨rfl,⟨rfl,rfl⟩,rfl⟩
theorem oneRep_n {κ : Nat} (L L' : Lst) (k9 : Int) (id : Int) (f : List Fld) (h : qU Tryz.prog 83 [.one (.own 0 0),ii .i64 id,.one (.slk κ rFld f)] (lsO L) 2 (.one (errN k9)) (lsO L') 2) : qU Tryz.prog 52 [.one (.own 0 0),.agg (toL (rEdk κ) ((1 : Int),id,f))] (lsO L) 2 (.tup [(false,[.lit (.int .i64 0)]),(false,[errN k9])]) (lsO L') 2:=by
  refine qQ (rs:=[4,5]) Tryz.func52 rfl rfl rfl teOk (by decide) rfl ?_;refine qC ?_;refine qB ?_;refine qC ?_;refine qC ?_;refine qB ?_;refine qN ?_;refine qC ?_;refine qB ?_;refine qI rfl (fun h8=>?_) (fun h8=>?_)
  ·try simp only [decide_eq_true_eq] at h8
   try simp only [zds] at h8
   refine qC ?_;refine qB ?_;refine Or.inr (Or.inl (zei [] (zei [0,1] (zei _ (zei _ (zei _ (zei _ (zei _ (zai (h) (zai rfl (zai (zai (zai rfl rfl) (zai (zai rfl rfl) True.intro)) (zai rfl ?_))))))))))));refine qL ?_;exact ⟨rfl,⟨rfl,rfl⟩,rfl⟩
  ·try simp only [decide_eq_false_iff_not] at h8
   try simp only [zds] at h8
   simp at h8
theorem oneDel_n {κ : Nat} (L L' : Lst) (k9 : Int) (id : Int) (f : List Fld) (h : qU Tryz.prog 84 [.one (.own 0 0),ii .i64 id] (lsO L) 2 (.one (errN k9)) (lsO L') 2) : qU Tryz.prog 52 [.one (.own 0 0),.agg (toL (rEdk κ) ((2 : Int),id,f))] (lsO L) 2 (.tup [(false,[.lit (.int .i64 0)]),(false,[errN k9])]) (lsO L') 2:=by
  refine qQ (rs:=[4,5]) Tryz.func52 rfl rfl rfl teOk (by decide) rfl ?_;refine qC ?_;refine qB ?_;refine qC ?_;refine qC ?_;refine qB ?_;refine qN ?_;refine qC ?_;refine qB ?_;refine qI rfl (fun h8=>?_) (fun h8=>?_)
  ·try simp only [decide_eq_true_eq] at h8
   try simp only [zds] at h8
   simp at h8
  ·try simp only [decide_eq_false_iff_not] at h8
   try simp only [zds] at h8
   refine qC ?_;refine qB ?_;refine qI rfl (fun h16=>?_) (fun h16=>?_)
   ·try simp only [decide_eq_true_eq] at h16
    try simp only [zds] at h16
    refine qC ?_;refine qB ?_;refine Or.inr (Or.inl (zei [] (zei [0,1] (zei _ (zei _ (zei _ (zei _ (zei _ (zai (h) (zai rfl (zai (zai (zai rfl rfl) (zai (zai rfl rfl) True.intro)) (zai rfl ?_))))))))))));refine qL ?_;exact ⟨rfl,⟨rfl,rfl⟩,rfl⟩
   ·try simp only [decide_eq_false_iff_not] at h16
    try simp only [zds] at h16
    simp at h16
theorem oneIns_n {κ : Nat} (L L' : Lst) (k9 : Int) (k id m : Int) (f : List Fld) (h1 : k ≠ 1) (h2 : k ≠ 2) (h : qU Tryz.prog 85 [.one (.own 0 0),ii .i64 id,.one (.slk κ rFld f)] (lsO L) 2 (.tup [(false,[.lit (.int .i64 m)]),(false,[errN k9])]) (lsO L') 2) : qU Tryz.prog 52 [.one (.own 0 0),.agg (toL (rEdk κ) (k,id,f))] (lsO L) 2 (.tup [(false,[.lit (.int .i64 m)]),(false,[errN k9])]) (lsO L') 2:=by
  refine qQ (rs:=[4,5]) Tryz.func52 rfl rfl rfl teOk (by decide) rfl ?_;refine qC ?_;refine qB ?_;refine qC ?_;refine qC ?_;refine qB ?_;refine qN ?_;refine qC ?_;refine qB ?_;refine qI rfl (fun h8=>?_) (fun h8=>?_)
  ·try simp only [decide_eq_true_eq] at h8
   try simp only [zds] at h8
   exact absurd h8 h1
  ·try simp only [decide_eq_false_iff_not] at h8
   try simp only [zds] at h8
   refine qC ?_;refine qB ?_;refine qI rfl (fun h16=>?_) (fun h16=>?_)
   ·try simp only [decide_eq_true_eq] at h16
    try simp only [zds] at h16
    exact absurd h16 h2
   ·try simp only [decide_eq_false_iff_not] at h16
    try simp only [zds] at h16
    refine qM ?_;refine qC ?_;refine qB ?_;refine Or.inr (Or.inl (zei [] (zei [0,1] (zei _ (zei _ (zei _ (zei _ (zei _ (zai (h) (zai rfl (zai (zai (zai rfl rfl) (zai (zai rfl rfl) True.intro)) (zai rfl ?_))))))))))));refine qL ?_;exact ⟨rfl,⟨rfl,rfl⟩,rfl⟩
theorem oneRep_f {κ : Nat} (L L' : Lst) (a9 k9 : Int) (id : Int) (f : List Fld) (h : qU Tryz.prog 83 [.one (.own 0 0),ii .i64 id,.one (.slk κ rFld f)] (lsO L) 2 (.one (errF a9 k9)) (lsO L') 2) : qU Tryz.prog 52 [.one (.own 0 0),.agg (toL (rEdk κ) ((1 : Int),id,f))] (lsO L) 2 (.tup [(false,[.lit (.int .i64 0)]),(false,[errF a9 k9])]) (lsO L') 2:=by
  refine qQ (rs:=[4,5]) Tryz.func52 rfl rfl rfl teOk (by decide) rfl ?_;refine qC ?_;refine qB ?_;refine qC ?_;refine qC ?_;refine qB ?_;refine qN ?_;refine qC ?_;refine qB ?_;refine qI rfl (fun h8=>?_) (fun h8=>?_)
  ·try simp only [decide_eq_true_eq] at h8
   try simp only [zds] at h8
   refine qC ?_;refine qB ?_;refine Or.inr (Or.inl (zei [] (zei [0,1] (zei _ (zei _ (zei _ (zei _ (zei _ (zai (h) (zai rfl (zai (zai (zai rfl rfl) (zai (zai rfl rfl) True.intro)) (zai rfl ?_))))))))))));refine qL ?_;exact ⟨rfl,⟨rfl,rfl⟩,rfl⟩
  ·try simp only [decide_eq_false_iff_not] at h8
   try simp only [zds] at h8
   simp at h8
theorem oneIns_f {κ : Nat} (L L' : Lst) (a9 k9 : Int) (k id m : Int) (f : List Fld) (h1 : k ≠ 1) (h2 : k ≠ 2) (h : qU Tryz.prog 85 [.one (.own 0 0),ii .i64 id,.one (.slk κ rFld f)] (lsO L) 2 (.tup [(false,[.lit (.int .i64 m)]),(false,[errF a9 k9])]) (lsO L') 2) : qU Tryz.prog 52 [.one (.own 0 0),.agg (toL (rEdk κ) (k,id,f))] (lsO L) 2 (.tup [(false,[.lit (.int .i64 m)]),(false,[errF a9 k9])]) (lsO L') 2:=by
  refine qQ (rs:=[4,5]) Tryz.func52 rfl rfl rfl teOk (by decide) rfl ?_;refine qC ?_;refine qB ?_;refine qC ?_;refine qC ?_;refine qB ?_;refine qN ?_;refine qC ?_;refine qB ?_;refine qI rfl (fun h8=>?_) (fun h8=>?_)
  ·try simp only [decide_eq_true_eq] at h8
   try simp only [zds] at h8
   exact absurd h8 h1
  ·try simp only [decide_eq_false_iff_not] at h8
   try simp only [zds] at h8
   refine qC ?_;refine qB ?_;refine qI rfl (fun h16=>?_) (fun h16=>?_)
   ·try simp only [decide_eq_true_eq] at h16
    try simp only [zds] at h16
    exact absurd h16 h2
   ·try simp only [decide_eq_false_iff_not] at h16
    try simp only [zds] at h16
    refine qM ?_;refine qC ?_;refine qB ?_;refine Or.inr (Or.inl (zei [] (zei [0,1] (zei _ (zei _ (zei _ (zei _ (zei _ (zai (h) (zai rfl (zai (zai (zai rfl rfl) (zai (zai rfl rfl) True.intro)) (zai rfl ?_))))))))))));refine qL ?_;exact ⟨rfl,⟨rfl,rfl⟩,rfl⟩
theorem one_cases {κ c : Nat} {L : Lst} (h : LOk c L) (hc : c ≤ 200000) (e : Edt) (hf : qT e.2.2) :
    (oneN L e = 0 ∧ qU Tryz.prog 52 [.one (.own 0 0),.agg (toL (rEdk κ) e)] (lsO L) 2 (.tup [(false,[.lit (.int .i64 (newN L e))]),(false,[.lit .nilIface])]) (lsO (doL L e)) 2) ∨
    (∃ k9,k9 ≠ 0 ∧ oneN L e = k9 ∧ qU Tryz.prog 52 [.one (.own 0 0),.agg (toL (rEdk κ) e)] (lsO L) 2 (.tup [(false,[.lit (.int .i64 0)]),(false,[errN k9])]) (lsO L) 2) ∨
    (∃ a9 k9,k9 ≠ 0 ∧ oneN L e = k9 ∧ qU Tryz.prog 52 [.one (.own 0 0),.agg (toL (rEdk κ) e)] (lsO L) 2 (.tup [(false,[.lit (.int .i64 0)]),(false,[errF a9 k9])]) (lsO L) 2):=by
  obtain ⟨es,n,m⟩:=L;obtain ⟨k,id,f⟩:=e;have hmany:=h.many;have hnx:=h.next;have hln:=h.len;have hids:=ids_len es;have hil:=List.length_filter_le live es;simp only at hmany hnx hln hf;unfold newN oneN doL;simp only
  by_cases h1 : k = 1
  · subst h1;simp only [if_pos,true_or]
    by_cases h0 : atE es id < 0
    · simp only [if_pos h0];exact .inr (.inl ⟨7,by decide,rfl,oneRep_n _ _ 7 id f (lRep_no es n m id f h0)⟩)
    · simp only [if_neg h0]
      by_cases hck : (chkR f).2 ≠ 0
      · have hb:=lRep_bad (κ:=κ) es n m id f (by omega) hf hck;rcases chk_shape hck with ⟨k9,g1,g2,g3,g4⟩|⟨a9,k9,g1,g2,g3,g4⟩
        · rw [g1] at hb;exact .inr (.inl ⟨k9,g2,g4.symm,oneRep_n _ _ k9 id f hb⟩)
        · rw [g1] at hb;exact .inr (.inr ⟨a9,k9,g2,g4.symm,oneRep_f _ _ a9 k9 id f hb⟩)
      · have hck' : (chkR f).2 = 0:=Classical.not_not.1 hck;simp only [if_neg hck];obtain ⟨i,hi,he,_,_⟩:=at_lt h0;rw [he,Int.toNat_natCast];exact .inl ⟨hck',oneRep_z _ _ id f (lRep_ok es n m id f i hi he hf hck')⟩
  · by_cases h2 : k = 2
    · subst h2;simp only [if_neg (show ¬ (2 : Int) = 1 by decide),if_pos,or_true]
      by_cases h0 : atE es id < 0
      · simp only [if_pos h0];exact .inr (.inl ⟨7,by decide,rfl,oneDel_n _ _ 7 id f (lDel_no es n m id h0)⟩)
      · simp only [if_neg h0];obtain ⟨i,hi,he,_,_⟩:=at_lt h0;rw [he,Int.toNat_natCast];exact .inl ⟨trivial,oneDel_z _ _ id f (lDel_ok es n m id i hi he (by omega) (by omega))⟩
    · simp only [if_neg h1,if_neg h2,if_neg (show ¬ (k = 1 ∨ k = 2) from fun h=>h.elim h1 h2)]
      by_cases h0 : atE es id < 0 ∧ id ≠ 0
      · simp only [if_pos h0];exact .inr (.inl ⟨7,by decide,rfl,oneIns_n _ _ 7 k id 0 f h1 h2 (lIns_no es n m id f h0.1 h0.2)⟩)
      · simp only [if_neg h0]
        by_cases hck : (chkR f).2 ≠ 0
        · have hb:=lIns_bad (κ:=κ) es n m id f h0 hf hck;simp only [if_pos hck];rcases chk_shape hck with ⟨k9,g1,g2,g3,g4⟩|⟨a9,k9,g1,g2,g3,g4⟩
          · rw [g1] at hb;exact .inr (.inl ⟨k9,g2,g4.symm,oneIns_n _ _ k9 k id 0 f h1 h2 hb⟩)
          · rw [g1] at hb;exact .inr (.inr ⟨a9,k9,g2,g4.symm,oneIns_f _ _ a9 k9 k id 0 f h1 h2 hb⟩)
        · have hck' : (chkR f).2 = 0:=Classical.not_not.1 hck;simp only [if_neg hck]
          by_cases h4 : 400 ≤ m
          · simp only [if_pos h4];exact .inr (.inl ⟨11,by decide,rfl,oneIns_n _ _ 11 k id 0 f h1 h2 (lIns_full es n m id f h0 hf hck' h4)⟩)
          · simp only [if_neg h4];obtain ⟨j,hj,hje⟩ : ∃ j : Nat,j ≤ es.length ∧ atE es id + 1 = (j : Int):=by
              rcases at_cases es id with ⟨h1,_⟩|⟨i,h1,h2,_⟩
              · exact ⟨0,Nat.zero_le _,by omega⟩
              · exact ⟨i + 1,by omega,by omega⟩
            rw [hje,Int.toNat_natCast];exact .inl ⟨trivial,oneIns_z _ _ k id n f h1 h2 (lIns_ok es n m id f j hj h0 hje hf hck' (by omega) (by omega) (by omega))⟩
theorem doN_c {κ κ' k : Nat} (L : Lst) (s : List Edt) (hf : ∀ e ∈ s,qT e.2.2) (hl : s.length ≤ 1000000) (n : Int) (hn : n ≠ 0) (h : chkB s = (-9,n)) : qR Tryz.prog 13 [.one (.adk k (rLst k) L),.one (.slk κ (rEdk κ') s)] (.tup [(false,[.lit (.pointer none)]),(false,[.lit (.slice none 0 0)]),(false,[errN n])]):=by
  have hk:=check_c9 (κ:=κ) (κ':=κ') s hf hl;rw [h,erB_n hn] at hk;refine qP (rs:=[4,5,6]) Tryz.func13 rfl rfl rfl teOk rfl ?_;refine qC ?_;refine qB ?_;refine qC ?_;refine qC ?_;refine qB ?_;refine Or.inl ?_;refine zai (rfl) ?_;refine zei _ (zai (hk) ?_);refine qC ?_;refine qB ?_;refine qI rfl (fun h17=>?_) (fun h17=>?_)
  ·skip
   refine qC ?_;refine qB ?_;refine qL ?_;rfl
  ·try simp only [zbq] at h17
   try simp only [zds] at h17
   simp at h17
theorem doF_c {κ κ' k : Nat} (L : Lst) (s : List Edt) (hf : ∀ e ∈ s,qT e.2.2) (hl : s.length ≤ 1000000) (i : Nat) (n : Int) (hn : n ≠ 0) (h : chkB s = ((i : Int),n)) : qR Tryz.prog 13 [.one (.adk k (rLst k) L),.one (.slk κ (rEdk κ') s)] (.tup [(false,[.lit (.pointer none)]),(false,[.lit (.slice none 0 0)]),(false,[errF i n])]):=by
  have hk:=check_c9 (κ:=κ) (κ':=κ') s hf hl;rw [h,erB_f hn] at hk;refine qP (rs:=[4,5,6]) Tryz.func13 rfl rfl rfl teOk rfl ?_;refine qC ?_;refine qB ?_;refine qC ?_;refine qC ?_;refine qB ?_;refine Or.inl ?_;refine zai (rfl) ?_;refine zei _ (zai (hk) ?_);refine qC ?_;refine qB ?_;refine qI rfl (fun h17=>?_) (fun h17=>?_)
  ·skip
   refine qC ?_;refine qB ?_;refine qL ?_;rfl
  ·try simp only [zbq] at h17
   try simp only [zds] at h17
   simp at h17
theorem lsbox0_eq {L M : Lst} (h : M = L) : some (Ob.box 116 [.vec 0,.lit (.int .i64 L.2.1),.lit (.int .i64 L.2.2)]) = some (Ob.box 116 [.vec 0,.lit (.int .i64 M.2.1),.lit (.int .i64 M.2.2)]):=by rw [h]
theorem took {c : Nat} {L : Lst} {s : List Edt} (h : LOk c L) (hf : ∀ e ∈ s,qT e.2.2) {i : Nat} (hi : i < s.length) : LOk (c + i) (yN L s i) ∧ qT (s.getD i ((0 : Int),(0 : Int),([] : List Fld))).2.2:=⟨plays_ok h hf i (by omega),hf _ (yY hi ((0 : Int),(0 : Int),([] : List Fld)))⟩
theorem doBad_c {κ κ' k c : Nat} (L : Lst) (s : List Edt) (hL : LOk c L) (hc : c + s.length ≤ 200000) (hf : ∀ e ∈ s,qT e.2.2) (h : (chkB s).2 = 0) (q : Nat) (hq : q < s.length) (hb : oneN (yN L s q) (s.getD q ((0 : Int),(0 : Int),([] : List Fld))) ≠ 0) (ht : ∀ j,j < q → oneN (yN L s j) (s.getD j ((0 : Int),(0 : Int),([] : List Fld))) = 0) :
    qR Tryz.prog 13 [.one (.adk k (rLst k) L),.one (.slk κ (rEdk κ') s)] (.tup [(false,[.lit (.pointer none)]),(false,[.lit (.slice none 0 0)]),(false,[errF q (oneN (yN L s q) (s.getD q ((0 : Int),(0 : Int),([] : List Fld))))])]):=by
  obtain ⟨hln,hgd⟩:=chkB_zero h;have hk:=check_c9 (κ:=κ) (κ':=κ') s hf (by omega);rw [chkB_good h,erB_z] at hk;have hlen:=hL.len;have hcp:=copyL_o (k:=k) L.1 L.2.1 L.2.2 (by omega);refine qP (rs:=[4,5,6]) Tryz.func13 rfl rfl rfl teOk rfl ?_;refine qC ?_;refine qB ?_;refine qC ?_;refine qC ?_;refine qB ?_;refine Or.inl ?_;refine zai (rfl) ?_;refine zei _ (zai (hk) ?_);refine qC ?_;refine qB ?_;refine qI rfl (fun h17=>?_) (fun h17=>?_)
  ·try simp only [Bool.not_eq_true'] at h17
   try simp only [zds] at h17
   cases h17
  ·try simp only [Bool.not_eq_false'] at h17
   try simp only [zds] at h17
   refine qM ?_;refine qC ?_;refine qB ?_;refine Or.inr (Or.inl (zei [] (zei [] (zei _ (zei _ (zei _ (zei _ (zei _ (zai (hcp) (zai rfl (zai True.intro (zai rfl ?_))))))))))));refine qC ?_;refine qB ?_;refine qC ?_;refine qC ?_;refine xI 9 3 (.int .i64) rfl ?_;refine qB ?_;intro l6_1
   try simp only [zds] at l6_1
   refine qN ?_;refine qX (fun (i : Nat)=>i ≤ q) (fun (i : Nat)=>[(8,.one (.own 1 0)),(9,.one (.vec 2)),(21,.one (.slk κ (rEdk κ') s)),(22,ii .i64 s.length),(23,ii .i64 i)]) (fun (i : Nat)=>[(0,.vec 111 rEnt (yN L s i).1),(1,.box 116 [.vec 0,.lit (.int .i64 (yN L s i).2.1),.lit (.int .i64 (yN L s i).2.2)]),(2,.vec 3 (.int .i64) (idsT L s i))]) 3 (fun (i : Nat)=>q - i) 0 (Nat.zero_le _) (qV ⟨rfl,rfl,rfl,rfl,rfl⟩ ⟨rfl,rfl,rfl⟩ rfl) ?_;intro i hI0;refine qC ?_;refine qB ?_;refine qC ?_;refine qI rfl (fun h24=>?_) (fun h24=>?_)
   ·try simp only [decide_eq_true_eq] at h24
    try simp only [zds] at h24
    have hil : i < s.length:=(by omega);obtain ⟨hLi,hfe⟩:=took hL hf hil;have hsn:=plays_snoc L hil;have hin:=idsT_snoc L s i;have hilen:=idsT_len L s i;refine qM ?_;refine qC ?_;refine qN ?_;refine qC ?_;refine qB ?_;refine zai (by first|omega|assumption|decide|(simp only [zds];omega)|(simp <;> omega)) ?_;refine qC ?_;rcases one_cases (κ:=κ') hLi (by omega) (s.getD i ((0 : Int),(0 : Int),([] : List Fld))) hfe with ⟨hz,ho⟩|⟨n,hn,hz,ho⟩|⟨a,n,hn,hz,ho⟩
    ·refine qB ?_;refine Or.inr (Or.inl (zei [] (zei [1,0] (zei _ (zei _ (zei _ (zei _ (zei _ (zai (ho) (zai rfl (zai (zai (zai rfl rfl) (zai (zai rfl rfl) True.intro)) (zai rfl ?_))))))))))));refine qC ?_;refine qC ?_;refine qB ?_;refine qI rfl (fun h35=>?_) (fun h35=>?_)
     ·try simp only [Bool.not_eq_true'] at h35
      try simp only [zds] at h35
      cases h35
     ·try simp only [Bool.not_eq_false'] at h35
      try simp only [zds] at h35
      have hlt : i < q:=(by rcases Nat.lt_or_ge i q with h1|h1;exact h1;have e1 : i = q:=(by omega);rw [e1] at hz;exact absurd hz hb);refine qM ?_;refine qC ?_;refine qB ?_;refine qI rfl (fun h40=>?_) (fun h40=>?_)
      ·try simp only [decide_eq_true_eq] at h40
       try simp only [zds] at h40
       refine qB ?_;refine zai (by first|exact qW (by first|omega|(simp only [List.length_cons,List.length_nil];omega)|(simp;omega)) (by decide)|omega|assumption|decide|(simp only [zds];omega)|(simp <;> omega)) ?_;refine qB ?_;refine zai (by first|omega|assumption|decide|(simp only [zds];omega)|(simp <;> omega)) ?_;exact ⟨i + 1,by omega,by first|omega|(simp <;> omega),qV ⟨rfl,rfl,rfl,rfl,(yW (by omega))⟩ ⟨(lsvec_eq hsn),(lsbox0_eq hsn),(xM (by rw [hin,if_pos (by omega)];try exact rfl))⟩ rfl⟩
      ·try simp only [decide_eq_false_iff_not,Int.not_lt] at h40
       try simp only [zds] at h40
       refine qM ?_;refine qB ?_;refine zai (by first|omega|assumption|decide|(simp only [zds];omega)|(simp <;> omega)) ?_;exact ⟨i + 1,by omega,by first|omega|(simp <;> omega),qV ⟨rfl,rfl,rfl,rfl,(yW (by omega))⟩ ⟨(lsvec_eq hsn),(lsbox0_eq hsn),(xM (by rw [hin,if_neg (by omega),List.append_nil]))⟩ rfl⟩
    ·refine qB ?_;refine Or.inr (Or.inl (zei [] (zei [1,0] (zei _ (zei _ (zei _ (zei _ (zei _ (zai (ho) (zai rfl (zai (zai (zai rfl rfl) (zai (zai rfl rfl) True.intro)) (zai rfl ?_))))))))))));refine qC ?_;refine qC ?_;refine qB ?_;refine qI rfl (fun h35=>?_) (fun h35=>?_)
     ·skip
      have hiq : i = q:=(by rcases Nat.lt_or_ge i q with h1|h1;exact absurd ((ht i h1).symm.trans hz) (by omega);omega);subst hiq;refine qC ?_;refine qB ?_;refine Or.inl ?_;refine zai (rfl) ?_;refine zei _ (zai (faultN_c i n) ?_);refine qL ?_;rw [hz];exact rfl
     ·try simp only [zbq] at h35
      try simp only [zds] at h35
      simp at h35
    ·refine qB ?_;refine Or.inr (Or.inl (zei [] (zei [1,0] (zei _ (zei _ (zei _ (zei _ (zei _ (zai (ho) (zai rfl (zai (zai (zai rfl rfl) (zai (zai rfl rfl) True.intro)) (zai rfl ?_))))))))))));refine qC ?_;refine qC ?_;refine qB ?_;refine qI rfl (fun h35=>?_) (fun h35=>?_)
     ·skip
      have hiq : i = q:=(by rcases Nat.lt_or_ge i q with h1|h1;exact absurd ((ht i h1).symm.trans hz) (by omega);omega);subst hiq;refine qC ?_;refine qB ?_;refine Or.inl ?_;refine zai (rfl) ?_;refine zei _ (zai (faultF_c i a n) ?_);refine qL ?_;rw [hz];exact rfl
     ·try simp only [zbq] at h35
      try simp only [zds] at h35
      simp at h35
   ·try simp only [decide_eq_false_iff_not,Int.not_lt] at h24
    try simp only [zds] at h24
    omega
theorem doOk_o {κ κ' k c : Nat} (L : Lst) (s : List Edt) (hL : LOk c L) (hc : c + s.length ≤ 200000) (hf : ∀ e ∈ s,qT e.2.2) (h : (chkB s).2 = 0) (ht : ∀ j,j < s.length → oneN (yN L s j) (s.getD j ((0 : Int),(0 : Int),([] : List Fld))) = 0) :
    qU Tryz.prog 13 [.one (.adk k (rLst k) L),.one (.slk κ (rEdk κ') s)] [] 0 (.tup [(false,[.own 1 0]),(false,[.sl (.int .i64) (idsT L s s.length)]),(false,[.lit .nilIface])]) [(1,.box 116 [.vec 0,.lit (.int .i64 (yN L s s.length).2.1),.lit (.int .i64 (yN L s s.length).2.2)]),(0,.vec 111 rEnt (yN L s s.length).1)] 2:=by
  obtain ⟨hln,hgd⟩:=chkB_zero h;have hk:=check_c9 (κ:=κ) (κ':=κ') s hf (by omega);rw [chkB_good h,erB_z] at hk;have hlen:=hL.len;have hcp:=copyL_o (k:=k) L.1 L.2.1 L.2.2 (by omega);refine qQ (rs:=[4,5,6]) Tryz.func13 rfl rfl rfl teOk (by decide) rfl ?_;refine qC ?_;refine qB ?_;refine qC ?_;refine qC ?_;refine qB ?_;refine Or.inl ?_;refine zai (rfl) ?_;refine zei _ (zai (hk) ?_);refine qC ?_;refine qB ?_;refine qI rfl (fun h17=>?_) (fun h17=>?_)
  ·try simp only [Bool.not_eq_true'] at h17
   try simp only [zds] at h17
   cases h17
  ·try simp only [Bool.not_eq_false'] at h17
   try simp only [zds] at h17
   refine qM ?_;refine qC ?_;refine qB ?_;refine Or.inr (Or.inl (zei [] (zei [] (zei _ (zei _ (zei _ (zei _ (zei _ (zai (hcp) (zai rfl (zai True.intro (zai rfl ?_))))))))))));refine qC ?_;refine qB ?_;refine qC ?_;refine qC ?_;refine xI 9 3 (.int .i64) rfl ?_;refine qB ?_;intro l6_1
   try simp only [zds] at l6_1
   refine qN ?_;refine qX (fun (i : Nat)=>i ≤ s.length) (fun (i : Nat)=>[(8,.one (.own 1 0)),(9,.one (.vec 2)),(21,.one (.slk κ (rEdk κ') s)),(22,ii .i64 s.length),(23,ii .i64 i)]) (fun (i : Nat)=>[(0,.vec 111 rEnt (yN L s i).1),(1,.box 116 [.vec 0,.lit (.int .i64 (yN L s i).2.1),.lit (.int .i64 (yN L s i).2.2)]),(2,.vec 3 (.int .i64) (idsT L s i))]) 3 (fun (i : Nat)=>s.length - i) 0 (Nat.zero_le _) (qV ⟨rfl,rfl,rfl,rfl,rfl⟩ ⟨rfl,rfl,rfl⟩ rfl) ?_;intro i hI0;refine qC ?_;refine qB ?_;refine qC ?_;refine qI rfl (fun h24=>?_) (fun h24=>?_)
   ·try simp only [decide_eq_true_eq] at h24
    try simp only [zds] at h24
    have hil : i < s.length:=(by omega);obtain ⟨hLi,hfe⟩:=took hL hf hil;have hsn:=plays_snoc L hil;have hin:=idsT_snoc L s i;have hilen:=idsT_len L s i;refine qM ?_;refine qC ?_;refine qN ?_;refine qC ?_;refine qB ?_;refine zai (by first|omega|assumption|decide|(simp only [zds];omega)|(simp <;> omega)) ?_;refine qC ?_;rcases one_cases (κ:=κ') hLi (by omega) (s.getD i ((0 : Int),(0 : Int),([] : List Fld))) hfe with ⟨hz,ho⟩|⟨n,hn,hz,ho⟩|⟨a,n,hn,hz,ho⟩
    ·refine qB ?_;refine Or.inr (Or.inl (zei [] (zei [1,0] (zei _ (zei _ (zei _ (zei _ (zei _ (zai (ho) (zai rfl (zai (zai (zai rfl rfl) (zai (zai rfl rfl) True.intro)) (zai rfl ?_))))))))))));refine qC ?_;refine qC ?_;refine qB ?_;refine qI rfl (fun h35=>?_) (fun h35=>?_)
     ·try simp only [Bool.not_eq_true'] at h35
      try simp only [zds] at h35
      cases h35
     ·try simp only [Bool.not_eq_false'] at h35
      try simp only [zds] at h35
      refine qM ?_;refine qC ?_;refine qB ?_;refine qI rfl (fun h40=>?_) (fun h40=>?_)
      ·try simp only [decide_eq_true_eq] at h40
       try simp only [zds] at h40
       refine qB ?_;refine zai (by first|exact qW (by first|omega|(simp only [List.length_cons,List.length_nil];omega)|(simp;omega)) (by decide)|omega|assumption|decide|(simp only [zds];omega)|(simp <;> omega)) ?_;refine qB ?_;refine zai (by first|omega|assumption|decide|(simp only [zds];omega)|(simp <;> omega)) ?_;exact ⟨i + 1,by omega,by first|omega|(simp <;> omega),qV ⟨rfl,rfl,rfl,rfl,(yW (by omega))⟩ ⟨(lsvec_eq hsn),(lsbox0_eq hsn),(xM (by rw [hin,if_pos (by omega)];try exact rfl))⟩ rfl⟩
      ·try simp only [decide_eq_false_iff_not,Int.not_lt] at h40
       try simp only [zds] at h40
       refine qM ?_;refine qB ?_;refine zai (by first|omega|assumption|decide|(simp only [zds];omega)|(simp <;> omega)) ?_;exact ⟨i + 1,by omega,by first|omega|(simp <;> omega),qV ⟨rfl,rfl,rfl,rfl,(yW (by omega))⟩ ⟨(lsvec_eq hsn),(lsbox0_eq hsn),(xM (by rw [hin,if_neg (by omega),List.append_nil]))⟩ rfl⟩
    ·refine qB ?_;refine Or.inr (Or.inl (zei [] (zei [1,0] (zei _ (zei _ (zei _ (zei _ (zei _ (zai (ho) (zai rfl (zai (zai (zai rfl rfl) (zai (zai rfl rfl) True.intro)) (zai rfl ?_))))))))))));refine qC ?_;refine qC ?_;refine qB ?_;refine qI rfl (fun h35=>?_) (fun h35=>?_)
     ·skip
      exact absurd ((ht i hil).symm.trans hz) (by omega)
     ·try simp only [zbq] at h35
      try simp only [zds] at h35
      simp at h35
    ·refine qB ?_;refine Or.inr (Or.inl (zei [] (zei [1,0] (zei _ (zei _ (zei _ (zei _ (zei _ (zai (ho) (zai rfl (zai (zai (zai rfl rfl) (zai (zai rfl rfl) True.intro)) (zai rfl ?_))))))))))));refine qC ?_;refine qC ?_;refine qB ?_;refine qI rfl (fun h35=>?_) (fun h35=>?_)
     ·skip
      exact absurd ((ht i hil).symm.trans hz) (by omega)
     ·try simp only [zbq] at h35
      try simp only [zds] at h35
      simp at h35
   ·try simp only [decide_eq_false_iff_not,Int.not_lt] at h24
    try simp only [zds] at h24
    refine yA ?_;refine qC ?_;refine qB ?_;refine acode_frz [2] ?_;refine qL ?_;rw [show i = s.length by omega];exact ⟨rfl,⟨rfl,rfl⟩,rfl⟩
def unkR (l : List (List Fld)) : List (List (Unit × Unit)):=l.map fun r=>r.map fun _=>((),())
def plainI (x : Itm) : Bool:=decide ((chkR x.2.2).2 = 0) && decide (x.1 = 3) && decide (bytes (foldL x.2.2) = x.2.1)
abbrev rItmU : Rd (Int × ByteArray × List (Unit × Unit)):=.st (.int .i64) (.st .str (.slk 7 rUnk2))
def unkI (l : List Itm) : List (Int × ByteArray × List (Unit × Unit)):=l.map fun x=>(x.1,x.2.1,x.2.2.map fun _=>((),()))
abbrev rStzU : Rd (Int × List (Unit × Unit)):=.st (.int .i64) (.slk 7 rUnk2)
def unkS (l : List Stz) : List (Int × List (Unit × Unit)):=l.map fun x=>(x.1,x.2.map fun _=>((),()))
def BlankI (x : Itm) : Prop:=∃ t : ByteArray,x = (1,t ++ ⟨#[10]⟩,[]) ∧ yD (ls t) = 1 ∧ (10 : UInt8) ∉ ls t
def Good1 (x : Itm) : Prop:=BlankI x ∨ (x.1 ≠ 1 ∧ Blk x)
def BIP (p : PSt) : Prop:=(∀ x ∈ p.its,x.1 = 1 → BlankI x) ∧ p.recs = (cntR p.its : Int)
theorem isRec1 (t : ByteArray) : isRec (1,t,[]) = false:=by unfold isRec;simp
theorem close_bi {p : PSt} (h : BIP p) : BIP (xK p):=by
  unfold xK;split
  · exact h
  · by_cases hf : p.flds = []
    · simp only [if_pos hf];refine ⟨fun x hx hx1=>?_,?_⟩
      · rcases List.mem_append.1 hx with hx|hx
        · exact h.1 x hx hx1
        · rw [List.mem_singleton.1 hx] at hx1;cases hx1
      · simp only [cntR_app];rw [h.2];simp [cntR,isRec]
    · simp only [if_neg hf];refine ⟨fun x hx hx1=>?_,?_⟩
      · rcases List.mem_append.1 hx with hx|hx
        · exact h.1 x hx hx1
        · rw [List.mem_singleton.1 hx] at hx1;cases hx1
      · simp only [cntR_app];rw [h.2];simp [cntR,isRec]
theorem flush_bi {p q : PSt} (h : BIP p) (hf : yH p = .inr q) : BIP q:=by
  unfold BIP;rw [(flush_same hf).1,flush_recs hf];exact h
theorem end_bi {p q : PSt} (h : BIP p) (hf : endS p = .inr q) : BIP q:=by
  unfold endS at hf;cases e : yH p with
  | inl x=>rw [e] at hf;cases hf
  | inr r=>rw [e] at hf;cases hf;exact close_bi (flush_bi h e)
theorem take_bi {p q : PSt} {l : Lne} (h : BIP p) (hf : yL p l = .inr q) (hn : (10 : UInt8) ∉ ls l.2.2.1) : BIP q:=by
  unfold yL at hf;cases e : yJ p l (yD (ls l.2.2.1)) with
  | inl x=>rw [e] at hf;cases hf
  | inr r =>
    rw [e] at hf;have hr : BIP r:=by
      unfold yJ at e;split at e
      · split at e
        · cases e
        · split at e
          · cases e;exact h
          · exact flush_bi (p:={ p with lns:=p.lns ++ [l.2.2.1] }) h e
      · split at e
        · exact end_bi h e
        · exact flush_bi h e
    simp only at hf;unfold lineS at hf;split at hf
    · cases hf
    · split at hf
      · rename_i hk;cases hf;refine ⟨fun x hx hx1=>?_,?_⟩
        · rcases List.mem_append.1 hx with hx|hx
          · exact hr.1 x hx hx1
          · exact ⟨l.2.2.1,List.mem_singleton.1 hx,hk,hn⟩
        · simp only [cntR_app];rw [hr.2];simp [cntR,isRec1]
      · split at hf
        · cases hf;exact hr
        · cases hf;exact hr
theorem run_bi : ∀ (L : List Lne) (p q : PSt),BIP p → runS p L = .inr q → (∀ l ∈ L,(10 : UInt8) ∉ ls l.2.2.1) → BIP q
  | [],p,q,hp,h,_=>by cases h;exact hp
  | l :: r,p,q,hp,h,hn=>by
    simp only [runS] at h;cases e : yL p l with
    | inl x=>rw [e] at h;cases h
    | inr p1 =>
      rw [e] at h;exact run_bi r p1 q (take_bi hp e (hn l List.mem_cons_self)) h (fun x hx=>hn x (List.mem_cons_of_mem _ hx))
theorem parse_good {s : ByteArray} {l : List Itm} (hp : yO s = .inr l) : (∀ x ∈ l,Good1 x) ∧ cntR l ≤ 400:=by
  have hb:=parse_blks hp;unfold yO at hp;cases e : runS pst0 (yQ s) with
  | inl x=>rw [e] at hp;cases hp
  | inr p =>
    rw [e] at hp;simp only at hp;cases e2 : endS p with
    | inl x=>rw [e2] at hp;cases hp
    | inr q =>
      rw [e2] at hp;cases hp;have hno : ∀ l ∈ yQ s,(10 : UInt8) ∉ ls l.2.2.1:=fun l hl=>by
        have h1 : l.2.2 ∈ (yQ s).map (·.2.2):=List.mem_map_of_mem hl;rw [lines_text] at h1;exact linesB_no _ _ _ h1
      have h1 : BIP q:=end_bi (run_bi _ _ _ ⟨(fun _ h=>by cases h),rfl⟩ e hno) e2;have h2:=(end_par (run_par _ _ _ ⟨[],0,[],pst0,rel_0,rfl,rfl,rfl,(fun _ h=>by cases h),(fun _ h=>by cases h)⟩ e hno) e2).2.2.2;refine ⟨fun x hx=>?_,by have:=h1.2;omega⟩
      by_cases hx1 : x.1 = 1
      · exact .inl (h1.1 x hx hx1)
      · exact .inr ⟨hx1,hb x hx hx1⟩
def HF (p : PSt) : Prop:=p.lns ≠ [] ∨ p.flds ≠ []
structure LGd (B : Nat) (L : Lst) : Prop where
  good : ∀ e ∈ L.1,Good1 e.1 ∧ isRec e.1 = live e
  m4 : L.2.2 ≤ 400
  sz : szI (itmL L.1) ≤ B
theorem num_good : ∀ (l : List Itm) (n : Int),1 ≤ n → (∀ x ∈ l,Good1 x) → ∀ e ∈ numI n l,Good1 e.1 ∧ isRec e.1 = live e
  | [],_,_,_,e,he=>by cases he
  | x :: r,n,hn,hg,e,he=>by
    unfold numI at he;split at he
    · rename_i hr;rcases List.mem_cons.1 he with rfl|he
      · refine ⟨hg x List.mem_cons_self,?_⟩;rw [hr];unfold live;rw [decide_eq_true (by simp only;omega)]
      · exact num_good r (n + 1) (by omega) (fun y hy=>hg y (List.mem_cons_of_mem _ hy)) e he
    · rename_i hr;rcases List.mem_cons.1 he with rfl|he
      · refine ⟨hg x List.mem_cons_self,?_⟩;rw [hr];rfl
      · exact num_good r n hn (fun y hy=>hg y (List.mem_cons_of_mem _ hy)) e he
theorem ofT_gd {s : ByteArray} {l : List Itm} (hp : yO s = .inr l) : LGd s.size (ofT l):=by
  obtain ⟨h1,h2⟩:=parse_good hp;refine ⟨num_good l 1 (Int.le_refl _) h1,by show (cntR l : Int) ≤ 400;omega,?_⟩;show szI (itmL (numI 1 l)) ≤ _;unfold itmL;rw [numI_items];have h3:=raws_text hp;rw [← raws_sz,← h3,yV];exact Nat.le_refl _
abbrev zRL9 : List C:=[.lit (.slice none 0 0),.lit (.int .i64 0)]
abbrev lsO12 (L : Lst) : Obs:=[(1,.box 116 [.vec 2,.lit (.int .i64 L.2.1),.lit (.int .i64 L.2.2)]),(2,.vec 111 rEnt L.1)]
def getF (L : Lst) (id : Int) : Option (List Fld):=if atE L.1 id < 0 then none else some (getL L.1 id)
theorem stz_app (a b : List Ent) : stzL (a ++ b) = stzL a ++ stzL b:=by unfold stzL;rw [List.filter_append,List.map_append]
theorem stz_cons (e : Ent) (b : List Ent) : stzL (e :: b) = if live e then stzOf e :: stzL b else stzL b:=by
  unfold stzL;rw [List.filter_cons];split <;> rfl
theorem stz_num {es : List Ent} {x : Stz} (h : x ∈ stzL es) : x.1 ∈ nmsL es:=by
  rw [← ids_eq];unfold stzL at h;obtain ⟨e,he,rfl⟩:=List.mem_map.1 h;exact List.mem_map_of_mem he
theorem getF_at {L : Lst} {i : Nat} {id : Int} (hi : i < L.1.length) (he : atE L.1 id = i) : getF L id = some (L.1.getD i (((0 : Int),ByteArray.empty,([] : List Fld)),(0 : Int))).1.2.2:=by
  unfold getF getL;rw [if_neg (by omega),he,Int.toNat_natCast]
theorem getF_no {L : Lst} {id : Int} (h : atE L.1 id < 0) : getF L id = none:=if_pos h
theorem getF_iff {c : Nat} {L : Lst} (h : LOk c L) (id : Int) (f : List Fld) : getF L id = some f ↔ (id,f) ∈ stzL L.1:=by
  rcases at_cases L.1 id with ⟨h1,h2⟩|⟨i,h1,h2,h3,h4,h5⟩
  · rw [getF_no (by rw [h1];decide)];refine ⟨fun e=>(by cases e),fun hm=>?_⟩;unfold stzL at hm;obtain ⟨e,he,hx⟩:=List.mem_map.1 hm;have hl:=(List.mem_filter.1 he).2;have hx1 : e.2 = id:=congrArg Prod.fst hx;exact absurd hx1 (h2 e (List.mem_filter.1 he).1 (by rw [← hx1];exact of_decide_eq_true hl))
  · rw [getF_at h1 h2];have hsp:=del_split h1;have hlv : live (L.1.getD i (((0 : Int),ByteArray.empty,([] : List Fld)),(0 : Int))) = true:=decide_eq_true (by rw [h4];exact h3);have hst : stzL L.1 = stzL (L.1.take i) ++ stzOf (L.1.getD i (((0 : Int),ByteArray.empty,([] : List Fld)),(0 : Int))) :: stzL (L.1.drop (i + 1)):=by
      conv=>lhs;rw [hsp,stz_app,stz_cons,if_pos hlv]
    have hnm : nmsL L.1 = nmsL (L.1.take i) ++ id :: nmsL (L.1.drop (i + 1)):=by
      conv=>lhs;rw [hsp,ids_app,ids_cons,h4,if_pos h3]
    have hn:=h.nd;rw [hnm] at hn;obtain ⟨n1,n2,n3⟩:=List.nodup_append.1 hn;rw [hst];refine ⟨fun e=>?_,fun hm=>?_⟩
    · refine List.mem_append_right _ (List.mem_cons.2 (.inl ?_));rw [← Option.some.inj e,← h4];rfl
    · rcases List.mem_append.1 hm with hm|hm
      · exact absurd rfl (n3 _ (stz_num hm) _ List.mem_cons_self)
      · rcases List.mem_cons.1 hm with hm|hm
        · rw [show f = _ from congrArg Prod.snd hm];rfl
        · exact absurd (stz_num hm) (List.nodup_cons.1 n2).1
theorem getF_pos {c : Nat} {L : Lst} (h : LOk c L) {id : Int} (hg : getF L id ≠ none) : 0 < id ∧ id < L.2.1 ∧ ¬ atE L.1 id < 0:=by
  rcases at_cases L.1 id with ⟨h1,_⟩|⟨i,h1,h2,h3,h4,_⟩
  · exact absurd (getF_no (by rw [h1];decide)) hg
  · refine ⟨h3,?_,by omega⟩;have:=(h.ids _ (yY h1 (((0 : Int),ByteArray.empty,([] : List Fld)),(0 : Int)))).2;rw [h4] at this;exact this
theorem getF_some {L : Lst} {id : Int} (h : ¬ atE L.1 id < 0) : getF L id ≠ none:=by unfold getF;rw [if_neg h];exact fun e=>by cases e
theorem step_rep {c : Nat} {L : Lst} {e : Edt} (h : LOk c L) (hf : qT e.2.2) (h1 : e.1 = 1) (h0 : oneN L e = 0) :
    (∀ j,getF (doL L e) j = if j = e.2.1 then some e.2.2 else getF L j) ∧ (doL L e).2 = L.2 ∧ getF L e.2.1 ≠ none ∧ (chkR e.2.2).2 = 0:=by
  have hk:=doL_ok h hf;unfold oneN at h0;rw [if_pos h1] at h0
  by_cases hat : atE L.1 e.2.1 < 0
  · rw [if_pos hat] at h0;cases h0
  · rw [if_neg hat] at h0;obtain ⟨i,hi,he,hp,hid⟩:=at_lt hat;have hd : doL L e = (replE L.1 i (itmOf e.2.2),L.2):=by
      unfold doL;rw [if_pos h1,if_neg hat,if_neg (by omega),he,Int.toNat_natCast]
    refine ⟨fun j=>?_,by rw [hd],getF_some hat,h0⟩;have hsp:=del_split hi;have hre : replE L.1 i (itmOf e.2.2) = L.1.take i ++ (itmOf e.2.2,e.2.1) :: L.1.drop (i + 1):=by
      unfold replE;rw [List.set_eq_take_append_cons_drop,if_pos hi,hid]
    have hst : stzL L.1 = stzL (L.1.take i) ++ stzOf (L.1.getD i (((0 : Int),ByteArray.empty,([] : List Fld)),(0 : Int))) :: stzL (L.1.drop (i + 1)):=by
      conv=>lhs;rw [hsp,stz_app,stz_cons,if_pos (show live (L.1.getD i (((0 : Int),ByteArray.empty,([] : List Fld)),(0 : Int))) = true from decide_eq_true (by rw [hid];exact hp))]
    have hst2 : stzL (doL L e).1 = stzL (L.1.take i) ++ (e.2.1,e.2.2) :: stzL (L.1.drop (i + 1)):=by
      rw [hd];show stzL (replE L.1 i (itmOf e.2.2)) = _;rw [hre,stz_app,stz_cons,if_pos (show live (itmOf e.2.2,e.2.1) = true from decide_eq_true hp)];rfl
    by_cases hj : j = e.2.1
    · rw [if_pos hj,hj,getF_iff hk,hst2];exact List.mem_append_right _ List.mem_cons_self
    · rw [if_neg hj];refine Option.ext fun f=>?_
      rw [getF_iff hk,getF_iff h,hst,hst2];simp only [List.mem_append,List.mem_cons];refine ⟨fun h=>h.imp id (Or.imp (fun e=>absurd (congrArg Prod.fst e) hj) id),fun h=>h.imp id (Or.imp (fun e=>absurd ((congrArg Prod.fst e).trans hid) hj) id)⟩
theorem step_del {c : Nat} {L : Lst} {e : Edt} (h : LOk c L) (hf : qT e.2.2) (h1 : e.1 = 2) (h0 : oneN L e = 0) :
    (∀ j,getF (doL L e) j = if j = e.2.1 then none else getF L j) ∧ (doL L e).2.1 = L.2.1 ∧ (doL L e).2.2 = L.2.2 - 1 ∧ getF L e.2.1 ≠ none:=by
  have hk:=doL_ok h hf;unfold oneN at h0;rw [if_neg (by omega),if_pos h1] at h0
  by_cases hat : atE L.1 e.2.1 < 0
  · rw [if_pos hat] at h0;cases h0
  · obtain ⟨i,hi,he,hp,hid⟩:=at_lt hat;have hd : doL L e = (delE L.1 i,L.2.1,L.2.2 - 1):=by
      unfold doL;rw [if_neg (by omega),if_pos h1,if_neg hat,he,Int.toNat_natCast]
    refine ⟨fun j=>?_,by rw [hd],by rw [hd],getF_some hat⟩;have hsp:=del_split hi;have hst : stzL L.1 = stzL (L.1.take i) ++ stzOf (L.1.getD i (((0 : Int),ByteArray.empty,([] : List Fld)),(0 : Int))) :: stzL (L.1.drop (i + 1)):=by
      conv=>lhs;rw [hsp,stz_app,stz_cons,if_pos (show live (L.1.getD i (((0 : Int),ByteArray.empty,([] : List Fld)),(0 : Int))) = true from decide_eq_true (by rw [hid];exact hp))]
    have hst2 : stzL (doL L e).1 = stzL (L.1.take i) ++ stzL (L.1.drop (i + 1)):=by
      rw [hd];exact stz_app _ _
    have hnm : nmsL L.1 = nmsL (L.1.take i) ++ e.2.1 :: nmsL (L.1.drop (i + 1)):=by
      conv=>lhs;rw [hsp,ids_app,ids_cons,hid,if_pos hp]
    have hn:=h.nd;rw [hnm] at hn;obtain ⟨n1,n2,n3⟩:=List.nodup_append.1 hn;refine Option.ext fun f=>?_
    rw [getF_iff hk,hst2]
    by_cases hj : j = e.2.1
    · rw [if_pos hj,List.mem_append];refine ⟨fun hm=>?_,fun e=>by cases e⟩;rw [hj] at hm;rcases hm with hm|hm
      · exact absurd rfl (n3 _ (stz_num hm) _ List.mem_cons_self)
      · exact absurd (stz_num hm) (List.nodup_cons.1 n2).1
    · rw [if_neg hj,getF_iff h,hst];simp only [List.mem_append,List.mem_cons];exact ⟨fun h=>h.imp id .inr,fun h=>h.imp id fun h=>h.elim (fun e=>absurd ((congrArg Prod.fst e).trans hid) hj) id⟩
theorem step_ins {c : Nat} {L : Lst} {e : Edt} (h : LOk c L) (hf : qT e.2.2) (h1 : e.1 ≠ 1) (h2 : e.1 ≠ 2) (h0 : oneN L e = 0) :
    (∀ j,getF (doL L e) j = if j = L.2.1 then some e.2.2 else getF L j) ∧ (doL L e).2.1 = L.2.1 + 1 ∧ (doL L e).2.2 = L.2.2 + 1 ∧ (e.2.1 = 0 ∨ getF L e.2.1 ≠ none) ∧ (chkR e.2.2).2 = 0:=by
  have hk:=doL_ok h hf;unfold oneN at h0;rw [if_neg h1,if_neg h2] at h0
  by_cases hat : atE L.1 e.2.1 < 0 ∧ e.2.1 ≠ 0
  · rw [if_pos hat] at h0;cases h0
  · rw [if_neg hat] at h0
    by_cases hc : (chkR e.2.2).2 ≠ 0
    · rw [if_pos hc] at h0;exact absurd h0 hc
    · rw [if_neg hc] at h0
      by_cases h4 : 400 ≤ L.2.2
      · rw [if_pos h4] at h0;cases h0
      · obtain ⟨i,hie⟩ : ∃ i,(atE L.1 e.2.1 + 1).toNat = i:=⟨_,rfl⟩;have hd : doL L e = (insE L.1 i (itmOf e.2.2,L.2.1),L.2.1 + 1,L.2.2 + 1):=by
          unfold doL;rw [if_neg h1,if_neg h2,if_neg hat,if_neg hc,if_neg h4,hie]
        refine ⟨fun j=>?_,by rw [hd],by rw [hd],?_,Classical.not_not.1 hc⟩
        · have hnx:=h.next;have hst : stzL L.1 = stzL (L.1.take i) ++ stzL (L.1.drop i):=by
            conv=>lhs;rw [← List.take_append_drop i L.1,stz_app]
          have hst2 : stzL (doL L e).1 = stzL (L.1.take i) ++ (L.2.1,e.2.2) :: stzL (L.1.drop i):=by
            rw [hd];show stzL (L.1.take i ++ (itmOf e.2.2,L.2.1) :: L.1.drop i) = _;rw [stz_app,stz_cons,if_pos (show live (itmOf e.2.2,L.2.1) = true from decide_eq_true (by show 0 < L.2.1;omega))];rfl
          by_cases hj : j = L.2.1
          · rw [if_pos hj,hj,getF_iff hk,hst2];exact List.mem_append_right _ List.mem_cons_self
          · rw [if_neg hj];refine Option.ext fun f=>?_
            rw [getF_iff hk,getF_iff h,hst,hst2];simp only [List.mem_append,List.mem_cons];exact ⟨fun h=>h.imp id fun h=>h.elim (fun e=>absurd (congrArg Prod.fst e) hj) id,fun h=>h.imp id .inr⟩
        · by_cases hz : e.2.1 = 0
          · exact .inl hz
          · exact .inr (getF_some fun hlt=>hat ⟨hlt,hz⟩)
theorem one_rep0 {L : Lst} {e : Edt} (h1 : e.1 = 1) (hg : ¬ atE L.1 e.2.1 < 0) (hc : (chkR e.2.2).2 = 0) : oneN L e = 0:=by
  unfold oneN;rw [if_pos h1,if_neg hg];exact hc
theorem one_del0 {L : Lst} {e : Edt} (h1 : e.1 = 2) (hg : ¬ atE L.1 e.2.1 < 0) : oneN L e = 0:=by
  unfold oneN;rw [if_neg (by omega),if_pos h1,if_neg hg]
theorem one_ins0 {L : Lst} {e : Edt} (h1 : e.1 ≠ 1) (h2 : e.1 ≠ 2) (hg : e.2.1 = 0 ∨ ¬ atE L.1 e.2.1 < 0) (hc : (chkR e.2.2).2 = 0) : oneN L e = if 400 ≤ L.2.2 then 11 else 0:=by
  unfold oneN;rw [if_neg h1,if_neg h2,if_neg (fun h=>hg.elim h.2 fun g=>g h.1),if_neg (fun h=>h hc)]
def repA (a : List Edt) (id : Int) : Bool:=a.any fun x=>decide (x.1 = 1) && decide (x.2.1 = id)
def delA (a : List Edt) (id : Int) : Bool:=a.any fun x=>decide (x.1 = 2) && decide (x.2.1 = id)
def tchA (a : List Edt) (id : Int) : Bool:=repA a id || delA a id
def insA : List Edt → Nat
  | []=>0
  | x :: r=>(if x.1 = 3 then 1 else 0) + insA r
def clsh (a : List Edt) (x : Edt) : Bool:=if x.1 = 1 then tchA a x.2.1 else if x.1 = 2 then tchA a x.2.1 && !delA a x.2.1 else if x.1 = 3 then delA a x.2.1 else false
def reb1 (next k : Int) (a : List Edt) (x : Edt) : List Edt:=if next ≤ x.2.1 then [(x.1,x.2.1 + k,x.2.2)] else if x.1 = 2 ∧ delA a x.2.1 = true then [] else [x]
def rebB (next : Int) (a b : List Edt) : List Edt:=b.flatMap (reb1 next (insA a) a)
def takes (L : Lst) : List Edt → Prop
  | []=>True
  | x :: r=>oneN L x = 0 ∧ takes (doL L x) r
def runL (L : Lst) (s : List Edt) : Lst:=s.foldl doL L
def kindsOk (s : List Edt) : Prop:=∀ x ∈ s,x.1 = 1 ∨ x.1 = 2 ∨ x.1 = 3
theorem takes_of : ∀ (s : List Edt) (L : Lst),(∀ j,j < s.length → oneN (yN L s j) (s.getD j ((0 : Int),(0 : Int),([] : List Fld))) = 0) → takes L s
  | [],_,_=>trivial
  | x :: r,L,h=>⟨h 0 (by simp),takes_of r (doL L x) fun j hj=>h (j + 1) (by simpa using hj)⟩
theorem takes_to : ∀ (s : List Edt) (L : Lst),takes L s → ∀ j,j < s.length → oneN (yN L s j) (s.getD j ((0 : Int),(0 : Int),([] : List Fld))) = 0
  | _ :: _,_,h,0,_=>h.1
  | x :: r,L,h,j + 1,hj=>takes_to r (doL L x) h.2 j (by simpa using hj)
theorem run_plays (L : Lst) (s : List Edt) : yN L s s.length = runL L s:=by unfold yN runL;rw [List.take_length]
theorem kinds_good {s : List Edt} (h : (chkB s).2 = 0) : kindsOk s:=fun x hx=>by
  have hg:=(chkB_zero h).2 x hx;unfold goodN at hg
  by_cases h2 : x.1 = 2
  · exact .inr (.inl h2)
  · rw [if_neg h2] at hg
    by_cases h13 : x.1 = 1 ∨ x.1 = 3
    · exact h13.elim .inl fun h=>.inr (.inr h)
    · rw [if_neg h13] at hg;cases hg
theorem run_ok {c : Nat} {L : Lst} : ∀ {s : List Edt},LOk c L → (∀ e ∈ s,qT e.2.2) → LOk (c + s.length) (runL L s)
  | s,h,hf=>by rw [← run_plays];exact plays_ok h hf s.length (Nat.le_refl _)
theorem delA_cons (x : Edt) (r : List Edt) (id : Int) : delA (x :: r) id = ((decide (x.1 = 2) && decide (x.2.1 = id)) || delA r id):=rfl
theorem repA_cons (x : Edt) (r : List Edt) (id : Int) : repA (x :: r) id = ((decide (x.1 = 1) && decide (x.2.1 = id)) || repA r id):=rfl
structure Ran (L : Lst) (a : List Edt) (P : Lst) : Prop where
  next : P.2.1 = L.2.1 + (insA a : Int)
  unt : ∀ id,id < L.2.1 → tchA a id = false → getF P id = getF L id
  gone : ∀ id,id < L.2.1 → getF L id = none → getF P id = none
  del : ∀ id,id < L.2.1 → delA a id = true → getF P id = none
  keep : ∀ id,id < L.2.1 → getF L id ≠ none → delA a id = false → getF P id ≠ none
theorem ran : ∀ (a : List Edt) {c : Nat} {L : Lst},LOk c L → (∀ e ∈ a,qT e.2.2) → kindsOk a → takes L a → Ran L a (runL L a)
  | [],_,L,_,_,_,_=>⟨by show L.2.1 = L.2.1 + ((0 : Nat) : Int);omega,fun _ _ _=>rfl,fun _ _ h=>h,fun _ _ h=>(by cases h),fun _ _ h _=>h⟩
  | x :: r,c,L,h,hf,hk,ht=>by
    have hfx:=hf x List.mem_cons_self;have hL':=doL_ok h hfx;have ih:=ran r hL' (fun e he=>hf e (List.mem_cons_of_mem _ he)) (fun e he=>hk e (List.mem_cons_of_mem _ he)) ht.2;have hkx:=hk x List.mem_cons_self;have e0 : runL L (x :: r) = runL (doL L x) r:=rfl;rw [e0]
    by_cases h1 : x.1 = 1
    · obtain ⟨g1,g2,g3,_⟩:=step_rep h hfx h1 ht.1;have g2' : (doL L x).2.1 = L.2.1:=by rw [g2]
      refine ⟨?_,fun id hid hu=>?_,fun id hid hn=>?_,fun id hid hd=>?_,fun id hid hn hd=>?_⟩
      · rw [ih.next,g2'];simp only [insA];rw [if_neg (by omega)];omega
      · unfold tchA at hu;rw [repA_cons,delA_cons,h1] at hu;simp at hu;rw [ih.unt id (by omega) (by unfold tchA;simp [hu]),g1,if_neg (fun e=>hu.1.1 e.symm)]
      · refine ih.gone id (by omega) ?_;rw [g1,if_neg (fun e=>g3 (by rw [← e];exact hn))];exact hn
      · rw [delA_cons,h1] at hd;exact ih.del id (by omega) (by simpa using hd)
      · rw [delA_cons,h1] at hd;refine ih.keep id (by omega) ?_ (by simpa using hd);rw [g1];split
        · exact fun e=>by cases e
        · exact hn
    · by_cases h2 : x.1 = 2
      · obtain ⟨g1,g2,_,g3⟩:=step_del h hfx h2 ht.1;refine ⟨?_,fun id hid hu=>?_,fun id hid hn=>?_,fun id hid hd=>?_,fun id hid hn hd=>?_⟩
        · rw [ih.next,g2];simp only [insA];rw [if_neg (by omega)];omega
        · unfold tchA at hu;rw [repA_cons,delA_cons,h2] at hu;simp at hu;rw [ih.unt id (by omega) (by unfold tchA;simp [hu]),g1,if_neg (fun e=>hu.2.1 e.symm)]
        · refine ih.gone id (by omega) ?_;rw [g1];split
          · rfl
          · exact hn
        · by_cases hx : id = x.2.1
          · exact ih.gone id (by omega) (by rw [g1,if_pos hx])
          · rw [delA_cons,h2] at hd;simp at hd;exact ih.del id (by omega) (hd.elim (fun e=>absurd e.symm hx) (fun h=>h))
        · rw [delA_cons,h2] at hd;simp at hd;refine ih.keep id (by omega) ?_ hd.2;rw [g1,if_neg (fun e=>hd.1 e.symm)];exact hn
      · have h3 : x.1 = 3:=by rcases hkx with h|h|h;exact absurd h h1;exact absurd h h2;exact h
        obtain ⟨g1,g2,_,_,_⟩:=step_ins h hfx h1 h2 ht.1;refine ⟨?_,fun id hid hu=>?_,fun id hid hn=>?_,fun id hid hd=>?_,fun id hid hn hd=>?_⟩
        · rw [ih.next,g2];simp only [insA];rw [if_pos h3];omega
        · unfold tchA at hu;rw [repA_cons,delA_cons,h3] at hu;simp at hu;rw [ih.unt id (by omega) (by unfold tchA;simp [hu]),g1,if_neg (by omega)]
        · refine ih.gone id (by omega) ?_;rw [g1,if_neg (by omega)];exact hn
        · rw [delA_cons,h3] at hd;exact ih.del id (by omega) (by simpa using hd)
        · rw [delA_cons,h3] at hd;refine ih.keep id (by omega) ?_ (by simpa using hd);rw [g1,if_neg (by omega)];exact hn
structure Sim (L P : Lst) (a : List Edt) (k : Int) (Q Y : Lst) (sk : Int) : Prop where
  old : ∀ id,id < L.2.1 → getF Y id = if tchA a id = true then getF P id else getF Q id
  mid : ∀ id,L.2.1 ≤ id → id < P.2.1 → getF Y id = getF P id
  new : ∀ id,L.2.1 ≤ id → getF Y (id + k) = getF Q id
  next : Y.2.1 = Q.2.1 + k
  mono : L.2.1 ≤ Q.2.1
  keep : ∀ id,id < L.2.1 → getF Q id ≠ none → getF L id ≠ none
  many : Y.2.2 - P.2.2 = Q.2.2 - L.2.2 + sk
theorem not_at {c : Nat} {L : Lst} (h : LOk c L) {id : Int} (hg : getF L id ≠ none) : ¬ atE L.1 id < 0:=(getF_pos h hg).2.2
theorem sim_step {c c' : Nat} {L P Q Y : Lst} {a : List Edt} {k sk : Int} (hk : k = (insA a : Int)) (hL1 : 1 ≤ L.2.1) (hPn : P.2.1 = L.2.1 + k) (hR : Ran L a P) (hQ : LOk c Q) (hY : LOk c' Y) (S : Sim L P a k Q Y sk) (x : Edt) (hf : qT x.2.2) (hx : oneN Q x = 0) (hkd : x.1 = 1 ∨ x.1 = 2 ∨ x.1 = 3) (hcl : x.2.1 < L.2.1 → clsh a x = false) :
    (x.2.1 < L.2.1 ∧ x.1 = 2 ∧ delA a x.2.1 = true ∧ reb1 L.2.1 k a x = [] ∧ Sim L P a k (doL Q x) Y (sk + 1)) ∨ ∃ y,reb1 L.2.1 k a x = [y] ∧ y.2.2 = x.2.2 ∧ y.1 = x.1 ∧ ((oneN Y y = 0 ∧ Sim L P a k (doL Q x) (doL Y y) sk) ∨ (oneN Y y = 11 ∧ 400 ≤ Y.2.2 ∧ x.1 = 3)):=by
  have hk0 : 0 ≤ k:=by omega
  have hmo:=S.mono
  by_cases h1 : x.1 = 1
  · obtain ⟨g1,g2,g3,g4⟩:=step_rep hQ hf h1 hx;have g2n : (doL Q x).2.1 = Q.2.1:=by rw [g2]
    have g2m : (doL Q x).2.2 = Q.2.2:=by rw [g2]
    by_cases hid : x.2.1 < L.2.1
    · have ht : tchA a x.2.1 = false:=by have:=hcl hid;unfold clsh at this;rwa [if_pos h1] at this
      have hg : getF Y x.2.1 ≠ none:=by rw [S.old _ hid,if_neg (by rw [ht];decide)];exact g3
      have h0 : oneN Y x = 0:=one_rep0 h1 (not_at hY hg) g4;obtain ⟨y1,y2,_,_⟩:=step_rep hY hf h1 h0;have y2n : (doL Y x).2.1 = Y.2.1:=by rw [y2]
      have y2m : (doL Y x).2.2 = Y.2.2:=by rw [y2]
      refine .inr ⟨x,by unfold reb1;rw [if_neg (by omega),if_neg (by rintro ⟨e,_⟩;omega)],rfl,rfl,.inl ⟨h0,⟨fun j hj=>?_,fun j hj hj2=>?_,fun j hj=>?_,by rw [y2n,g2n];exact S.next,by rw [g2n];exact hmo,fun j hj hn=>?_,by rw [y2m,g2m];exact S.many⟩⟩⟩
      · rw [y1,g1]
        by_cases e : j = x.2.1
        · rw [if_pos e,if_neg (by rw [e,ht];decide),if_pos e]
        · rw [if_neg e,if_neg e];exact S.old j hj
      · rw [y1,if_neg (by omega)];exact S.mid j hj hj2
      · rw [y1,if_neg (by omega),g1,if_neg (by omega)];exact S.new j hj
      · rw [g1] at hn
        by_cases e : j = x.2.1
        · rw [e];exact S.keep _ hid g3
        · rw [if_neg e] at hn;exact S.keep j hj hn
    · have hg : getF Y (x.2.1 + k) ≠ none:=by rw [S.new _ (by omega)];exact g3
      have h0 : oneN Y (x.1,x.2.1 + k,x.2.2) = 0:=one_rep0 h1 (not_at hY hg) g4;obtain ⟨y1,y2,_,_⟩:=step_rep (e:=(x.1,x.2.1 + k,x.2.2)) hY hf h1 h0;have y2n : (doL Y (x.1,x.2.1 + k,x.2.2)).2.1 = Y.2.1:=by rw [y2]
      have y2m : (doL Y (x.1,x.2.1 + k,x.2.2)).2.2 = Y.2.2:=by rw [y2]
      simp only at y1;refine .inr ⟨(x.1,x.2.1 + k,x.2.2),by unfold reb1;rw [if_pos (by omega)],rfl,rfl,.inl ⟨h0,⟨fun j hj=>?_,fun j hj hj2=>?_,fun j hj=>?_,by rw [y2n,g2n];exact S.next,by rw [g2n];exact hmo,fun j hj hn=>?_,by rw [y2m,g2m];exact S.many⟩⟩⟩
      · rw [y1,g1,if_neg (by omega),if_neg (show ¬ j = x.2.1 by omega)];exact S.old j hj
      · rw [y1,if_neg (by omega)];exact S.mid j hj hj2
      · rw [y1,g1]
        by_cases e : j = x.2.1
        · rw [if_pos (by omega),if_pos e]
        · rw [if_neg (by omega),if_neg e];exact S.new j hj
      · rw [g1,if_neg (by omega)] at hn;exact S.keep j hj hn
  · by_cases h2 : x.1 = 2
    · obtain ⟨g1,g2,g2m,g3⟩:=step_del hQ hf h2 hx
      by_cases hid : x.2.1 < L.2.1
      · by_cases hd : delA a x.2.1 = true
        · refine .inl ⟨hid,h2,hd,by unfold reb1;rw [if_neg (by omega),if_pos ⟨h2,hd⟩],⟨fun j hj=>?_,S.mid,fun j hj=>?_,by rw [g2];exact S.next,by rw [g2];exact hmo,fun j hj hn=>?_,by have:=S.many;rw [g2m];omega⟩⟩
          · rw [S.old j hj,g1]
            by_cases e : j = x.2.1
            · have ht : tchA a j = true:=by unfold tchA;rw [e,hd,Bool.or_true]
              rw [if_pos ht,if_pos ht]
            · rw [if_neg e]
          · rw [g1,if_neg (by omega)];exact S.new j hj
          · rw [g1] at hn
            by_cases e : j = x.2.1
            · rw [if_pos e] at hn;exact absurd rfl hn
            · rw [if_neg e] at hn;exact S.keep j hj hn
        · have ht : tchA a x.2.1 = false:=by
            have h5:=hcl hid;unfold clsh at h5;rw [if_neg h1,if_pos h2] at h5;cases e : tchA a x.2.1
            · rfl
            · rw [e] at h5;simp at h5;exact absurd h5 hd
          have hg : getF Y x.2.1 ≠ none:=by rw [S.old _ hid,if_neg (by rw [ht];decide)];exact g3
          have h0 : oneN Y x = 0:=one_del0 h2 (not_at hY hg);obtain ⟨y1,y2,y2m,_⟩:=step_del hY hf h2 h0;refine .inr ⟨x,by unfold reb1;rw [if_neg (by omega),if_neg (fun h=>hd h.2)],rfl,rfl,.inl ⟨h0,⟨fun j hj=>?_,fun j hj hj2=>?_,fun j hj=>?_,by rw [y2,g2];exact S.next,by rw [g2];exact hmo,fun j hj hn=>?_,by have:=S.many;rw [y2m,g2m];omega⟩⟩⟩
          · rw [y1,g1]
            by_cases e : j = x.2.1
            · rw [if_pos e,if_neg (by rw [e,ht];decide),if_pos e]
            · rw [if_neg e,if_neg e];exact S.old j hj
          · rw [y1,if_neg (by omega)];exact S.mid j hj hj2
          · rw [y1,if_neg (by omega),g1,if_neg (by omega)];exact S.new j hj
          · rw [g1] at hn
            by_cases e : j = x.2.1
            · rw [if_pos e] at hn;exact absurd rfl hn
            · rw [if_neg e] at hn;exact S.keep j hj hn
      · have hg : getF Y (x.2.1 + k) ≠ none:=by rw [S.new _ (by omega)];exact g3
        have h0 : oneN Y (x.1,x.2.1 + k,x.2.2) = 0:=one_del0 h2 (not_at hY hg);obtain ⟨y1,y2,y2m,_⟩:=step_del (e:=(x.1,x.2.1 + k,x.2.2)) hY hf h2 h0;simp only at y1;refine .inr ⟨(x.1,x.2.1 + k,x.2.2),by unfold reb1;rw [if_pos (by omega)],rfl,rfl,.inl ⟨h0,⟨fun j hj=>?_,fun j hj hj2=>?_,fun j hj=>?_,by rw [y2,g2];exact S.next,by rw [g2];exact hmo,fun j hj hn=>?_,by have:=S.many;rw [y2m,g2m];omega⟩⟩⟩
        · rw [y1,g1,if_neg (by omega),if_neg (show ¬ j = x.2.1 by omega)];exact S.old j hj
        · rw [y1,if_neg (by omega)];exact S.mid j hj hj2
        · rw [y1,g1]
          by_cases e : j = x.2.1
          · rw [if_pos (by omega),if_pos e]
          · rw [if_neg (by omega),if_neg e];exact S.new j hj
        · rw [g1,if_neg (by omega)] at hn;exact S.keep j hj hn
    · have h3 : x.1 = 3:=by rcases hkd with h|h|h;exact absurd h h1;exact absurd h h2;exact h
      obtain ⟨g1,g2,g2m,g3,g4⟩:=step_ins hQ hf h1 h2 hx;have hn:=S.next;obtain ⟨y,hy,hyf,hyk,hg⟩ : ∃ y : Edt,reb1 L.2.1 k a x = [y] ∧ y.2.2 = x.2.2 ∧ y.1 = x.1 ∧ (y.2.1 = 0 ∨ ¬ atE Y.1 y.2.1 < 0):=by
        by_cases hid : x.2.1 < L.2.1
        · refine ⟨x,by unfold reb1;rw [if_neg (by omega),if_neg (fun h=>h2 h.1)],rfl,rfl,?_⟩;refine g3.imp id fun hg=>not_at hY ?_
          have hd : delA a x.2.1 = false:=by have h5:=hcl hid;unfold clsh at h5;rwa [if_neg h1,if_neg h2,if_pos h3] at h5
          rw [S.old _ hid];split
          · exact hR.keep _ hid (S.keep _ hid hg) hd
          · exact hg
        · have hnx:=hQ.next;refine ⟨(x.1,x.2.1 + k,x.2.2),by unfold reb1;rw [if_pos (by omega)],rfl,rfl,.inr ?_⟩;refine not_at hY ?_;show getF Y (x.2.1 + k) ≠ none;rw [S.new _ (by omega)];exact g3.elim (fun e=>by have:=hL1;omega) id
      have ho:=one_ins0 (L:=Y) (e:=y) (by omega) (by omega) hg (by rw [hyf];exact g4);refine .inr ⟨y,hy,hyf,hyk,?_⟩
      by_cases h4 : 400 ≤ Y.2.2
      · rw [if_pos h4] at ho;exact .inr ⟨ho,h4,h3⟩
      · rw [if_neg h4] at ho;obtain ⟨y1,y2,y2m,_,_⟩:=step_ins hY (by rw [hyf];exact hf) (by omega) (by omega) ho;refine .inl ⟨ho,⟨fun j hj=>?_,fun j hj hj2=>?_,fun j hj=>?_,by rw [y2,g2];omega,by rw [g2];omega,fun j hj hn=>?_,by have:=S.many;rw [y2m,g2m];omega⟩⟩
        · have e1 : getF (doL Q x) j = getF Q j:=by rw [g1,if_neg (by omega)]
          rw [y1,if_neg (by omega),e1];exact S.old j hj
        · rw [y1,if_neg (by omega)];exact S.mid j hj hj2
        · rw [y1,g1,hyf]
          by_cases e : j = Q.2.1
          · rw [if_pos (by omega),if_pos e]
          · rw [if_neg (by omega),if_neg e];exact S.new j hj
        · rw [g1,if_neg (by omega)] at hn;exact S.keep j hj hn
def alS : List Edt:=[(2,1,[]),(1,1,[(⟨#[65]⟩,ByteArray.empty)])]
theorem plays_l (L : Lst) (a b : List Edt) {i : Nat} (h : i ≤ a.length) : yN L (a ++ b) i = yN L a i:=by
  unfold yN;rw [List.take_append_of_le_length h]
theorem plays_r (L : Lst) (a b : List Edt) (i : Nat) : yN L (a ++ b) (a.length + i) = yN (yN L a a.length) b i:=by
  unfold yN;rw [List.take_append,List.take_of_length_le (by omega),List.take_length,List.foldl_append,Nat.add_sub_cancel_left]
theorem getD_l (a b : List Edt) {i : Nat} (h : i < a.length) : (a ++ b).getD i ((0 : Int),(0 : Int),([] : List Fld)) = a.getD i ((0 : Int),(0 : Int),([] : List Fld)):=by
  rw [List.getD_eq_getElem?_getD,List.getElem?_append_left h,List.getD_eq_getElem?_getD]
theorem getD_r (a b : List Edt) (i : Nat) : (a ++ b).getD (a.length + i) ((0 : Int),(0 : Int),([] : List Fld)) = b.getD i ((0 : Int),(0 : Int),([] : List Fld)):=by
  rw [List.getD_eq_getElem?_getD,List.getElem?_append_right (by omega),Nat.add_sub_cancel_left,List.getD_eq_getElem?_getD]
def clear (next : Int) (a b : List Edt) : Prop:=∀ x ∈ b,x.2.1 < next → clsh a x = false
def whole (next : Int) (a b : List Edt) : Prop:=∀ x ∈ b,¬ (x.2.1 < next ∧ x.1 = 2 ∧ delA a x.2.1 = true)
def fullAt (Y : Lst) (s : List Edt) : Prop:=∃ q,q < s.length ∧ oneN (yN Y s q) (s.getD q ((0 : Int),(0 : Int),([] : List Fld))) = 11 ∧ (∀ j,j < q → oneN (yN Y s j) (s.getD j ((0 : Int),(0 : Int),([] : List Fld))) = 0) ∧ 400 ≤ (yN Y s q).2.2
theorem full_cons {Y : Lst} {y : Edt} {s : List Edt} (h0 : oneN Y y = 0) (h : fullAt (doL Y y) s) : fullAt Y (y :: s):=by
  obtain ⟨q,h1,h2,h3,h4⟩:=h;refine ⟨q + 1,by simpa using h1,h2,fun j hj=>?_,h4⟩;cases j with
  | zero=>exact h0
  | succ j=>exact h3 j (by omega)
theorem sim_run {L P : Lst} {a : List Edt} {k : Int} (hk : k = (insA a : Int)) (hL1 : 1 ≤ L.2.1) (hPn : P.2.1 = L.2.1 + k) (hR : Ran L a P) : ∀ (b : List Edt) {c c' : Nat} {Q Y : Lst} {sk : Int},LOk c Q → LOk c' Y → Sim L P a k Q Y sk → (∀ e ∈ b,qT e.2.2) → kindsOk b → takes Q b → clear L.2.1 a b →
    (takes Y (b.flatMap (reb1 L.2.1 k a)) ∧ ∃ sk',Sim L P a k (runL Q b) (runL Y (b.flatMap (reb1 L.2.1 k a))) sk' ∧ (whole L.2.1 a b → sk' = sk)) ∨ fullAt Y (b.flatMap (reb1 L.2.1 k a))
  | [],_,_,_,_,sk,_,_,S,_,_,_,_=>.inl ⟨trivial,sk,S,fun _=>rfl⟩
  | x :: r,c,c',Q,Y,sk,hQ,hY,S,hf,hkd,ht,hcl=>by
    have hfx:=hf x List.mem_cons_self;have hQ':=doL_ok hQ hfx;have hfr : ∀ e ∈ r,qT e.2.2:=fun e he=>hf e (List.mem_cons_of_mem _ he)
    have hkr : kindsOk r:=fun e he=>hkd e (List.mem_cons_of_mem _ he)
    have hcr : clear L.2.1 a r:=fun e he=>hcl e (List.mem_cons_of_mem _ he)
    rw [List.flatMap_cons];rcases sim_step hk hL1 hPn hR hQ hY S x hfx ht.1 (hkd x List.mem_cons_self) (hcl x List.mem_cons_self) with ⟨h1,h2,h3,h4,h5⟩|⟨y,h4,hyf,_,h5⟩
    · rw [h4,List.nil_append];rcases sim_run hk hL1 hPn hR r hQ' hY h5 hfr hkr ht.2 hcr with ⟨g1,sk',g2,_⟩|g
      · exact .inl ⟨g1,sk',g2,fun hw=>absurd ⟨h1,h2,h3⟩ (hw x List.mem_cons_self)⟩
      · exact .inr g
    · rw [h4,List.singleton_append];rcases h5 with ⟨h0,h6⟩|⟨h0,h6,_⟩
      · have hY':=doL_ok hY (e:=y) (by rw [hyf];exact hfx);rcases sim_run hk hL1 hPn hR r hQ' hY' h6 hfr hkr ht.2 hcr with ⟨g1,sk',g2,g3⟩|g
        · exact .inl ⟨⟨h0,g1⟩,sk',g2,fun hw=>g3 fun e he=>hw e (List.mem_cons_of_mem _ he)⟩
        · exact .inr (full_cons h0 g)
      · exact .inr ⟨0,by simp,h0,fun j hj=>absurd hj (Nat.not_lt_zero _),h6⟩
theorem sim_0 {c : Nat} {L : Lst} (h : LOk c L) {a : List Edt} {P : Lst} (hR : Ran L a P) {cp : Nat} (hP : LOk cp P) : Sim L P a (insA a : Int) L P 0:=by
  refine ⟨fun id hid=>?_,fun _ _ _=>rfl,fun id hid=>?_,hR.next,Int.le_refl _,fun _ _ h=>h,by omega⟩
  · split
    · rfl
    · rename_i ht;exact hR.unt id hid (by simpa using ht)
  · have h1 : getF L id = none:=by
      refine Classical.byContradiction fun hn=>?_
      have:=(getF_pos h hn).2.1;omega
    have h2 : getF P (id + (insA a : Int)) = none:=by
      refine Classical.byContradiction fun hn=>?_
      have:=(getF_pos hP hn).2.1;have:=hR.next;omega
    rw [h1,h2]
theorem both_run {c : Nat} {L : Lst} (h : LOk c L) {a b : List Edt} (hfa : ∀ e ∈ a,qT e.2.2) (hfb : ∀ e ∈ b,qT e.2.2) (hka : kindsOk a) (hkb : kindsOk b) (hta : takes L a) (htb : takes L b) (hcl : clear L.2.1 a b) :
    (takes (runL L a) (rebB L.2.1 a b) ∧ ∃ sk,Sim L (runL L a) a (insA a : Int) (runL L b) (runL (runL L a) (rebB L.2.1 a b)) sk ∧ (whole L.2.1 a b → sk = 0)) ∨ fullAt (runL L a) (rebB L.2.1 a b):=by
  have hR:=ran a h hfa hka hta;have hP:=run_ok h hfa;exact sim_run rfl h.next.1 hR.next hR b h hP (sim_0 h hR hP) hfb hkb htb hcl
theorem takes_app : ∀ {a : List Edt} {L : Lst} {b : List Edt},takes L a → takes (runL L a) b → takes L (a ++ b)
  | [],_,_,_,h=>h
  | _ :: _,_,_,h,h2=>⟨h.1,takes_app h.2 h2⟩
theorem runL_app (L : Lst) (a b : List Edt) : runL L (a ++ b) = runL (runL L a) b:=List.foldl_append
theorem full_app {L : Lst} {a s : List Edt} (hta : takes L a) (h : fullAt (runL L a) s) : fullAt L (a ++ s):=by
  obtain ⟨q,h1,h2,h3,h4⟩:=h;rw [← run_plays] at h2 h3 h4;refine ⟨a.length + q,by rw [List.length_append];omega,by rw [plays_r,getD_r];exact h2,fun j hj=>?_,by rw [plays_r];exact h4⟩;rcases Nat.lt_or_ge j a.length with h5|h5
  · rw [plays_l L a s (by omega),getD_l a s h5];exact takes_to a L hta j h5
  · obtain ⟨i,rfl⟩ : ∃ i,j = a.length + i:=⟨j - a.length,by omega⟩;rw [plays_r,getD_r];exact h3 i (by omega)
theorem mem_tch {a : List Edt} {x : Edt} (h : x ∈ a) (hk : x.1 = 1 ∨ x.1 = 2) : tchA a x.2.1 = true:=by
  unfold tchA repA delA;rw [Bool.or_eq_true,List.any_eq_true,List.any_eq_true];exact hk.imp (fun e=>⟨x,h,by simp [e]⟩) fun e=>⟨x,h,by simp [e]⟩
theorem tch_mem {a : List Edt} {id : Int} (h : tchA a id = true) : ∃ x ∈ a,(x.1 = 1 ∨ x.1 = 2) ∧ x.2.1 = id:=by
  unfold tchA repA delA at h;rw [Bool.or_eq_true,List.any_eq_true,List.any_eq_true] at h;rcases h with ⟨x,hx,e⟩|⟨x,hx,e⟩
  · simp at e;exact ⟨x,hx,.inl e.1,e.2⟩
  · simp at e;exact ⟨x,hx,.inr e.1,e.2⟩
def apartB (next : Int) (a b : List Edt) : Prop:=(∀ x ∈ b,x.2.1 < next → (x.1 ≠ 3 → tchA a x.2.1 = false) ∧ delA a x.2.1 = false) ∧ ∀ x ∈ a,x.2.1 < next → delA b x.2.1 = false
theorem apart_tch {next : Int} {a b : List Edt} (h : apartB next a b) {id : Int} (hid : id < next) (ha : tchA a id = true) (hb : tchA b id = true) : False:=by
  obtain ⟨x,hx,hk,rfl⟩:=tch_mem hb;have:=(h.1 x hx hid).1 (by omega);rw [ha] at this;cases this
theorem apart_clear1 {next : Int} {a b : List Edt} (h : apartB next a b) : clear next a b:=fun x hx hid=>by
  obtain ⟨h1,h2⟩:=h.1 x hx hid;unfold clsh;split
  · exact h1 (by omega)
  · split
    · rw [h1 (by omega)];rfl
    · split
      · exact h2
      · rfl
theorem apart_clear2 {next : Int} {a b : List Edt} (h : apartB next a b) : clear next b a:=fun x hx hid=>by
  have hd:=h.2 x hx hid;have hno : x.1 = 1 ∨ x.1 = 2 → tchA b x.2.1 = false:=fun hk=>by
    cases e : tchA b x.2.1
    · rfl
    · exact (apart_tch h hid (mem_tch hx hk) e).elim
  unfold clsh;split
  · rename_i e;exact hno (.inl e)
  · split
    · rename_i e;rw [hno (.inr e)];rfl
    · split
      · exact hd
      · rfl
theorem apart_whole1 {next : Int} {a b : List Edt} (h : apartB next a b) : whole next a b:=fun x hx ⟨h1,_,h3⟩=>by rw [(h.1 x hx h1).2] at h3;cases h3
theorem apart_whole2 {next : Int} {a b : List Edt} (h : apartB next a b) : whole next b a:=fun x hx ⟨h1,_,h3⟩=>by rw [h.2 x hx h1] at h3;cases h3
theorem reb_len (next k : Int) (a : List Edt) : ∀ (b : List Edt),(b.flatMap (reb1 next k a)).length ≤ b.length ∧ (whole next a b → (b.flatMap (reb1 next k a)).length = b.length)
  | []=>⟨Nat.le_refl _,fun _=>rfl⟩
  | x :: r=>by
    obtain ⟨h1,h2⟩:=reb_len next k a r;rw [List.flatMap_cons,List.length_append,List.length_cons];have h3 : (reb1 next k a x).length ≤ 1 ∧ (¬ (x.2.1 < next ∧ x.1 = 2 ∧ delA a x.2.1 = true) → (reb1 next k a x).length = 1):=by
      unfold reb1;split
      · exact ⟨Nat.le_refl _,fun _=>rfl⟩
      · split
        · rename_i h4 h5;exact ⟨Nat.zero_le _,fun h=>absurd ⟨by omega,h5⟩ h⟩
        · exact ⟨Nat.le_refl _,fun _=>rfl⟩
    refine ⟨by omega,fun hw=>?_⟩;have:=h2 fun e he=>hw e (List.mem_cons_of_mem _ he)
    have:=h3.2 (hw x List.mem_cons_self);omega
theorem many_st {L : Lst} {e : Edt} : (doL L e).2.2 ≤ L.2.2 + 1:=by
  unfold doL;split
  · split
    · omega
    · split
      · omega
      · show L.2.2 ≤ _;omega
  · split
    · split
      · omega
      · show L.2.2 - 1 ≤ _;omega
    · split
      · omega
      · split
        · omega
        · split
          · omega
          · show L.2.2 + 1 ≤ _;omega
theorem many_pl (L : Lst) (s : List Edt) : ∀ i,i ≤ s.length → (yN L s i).2.2 ≤ L.2.2 + i
  | 0,_=>by show L.2.2 ≤ _;omega
  | i + 1,hi=>by
    have h:=many_pl L s i (by omega);rw [plays_snoc L (by omega)];have:=many_st (L:=yN L s i) (e:=s.getD i ((0 : Int),(0 : Int),([] : List Fld)));omega
theorem not_full {L : Lst} {s : List Edt} (h : L.2.2 + (s.length : Int) ≤ 400) : ¬ fullAt L s:=fun ⟨q,h1,_,_,h4⟩=>by
  have:=many_pl L s q (by omega);omega
theorem apart_same {c : Nat} {L : Lst} (h : LOk c L) {a b : List Edt} (hfa : ∀ e ∈ a,qT e.2.2) (hfb : ∀ e ∈ b,qT e.2.2) (hka : kindsOk a) (hkb : kindsOk b) (hta : takes L a) (htb : takes L b) (hap : apartB L.2.1 a b) (hm : L.2.2 + (a.length : Int) + (b.length : Int) ≤ 400) :
    takes L (a ++ rebB L.2.1 a b) ∧ takes L (b ++ rebB L.2.1 b a) ∧ (runL L (a ++ rebB L.2.1 a b)).2.2 = (runL L (b ++ rebB L.2.1 b a)).2.2 ∧
    (∀ id,id < L.2.1 → getF (runL L (a ++ rebB L.2.1 a b)) id = getF (runL L (b ++ rebB L.2.1 b a)) id) ∧
    (∀ i : Nat,i < insA a → getF (runL L (a ++ rebB L.2.1 a b)) (L.2.1 + i) = getF (runL L (b ++ rebB L.2.1 b a)) (L.2.1 + (insA b : Int) + i)) ∧
    (∀ i : Nat,i < insA b → getF (runL L (a ++ rebB L.2.1 a b)) (L.2.1 + (insA a : Int) + i) = getF (runL L (b ++ rebB L.2.1 b a)) (L.2.1 + i)):=by
  have l1:=(reb_len L.2.1 (insA a : Int) a b).1;have l2:=(reb_len L.2.1 (insA b : Int) b a).1;have e1 : (rebB L.2.1 a b).length ≤ b.length:=l1;have e2 : (rebB L.2.1 b a).length ≤ a.length:=l2;have hRa:=ran a h hfa hka hta;have hRb:=ran b h hfb hkb htb;rcases both_run h hfa hfb hka hkb hta htb (apart_clear1 hap) with ⟨t1,s1,S1,w1⟩|g
  · rcases both_run h hfb hfa hkb hka htb hta (apart_clear2 hap) with ⟨t2,s2,S2,w2⟩|g
    · have w1:=w1 (apart_whole1 hap);have w2:=w2 (apart_whole2 hap);subst w1 w2;rw [runL_app,runL_app];refine ⟨takes_app hta t1,takes_app htb t2,?_,fun id hid=>?_,fun i hi=>?_,fun i hi=>?_⟩
      · have:=S1.many;have:=S2.many;omega
      · rw [S1.old id hid,S2.old id hid];cases ea : tchA a id
        · cases eb : tchA b id
          · rw [if_neg (by decide),if_neg (by decide),hRa.unt id hid ea,hRb.unt id hid eb]
          · rw [if_neg (by decide),if_pos rfl]
        · cases eb : tchA b id
          · rw [if_pos rfl,if_neg (by decide)]
          · exact (apart_tch hap hid ea eb).elim
      · rw [S1.mid _ (by omega) (by rw [hRa.next];omega),← S2.new (L.2.1 + i) (by omega)]
        congr 1
        omega
      · rw [S2.mid _ (by omega) (by rw [hRb.next];omega),← S1.new (L.2.1 + i) (by omega)]
        congr 1
        omega
    · exact (not_full (by rw [List.length_append];omega) (full_app htb g)).elim
  · exact (not_full (by rw [List.length_append];omega) (full_app hta g)).elim
theorem index_Ed (f : FuncId) {κ : Nat} {β γ : Type} (S : Rd β) (y : β) (T : Rd γ) (z : γ) (l : List Edt) (p : Edt → Bool) (hp : ∀ x ∈ l,qR Tryz.prog f [.agg (toL rEdt x),.one (.addr S y),.one (.addr T z)] (ib (p x))) : qR Tryz.prog 99 [.one (.slk κ rEdt l),.one (.clo2 f (.addr S y) (.addr T z))] (ii .i64 (ixOf p l)):=by
  refine qP (rs:=[4]) Tryz.func99 rfl rfl rfl teOk rfl ?_;refine qC ?_;refine qB ?_;refine qC ?_;refine qC ?_;refine qB ?_;intro l1_1
  try simp only [zds] at l1_1
  refine qN ?_;refine qX (fun (i : Nat)=>i ≤ l.length ∧ (l.take i).any p = false) (fun (i : Nat)=>[(0,.one (.slk κ rEdt l)),(1,.one (.clo2 f (.addr S y) (.addr T z))),(7,ii .i64 l.length),(8,ii .i64 i)]) (fun (i : Nat)=>[]) 0 (fun (i : Nat)=>l.length - i) 0 (⟨Nat.zero_le _,rfl⟩) (qV ⟨rfl,rfl,rfl,rfl⟩ trivial rfl) ?_;intro i hI0;obtain ⟨hi,hn⟩:=hI0;refine qC ?_;refine qB ?_;refine qC ?_;refine qI rfl (fun h9=>?_) (fun h9=>?_)
  ·try simp only [decide_eq_true_eq] at h9
   try simp only [zds] at h9
   refine qM ?_;refine qC ?_;refine qN ?_;refine qC ?_;refine qB ?_;refine qC ?_;refine qB ?_;refine zai (by first|omega|assumption|decide|(simp only [zds];omega)|(simp <;> omega)) ?_;refine Or.inl ?_;refine zai (rfl) ?_;refine zei _ (zai (hp _ (yY (show i < l.length by omega) _)) ?_);refine qI rfl (fun h16=>?_) (fun h16=>?_)
   ·try simp only [zbq] at h16
    try simp only [Int.toNat_natCast,qH,qG,qE] at h16
    refine qC ?_;refine qB ?_;refine qL ?_;exact yW (ixOf_at ((0 : Int),(0 : Int),([] : List Fld)) (by omega) hn h16).symm
   ·try simp only [zbq] at h16
    try simp only [Int.toNat_natCast,qH,qG,qE] at h16
    refine qM ?_;refine qB ?_;refine zai (by first|omega|assumption|decide|(simp only [zds];omega)|(simp <;> omega)) ?_;exact ⟨i + 1,⟨by omega,by rw [take_any l p ((0 : Int),(0 : Int),([] : List Fld)) i (by omega),hn];exact h16⟩,by first|omega|(simp <;> omega),qV ⟨rfl,rfl,rfl,rfl⟩ trivial rfl⟩
  ·try simp only [decide_eq_false_iff_not,Int.not_lt] at h9
   try simp only [zds] at h9
   refine yA ?_;refine qC ?_;refine qB ?_;refine qL ?_;have e : i = l.length:=by omega
   subst e;rw [List.take_length] at hn;exact yW (ixOf_none hn).symm
theorem contains_Ed (f : FuncId) {κ : Nat} {β γ : Type} (S : Rd β) (y : β) (T : Rd γ) (z : γ) (l : List Edt) (p : Edt → Bool) (hp : ∀ x ∈ l,qR Tryz.prog f [.agg (toL rEdt x),.one (.addr S y),.one (.addr T z)] (ib (p x))) : qR Tryz.prog 102 [.one (.slk κ rEdt l),.one (.clo2 f (.addr S y) (.addr T z))] (ib (l.any p)):=by
  refine qP (rs:=[4]) Tryz.func102 rfl rfl rfl teOk rfl ?_;refine qC ?_;refine qB ?_;refine qC ?_;refine qB ?_;refine Or.inl ?_;refine zai (rfl) ?_;refine zei _ (zai (index_Ed f S y T z l p hp) ?_);refine qL ?_;exact ib_eq (ixOf_ge p l)
theorem does1_c (k id : Int) (x : Edt) : qR Tryz.prog 103 [.agg (toL rEdt x),.one (.addr (.int .i64) k),.one (.addr (.int .i64) id)] (ib (decide (x.1 = k) && decide (x.2.1 = id))):=by
  refine qP (rs:=[4]) Tryz.func103 rfl rfl rfl teOk rfl ?_;refine qC ?_;refine qB ?_;refine qC ?_;refine qB ?_;refine zai (fun h=>trivial) ?_;refine zai (fun h=>⟨⟨h,trivial⟩,trivial⟩) ?_;refine zai (fun h=>trivial) ?_;refine zai (fun h=>⟨⟨h,trivial⟩,⟨h,trivial⟩,trivial⟩) ?_;refine zai (by exact fun h=>h) ?_;refine qL ?_;exact ib_eq (by simp)
theorem does_c {κ : Nat} (a : List Edt) (k id : Int) : qR Tryz.prog 67 [.one (.slk κ rEdt a),ii .i64 k,ii .i64 id] (ib (a.any fun x=>decide (x.1 = k) && decide (x.2.1 = id))):=by
  refine qP (rs:=[6]) Tryz.func67 rfl rfl rfl teOk rfl ?_;refine qC ?_;refine qB ?_;refine qC ?_;refine qB ?_;refine Or.inl ?_;refine zai (rfl) ?_;refine zei _ (zai (contains_Ed _ (.int .i64) k (.int .i64) id a _ (fun x _=>does1_c k id x)) ?_);refine qL ?_;rfl
theorem deletes_c {κ : Nat} (a : List Edt) (id : Int) : qR Tryz.prog 33 [.one (.slk κ rEdt a),ii .i64 id] (ib (delA a id)):=by
  refine qP (rs:=[4]) Tryz.func33 rfl rfl rfl teOk rfl ?_;refine qC ?_;refine qB ?_;refine qC ?_;refine qB ?_;refine Or.inl ?_;refine zai (rfl) ?_;refine zei _ (zai (does_c a 2 id) ?_);refine qL ?_;rfl
theorem touches_c {κ : Nat} (a : List Edt) (id : Int) : qR Tryz.prog 30 [.one (.slk κ rEdt a),ii .i64 id] (ib (tchA a id)):=by
  have h1 : qR Tryz.prog 67 [.one (.slk κ rEdt a),ii .i64 1,ii .i64 id] (ib (repA a id)):=does_c a 1 id;refine qP (rs:=[4]) Tryz.func30 rfl rfl rfl teOk rfl ?_;refine qC ?_;refine qB ?_;refine qC ?_;refine qB ?_;refine Or.inl ?_;refine zai (rfl) ?_;refine zei _ (zai (h1) ?_);refine zai (fun h=>trivial) ?_;refine zai (fun h=>trivial) ?_;refine Or.inl ?_;refine zai (rfl) ?_;refine zei _ (zai (fun h=>⟨⟨⟨h,trivial⟩,⟨h,trivial⟩,trivial⟩,deletes_c a id⟩) ?_);refine zai (by first|(intro h;rw [h];rfl)|(intro h;cases h)) ?_;refine qL ?_;exact ib_eq (by unfold tchA;simp)
theorem insA_snoc : ∀ (a : List Edt) (i : Nat),i < a.length → insA (a.take (i + 1)) = insA (a.take i) + if (a.getD i ((0 : Int),(0 : Int),([] : List Fld))).1 = 3 then 1 else 0
  | x :: r,0,_=>by simp [insA]
  | x :: r,i + 1,h=>by
    have:=insA_snoc r i (by simpa using h);simp only [List.take_succ_cons,insA,List.getD_cons_succ] at this ⊢;rw [this];omega
theorem insA_le : ∀ (a : List Edt),insA a ≤ a.length
  | []=>Nat.le_refl _
  | x :: r=>by
    have:=insA_le r;simp only [insA,List.length_cons];split <;> omega
theorem inserts_c {κ : Nat} (a : List Edt) (hl : a.length ≤ 1000000) : qR Tryz.prog 34 [.one (.slk κ rEdt a)] (ii .i64 (insA a)):=by
  refine qP (rs:=[2]) Tryz.func34 rfl rfl rfl teOk rfl ?_;refine qC ?_;refine qB ?_;refine qC ?_;refine qB ?_;refine qC ?_;refine qC ?_;refine qB ?_;intro l2_1
  try simp only [zds] at l2_1
  refine qN ?_;refine qX (fun (i : Nat)=>i ≤ a.length) (fun (i : Nat)=>[(3,ii .i64 (insA (a.take i))),(6,.one (.slk κ rEdt a)),(7,ii .i64 a.length),(8,ii .i64 i)]) (fun (i : Nat)=>[]) 0 (fun (i : Nat)=>a.length - i) 0 (Nat.zero_le _) (qV ⟨rfl,rfl,rfl,rfl⟩ trivial rfl) ?_;intro i hI0;refine qC ?_;refine qB ?_;refine qC ?_;refine qI rfl (fun h9=>?_) (fun h9=>?_)
  ·try simp only [decide_eq_true_eq] at h9
   try simp only [zds] at h9
   have hil : i < a.length:=(by omega);have hsn:=insA_snoc a i hil;have hle:=insA_le (a.take i);rw [List.length_take] at hle;refine qM ?_;refine qC ?_;refine qN ?_;refine qC ?_;refine qB ?_;refine zai (by first|omega|assumption|decide|(simp only [zds];omega)|(simp <;> omega)) ?_;refine qC ?_;refine qB ?_;refine qI rfl (fun h14=>?_) (fun h14=>?_)
   ·try simp only [decide_eq_true_eq] at h14
    try simp only [Int.toNat_natCast,qH,qG,qE] at h14
    rw [if_pos h14] at hsn;refine qB ?_;refine zai (by first|omega|assumption|decide|(simp only [zds];omega)|(simp <;> omega)) ?_;refine qB ?_;refine zai (by first|omega|assumption|decide|(simp only [zds];omega)|(simp <;> omega)) ?_;exact ⟨i + 1,by omega,by first|omega|(simp <;> omega),qV ⟨(yW (by omega)),rfl,rfl,(yW (by omega))⟩ trivial rfl⟩
   ·try simp only [decide_eq_false_iff_not] at h14
    try simp only [Int.toNat_natCast,qH,qG,qE] at h14
    rw [if_neg h14] at hsn;refine qM ?_;refine qB ?_;refine zai (by first|omega|assumption|decide|(simp only [zds];omega)|(simp <;> omega)) ?_;exact ⟨i + 1,by omega,by first|omega|(simp <;> omega),qV ⟨(yW (by omega)),rfl,rfl,(yW (by omega))⟩ trivial rfl⟩
  ·try simp only [decide_eq_false_iff_not,Int.not_lt] at h9
   try simp only [zds] at h9
   refine yA ?_;refine qC ?_;refine qB ?_;refine qL ?_;rw [List.take_of_length_le (by omega)];exact rfl
theorem clashes_c {κ : Nat} (a : List Edt) (x : Edt) : qR Tryz.prog 101 [.one (.slk κ rEdt a),.agg (toL rEdt x)] (ib (clsh a x)):=by
  refine qP (rs:=[4]) Tryz.func101 rfl rfl rfl teOk rfl ?_;refine qC ?_;refine qB ?_;refine qC ?_;refine qC ?_;refine qB ?_;refine qN ?_;refine qC ?_;refine qB ?_;refine qI rfl (fun h7=>?_) (fun h7=>?_)
  ·try simp only [decide_eq_true_eq] at h7
   try simp only [zds] at h7
   refine qC ?_;refine qB ?_;refine Or.inl ?_;refine zai (rfl) ?_;refine zei _ (zai (touches_c a x.2.1) ?_);refine qL ?_;unfold clsh;rw [if_pos h7];exact rfl
  ·try simp only [decide_eq_false_iff_not] at h7
   try simp only [zds] at h7
   refine qC ?_;refine qB ?_;refine qI rfl (fun h13=>?_) (fun h13=>?_)
   ·try simp only [decide_eq_true_eq] at h13
    try simp only [zds] at h13
    refine qC ?_;refine qB ?_;refine Or.inl ?_;refine zai (rfl) ?_;refine zei _ (zai (touches_c a x.2.1) ?_);refine zai (fun h=>trivial) ?_;refine zai (fun h=>trivial) ?_;refine zai (fun h=>⟨⟨h,trivial⟩,trivial⟩) ?_;refine Or.inl ?_;refine zai (rfl) ?_;refine zei _ (zai (fun h=>⟨⟨⟨h,trivial⟩,⟨h,trivial⟩,trivial⟩,deletes_c a x.2.1⟩) ?_);refine zai (fun h=>⟨⟨h,trivial⟩,trivial⟩) ?_;refine zai (by exact fun h=>h) ?_;refine qL ?_;unfold clsh;rw [if_neg h7,if_pos h13];exact ib_eq (by simp)
   ·try simp only [decide_eq_false_iff_not] at h13
    try simp only [zds] at h13
    refine qC ?_;refine qB ?_;refine qI rfl (fun h26=>?_) (fun h26=>?_)
    ·try simp only [decide_eq_true_eq] at h26
     try simp only [zds] at h26
     refine qC ?_;refine qB ?_;refine Or.inl ?_;refine zai (rfl) ?_;refine zei _ (zai (deletes_c a x.2.1) ?_);refine qL ?_;unfold clsh;rw [if_neg h7,if_neg h13,if_pos h26];exact rfl
    ·try simp only [decide_eq_false_iff_not] at h26
     try simp only [zds] at h26
     refine qM ?_;refine qC ?_;refine qB ?_;refine qL ?_;unfold clsh;rw [if_neg h7,if_neg h13,if_neg h26];exact rfl
def clashX (next : Int) (a : List Edt) (x : Edt) : Bool:=decide (x.2.1 < next) && clsh a x
theorem clash1_c {κ : Nat} (next : Int) (a : List Edt) (x : Edt) : qR Tryz.prog 100 [.agg (toL rEdt x),.one (.addr (.int .i64) next),.one (.addr (.slk κ rEdt) a)] (ib (clashX next a x)):=by
  refine qP (rs:=[4]) Tryz.func100 rfl rfl rfl teOk rfl ?_;refine qC ?_;refine qB ?_;refine qC ?_;refine qB ?_;refine zai (fun h=>trivial) ?_;refine zai (fun h=>trivial) ?_;refine Or.inl ?_;refine zai (rfl) ?_;refine zei _ (zai (fun h=>⟨⟨⟨h,trivial⟩,⟨h,trivial⟩,trivial⟩,clashes_c a x⟩) ?_);refine zai (by exact fun h=>h) ?_;refine qL ?_;exact ib_eq (by unfold clashX;simp)
def clashI (next : Int) (a b : List Edt) : Int:=ixOf (clashX next a) b
theorem clash_c {κ' : Nat} (next : Int) (a b : List Edt) : qR Tryz.prog 64 [ii .i64 next,.one (.sl rEdt a),.one (.slk κ' rEdt b)] (ii .i64 (clashI next a b)):=by
  refine qP (rs:=[6]) Tryz.func64 rfl rfl rfl teOk rfl ?_;refine qC ?_;refine qB ?_;refine qC ?_;refine qB ?_;refine Or.inl ?_;refine zai (rfl) ?_;refine zei _ (zai (index_Ed _ (.int .i64) next (.sl rEdt) a b (clashX next a) (fun x _=>clash1_c next a x)) ?_);refine qL ?_;rfl
theorem copyE_o (s : List Edt) (hf : ∀ e ∈ s,e.2.2.length ≤ 1000000) (hl : s.length ≤ 1000000) : qU Tryz.prog 65 [.one (.sl rEdt s)] [] 0 (.one (.vec 0)) [(0,.vec 46 rEdt s)] 1:=by
  refine qQ (rs:=[2]) Tryz.func65 rfl rfl rfl teOk (by decide) rfl ?_;refine qC ?_;refine qB ?_;refine qC ?_;refine qB ?_;refine qC ?_;refine qC ?_;refine xI 3 46 rEdt rfl ?_;refine qB ?_;intro l2_1
  try simp only [zds] at l2_1
  refine qN ?_;refine qX (fun (i : Nat)=>i ≤ s.length) (fun (i : Nat)=>[(3,.one (.vec 0)),(6,.one (.sl rEdt s)),(7,ii .i64 s.length),(8,ii .i64 i)]) (fun (i : Nat)=>[(0,.vec 46 rEdt (s.take i))]) 1 (fun (i : Nat)=>s.length - i) 0 (Nat.zero_le _) (qV ⟨rfl,rfl,rfl,rfl⟩ rfl rfl) ?_;intro i hI0;refine qC ?_;refine qB ?_;refine qC ?_;refine qI rfl (fun h9=>?_) (fun h9=>?_)
  ·try simp only [decide_eq_true_eq] at h9
   try simp only [zds] at h9
   have hil : i < s.length:=(by omega);refine qM ?_;refine qC ?_;refine qN ?_;refine qC ?_;refine qB ?_;refine zai (by first|omega|assumption|decide|(simp only [zds];omega)|(simp <;> omega)) ?_;refine qC ?_;refine qB ?_;refine Or.inl ?_;refine zai (rfl) ?_;refine zei _ (zai (clone_c (s.getD i ((0 : Int),(0 : Int),([] : List Fld))).2.2 (hf _ (yY hil ((0 : Int),(0 : Int),([] : List Fld))))) ?_);refine qB ?_;refine zai (by exact qW (show (s.take i).length + 1 ≤ 1000000000 by rw [List.length_take];omega) (by decide)) ?_;refine qB ?_;refine zai (by first|omega|assumption|decide|(simp only [zds];omega)|(simp <;> omega)) ?_;exact ⟨i + 1,by omega,by first|omega|(simp <;> omega),qV ⟨rfl,rfl,rfl,(yW (by omega))⟩ (xM (by rw [← xA ((0 : Int),(0 : Int),([] : List Fld)) hil];try exact rfl)) rfl⟩
  ·try simp only [decide_eq_false_iff_not,Int.not_lt] at h9
   try simp only [zds] at h9
   refine yA ?_;refine qC ?_;refine qB ?_;refine qL ?_;rw [List.take_of_length_le (by omega)];exact ⟨rfl,rfl,rfl⟩
theorem copyE_c (s : List Edt) (hf : ∀ e ∈ s,e.2.2.length ≤ 1000000) (hl : s.length ≤ 1000000) : qR Tryz.prog 65 [.one (.sl rEdt s)] (.one (.sl rEdt s)):=by
  refine qP (rs:=[2]) Tryz.func65 rfl rfl rfl teOk rfl ?_;refine qC ?_;refine qB ?_;refine qC ?_;refine qB ?_;refine qC ?_;refine qC ?_;refine xI 3 46 rEdt rfl ?_;refine qB ?_;intro l2_1
  try simp only [zds] at l2_1
  refine qN ?_;refine qX (fun (i : Nat)=>i ≤ s.length) (fun (i : Nat)=>[(3,.one (.vec 0)),(6,.one (.sl rEdt s)),(7,ii .i64 s.length),(8,ii .i64 i)]) (fun (i : Nat)=>[(0,.vec 46 rEdt (s.take i))]) 1 (fun (i : Nat)=>s.length - i) 0 (Nat.zero_le _) (qV ⟨rfl,rfl,rfl,rfl⟩ rfl rfl) ?_;intro i hI0;refine qC ?_;refine qB ?_;refine qC ?_;refine qI rfl (fun h9=>?_) (fun h9=>?_)
  ·try simp only [decide_eq_true_eq] at h9
   try simp only [zds] at h9
   have hil : i < s.length:=(by omega);refine qM ?_;refine qC ?_;refine qN ?_;refine qC ?_;refine qB ?_;refine zai (by first|omega|assumption|decide|(simp only [zds];omega)|(simp <;> omega)) ?_;refine qC ?_;refine qB ?_;refine Or.inl ?_;refine zai (rfl) ?_;refine zei _ (zai (clone_c (s.getD i ((0 : Int),(0 : Int),([] : List Fld))).2.2 (hf _ (yY hil ((0 : Int),(0 : Int),([] : List Fld))))) ?_);refine qB ?_;refine zai (by exact qW (show (s.take i).length + 1 ≤ 1000000000 by rw [List.length_take];omega) (by decide)) ?_;refine qB ?_;refine zai (by first|omega|assumption|decide|(simp only [zds];omega)|(simp <;> omega)) ?_;exact ⟨i + 1,by omega,by first|omega|(simp <;> omega),qV ⟨rfl,rfl,rfl,(yW (by omega))⟩ (xM (by rw [← xA ((0 : Int),(0 : Int),([] : List Fld)) hil];try exact rfl)) rfl⟩
  ·try simp only [decide_eq_false_iff_not,Int.not_lt] at h9
   try simp only [zds] at h9
   refine yA ?_;refine qC ?_;refine qB ?_;refine qL ?_;rw [List.take_of_length_le (by omega)];exact rfl
theorem flat_snoc {α : Type} (f : Edt → List α) {b : List Edt} {i : Nat} (h : i < b.length) : (b.take (i + 1)).flatMap f = (b.take i).flatMap f ++ f (b.getD i ((0 : Int),(0 : Int),([] : List Fld))):=by
  rw [← xA ((0 : Int),(0 : Int),([] : List Fld)) h,List.flatMap_append];simp
theorem flat_len (next k : Int) (a b : List Edt) : (b.flatMap (reb1 next k a)).length ≤ b.length:=(reb_len next k a b).1
theorem rebase_c {κ : Nat} (next : Int) (a b : List Edt) (ha : a.length ≤ 1000000) (hb : b.length ≤ 1000000) (hf : ∀ e ∈ b,e.2.2.length ≤ 1000000) (hi : ∀ e ∈ b,e.2.1 ≤ 1000000) (hn : 0 ≤ next) : qR Tryz.prog 66 [ii .i64 next,.one (.slk κ rEdt a),.one (.sl rEdt b)] (.one (.sl rEdt (rebB next a b))):=by
  have hia:=insA_le a;refine qP (rs:=[6]) Tryz.func66 rfl rfl rfl teOk rfl ?_;refine qC ?_;refine qB ?_;refine qC ?_;refine qB ?_;refine qC ?_;refine qB ?_;refine Or.inl ?_;refine zai (rfl) ?_;refine zei _ (zai (inserts_c a ha) ?_);refine qC ?_;refine qC ?_;refine xI 7 46 rEdt rfl ?_;refine qB ?_;refine Or.inl ?_;refine zai (rfl) ?_;refine zei _ (zai (copyE_c b hf hb) ?_);intro l3_2
  try simp only [zds] at l3_2
  refine qN ?_;refine qX (fun (i : Nat)=>i ≤ b.length) (fun (i : Nat)=>[(0,ii .i64 next),(1,.one (.slk κ rEdt a)),(7,.one (.vec 0)),(8,ii .i64 (insA a)),(14,.one (.sl rEdt b)),(15,ii .i64 b.length),(16,ii .i64 i)]) (fun (i : Nat)=>[(0,.vec 46 rEdt ((b.take i).flatMap (reb1 next (insA a) a)))]) 1 (fun (i : Nat)=>b.length - i) 0 (Nat.zero_le _) (qV ⟨rfl,rfl,rfl,rfl,rfl,rfl,rfl⟩ rfl rfl) ?_;intro i hI0;refine qC ?_;refine qB ?_;refine qC ?_;refine qI rfl (fun h17=>?_) (fun h17=>?_)
  ·try simp only [decide_eq_true_eq] at h17
   try simp only [zds] at h17
   have hil : i < b.length:=(by omega);have hsn:=flat_snoc (reb1 next (insA a) a) hil;have hbi:=hi _ (yY hil ((0 : Int),(0 : Int),([] : List Fld)));have hfl:=flat_len next (insA a) a (b.take i);rw [List.length_take] at hfl;refine qM ?_;refine qC ?_;refine qN ?_;refine qC ?_;refine qB ?_;refine zai (by first|omega|assumption|decide|(simp only [zds];omega)|(simp <;> omega)) ?_;refine qC ?_;refine qN ?_;refine qC ?_;refine qB ?_;refine qI rfl (fun h20=>?_) (fun h20=>?_)
   ·try simp only [decide_eq_true_eq] at h20
    try simp only [Int.toNat_natCast,qH,qG,qE] at h20
    have hr1 : reb1 next (insA a) a (b.getD i ((0 : Int),(0 : Int),([] : List Fld))) = [((b.getD i ((0 : Int),(0 : Int),([] : List Fld))).1,(b.getD i ((0 : Int),(0 : Int),([] : List Fld))).2.1 + insA a,(b.getD i ((0 : Int),(0 : Int),([] : List Fld))).2.2)]:=(if_pos (by omega));refine qB ?_;refine zai (by show -9223372036854775808 ≤ (b.getD i ((0 : Int),(0 : Int),([] : List Fld))).2.1 + (insA a : Int) ∧ (b.getD i ((0 : Int),(0 : Int),([] : List Fld))).2.1 + (insA a : Int) ≤ 9223372036854775807;omega) ?_;refine qB ?_;refine zai (by exact qW (show ((b.take i).flatMap (reb1 next (insA a) a)).length + 1 ≤ 1000000000 by omega) (by decide)) ?_;refine qB ?_;refine zai (by first|omega|assumption|decide|(simp only [zds];omega)|(simp <;> omega)) ?_;exact ⟨i + 1,by omega,by first|omega|(simp <;> omega),qV ⟨rfl,rfl,rfl,rfl,rfl,rfl,(yW (by omega))⟩ (xM (by rw [hsn];(first|rw [hr1]|rw [hr2,List.append_nil]|rw [hr3]);try exact rfl)) rfl⟩
   ·try simp only [decide_eq_false_iff_not,Int.not_le] at h20
    try simp only [Int.toNat_natCast,qH,qG,qE] at h20
    refine qC ?_;refine qB ?_;refine zai (fun h=>trivial) ?_;refine zai (fun h=>trivial) ?_;refine zai (fun h=>⟨⟨h,trivial⟩,trivial⟩) ?_;refine Or.inl ?_;refine zai (rfl) ?_;refine zei _ (zai (fun h=>⟨⟨⟨h,trivial⟩,⟨h,trivial⟩,trivial⟩,deletes_c a (b.getD i ((0 : Int),(0 : Int),([] : List Fld))).2.1⟩) ?_);refine zai (by exact fun h=>h) ?_;refine qI rfl (fun h30=>?_) (fun h30=>?_)
    ·try simp only [decide_eq_true_eq,Bool.and_eq_true] at h30
     try simp only [Int.toNat_natCast,qH,qG,qE] at h30
     have hr2 : reb1 next (insA a) a (b.getD i ((0 : Int),(0 : Int),([] : List Fld))) = []:=(by unfold reb1;rw [if_neg (by omega),if_pos (by simpa using h30)]);refine yA ?_;refine qB ?_;refine zai (by first|omega|assumption|decide|(simp only [zds];omega)|(simp <;> omega)) ?_;exact ⟨i + 1,by omega,by first|omega|(simp <;> omega),qV ⟨rfl,rfl,rfl,rfl,rfl,rfl,(yW (by omega))⟩ (xM (by rw [hsn];(first|rw [hr1]|rw [hr2,List.append_nil]|rw [hr3]);try exact rfl)) rfl⟩
    ·try simp only [decide_eq_false_iff_not,Bool.and_eq_false_iff] at h30
     try simp only [Int.toNat_natCast,qH,qG,qE] at h30
     have hr3 : reb1 next (insA a) a (b.getD i ((0 : Int),(0 : Int),([] : List Fld))) = [b.getD i ((0 : Int),(0 : Int),([] : List Fld))]:=(by unfold reb1;rw [if_neg (by omega),if_neg (fun h=>by have h9:=h30;simp at h9;rcases h9 with h1|h1;exact h1 (by simpa using h.1);have h2:=h.2;simp at h2;rw [h1] at h2;cases h2)]);refine qM ?_;refine qB ?_;refine zai (by exact qW (show ((b.take i).flatMap (reb1 next (insA a) a)).length + 1 ≤ 1000000000 by omega) (by decide)) ?_;refine qB ?_;refine zai (by first|omega|assumption|decide|(simp only [zds];omega)|(simp <;> omega)) ?_;exact ⟨i + 1,by omega,by first|omega|(simp <;> omega),qV ⟨rfl,rfl,rfl,rfl,rfl,rfl,(yW (by omega))⟩ (xM (by rw [hsn];(first|rw [hr1]|rw [hr2,List.append_nil]|rw [hr3]);try exact rfl)) rfl⟩
  ·try simp only [decide_eq_false_iff_not,Int.not_lt] at h17
   try simp only [zds] at h17
   refine yA ?_;refine qC ?_;refine qB ?_;refine qL ?_;rw [List.take_of_length_le (by omega)];exact rfl
theorem erB_cases {p : Int × Int} (h : p.2 ≠ 0) : (∃ n,n ≠ 0 ∧ erB p = errN n ∧ p = (-9,n)) ∨ ∃ i n,n ≠ 0 ∧ erB p = errF i n ∧ p = (i,n):=by
  unfold erB;rw [if_neg h]
  by_cases h9 : p.1 = -9
  · rw [if_pos h9];exact .inl ⟨p.2,h,rfl,Prod.ext h9 rfl⟩
  · rw [if_neg h9];exact .inr ⟨p.1,p.2,h,rfl,rfl⟩
theorem doR_zero {L : Lst} {s : List Edt} (h : (doR L s).2 = 0) : (chkB s).2 = 0 ∧ ∀ j,j < s.length → oneN (yN L s j) (s.getD j ((0 : Int),(0 : Int),([] : List Fld))) = 0:=by
  by_cases hc : (chkB s).2 = 0
  · refine ⟨hc,?_⟩;rcases doR_cases L s hc with ⟨_,h1⟩|⟨i,_,h2,h3,_⟩
    · exact h1
    · rw [h2] at h;exact absurd h h3
  · unfold doR at h;rw [if_pos hc] at h;exact absurd h hc
theorem doR_takes {L : Lst} {s : List Edt} (h : (doR L s).2 = 0) : takes L s ∧ kindsOk s ∧ (1 ≤ s.length ∧ s.length ≤ 40) ∧ doR L s = (-9,0):=by
  obtain ⟨h1,h2⟩:=doR_zero h;refine ⟨takes_of s L h2,kinds_good h1,(chkB_zero h1).1,?_⟩;rcases doR_cases L s h1 with ⟨h3,_⟩|⟨i,_,h3,h4,_⟩
  · exact h3
  · rw [h3] at h;exact absurd h h4
theorem do_no {κ κ' k c : Nat} (L : Lst) (s : List Edt) (hL : LOk c L) (hc : c + s.length ≤ 200000) (hf : ∀ e ∈ s,qT e.2.2) (h : (doR L s).2 ≠ 0) : qR Tryz.prog 13 [.one (.adk k (rLst k) L),.one (.slk κ (rEdk κ') s)] (.tup [(false,[.lit (.pointer none)]),(false,[.lit (.slice none 0 0)]),(false,[erB (doR L s)])]):=by
  rcases chkB_cases s with ⟨h0,_⟩|h1|⟨i,n,hn,h2⟩
  · have h0' : (chkB s).2 = 0:=by rw [h0]
    rcases doR_cases L s h0' with ⟨h3,_⟩|⟨q,hq,h3,hb,ht⟩
    · rw [h3] at h;exact absurd rfl h
    · rw [h3,erB_f hb];exact doBad_c L s hL hc hf h0' q hq hb ht
  · have e : doR L s = (-9,1):=by unfold doR;rw [if_pos (by rw [h1];decide),h1]
    rw [e,erB_n (by decide)];exact doN_c L s hf (by omega) 1 (by decide) h1
  · have e : doR L s = ((i : Int),n):=by unfold doR;rw [if_pos (by rw [h2];exact hn),h2]
    rw [e,erB_f hn];exact doF_c L s hf (by omega) i n hn h2
theorem takes_le : ∀ (s : List Edt) {c : Nat} {L : Lst},LOk c L → (∀ e ∈ s,qT e.2.2) → takes L s → ∀ e ∈ s,e.2.1 ≤ c + s.length
  | [],_,_,_,_,_,e,he=>by cases he
  | x :: r,c,L,h,hf,ht,e,he=>by
    rcases List.mem_cons.1 he with rfl|he
    · have h0:=ht.1;have hnx:=h.next;have hat : ¬ atE L.1 e.2.1 < 0 → e.2.1 ≤ (c : Int):=fun hn=>by
        have:=(getF_pos h (getF_some hn)).2.1;omega
      rw [List.length_cons]
      suffices hs : e.2.1 ≤ (c : Int) by omega
      unfold oneN at h0;split at h0
      · split at h0
        · cases h0
        · rename_i hn;exact hat hn
      · split at h0
        · split at h0
          · cases h0
          · rename_i hn;exact hat hn
        · split at h0
          · cases h0
          · rename_i hn
            by_cases hz : e.2.1 = 0
            · omega
            · exact hat fun hlt=>hn ⟨hlt,hz⟩
    · have:=takes_le r (doL_ok h (hf x List.mem_cons_self)) (fun e he=>hf e (List.mem_cons_of_mem _ he)) ht.2 e he;rw [List.length_cons];omega
def mrgN (L : Lst) (a b : List Edt) : Int × Int :=
  if (doR L a).2 ≠ 0 then doR L a else if (doR L b).2 ≠ 0 then doR L b else if 0 ≤ clashI L.2.1 a b then (clashI L.2.1 a b,13) else if 40 < (a ++ rebB L.2.1 a b).length then (-9,1) else (-9,0)
abbrev nilE : Bool × List C:=(false,[.lit (.slice none 0 0)])
theorem mrgC_c {k c : Nat} (L : Lst) (a b : List Edt) (hL : LOk c L) (hc : c + a.length ≤ 200000) (hc2 : c + b.length ≤ 200000) (hf : ∀ e ∈ a,qT e.2.2) (hf2 : ∀ e ∈ b,qT e.2.2) (h0 : (doR L a).2 = 0) (h3 : (doR L b).2 = 0) (h : 0 ≤ clashI L.2.1 a b) : qR Tryz.prog 28 [.one (.adk k (rLst k) L),.one (.sl rEdt a),.one (.sl rEdt b)] (.tup [nilE,(false,[errF (clashI L.2.1 a b) 13])]):=by
  obtain ⟨h1,h2⟩:=doR_zero h0;obtain ⟨h4,h5⟩:=doR_zero h3;have hok:=doOk_o (κ:=0) (κ':=0) (k:=k) L a hL hc hf h1 h2;have hok2:=doOk_o (κ:=0) (κ':=0) (k:=k) L b hL hc2 hf2 h4 h5;refine qP (rs:=[6,7]) Tryz.func28 rfl rfl rfl teOk rfl ?_;refine qC ?_;refine qB ?_;refine qC ?_;refine qC ?_;refine qB ?_;refine qI rfl (fun h16=>?_) (fun h16=>?_)
  ·try simp only [zbq] at h16
   try simp only [zds] at h16
   simp at h16
  ·skip
   refine qM ?_;refine qC ?_;refine qC ?_;refine qB ?_;intro l3_3
   try simp only [zds] at l3_3
   refine qN ?_;refine qX (fun (i : Nat)=>i ≤ 2) (fun (i : Nat)=>[(0,.one (.adk k (rLst k) L)),(1,.one (.sl rEdt a)),(2,.one (.sl rEdt b)),(20,.one (.vec 0)),(21,ii .i64 2),(22,ii .i64 i)]) (fun (i : Nat)=>[(0,.vec 22 (.sl rEdt) [a,b])]) 1 (fun (i : Nat)=>2 - i) 0 (Nat.zero_le _) (qV ⟨rfl,rfl,rfl,rfl,rfl,rfl⟩ rfl rfl) ?_;intro i hI0;refine qC ?_;refine qB ?_;refine qC ?_;refine qI rfl (fun h23=>?_) (fun h23=>?_)
   ·try simp only [decide_eq_true_eq] at h23
    try simp only [zds] at h23
    refine qM ?_;refine qC ?_;refine qN ?_;refine qC ?_;obtain rfl|rfl : i = 0 ∨ i = 1:=by omega
    ·refine qB ?_;refine zai (by first|omega|assumption|decide|(simp only [zds];omega)|(simp <;> omega)) ?_;refine zai (by first|omega|simp|decide) ?_;refine qC ?_;refine qB ?_;refine Or.inr (Or.inl (zei [] (zei [] (zei _ (zei _ (zei _ (zei _ (zei _ (zai (hok) (zai rfl (zai True.intro (zai rfl ?_))))))))))));refine qC ?_;refine qB ?_;refine qI rfl (fun h34=>?_) (fun h34=>?_)
     ·try simp only [Bool.not_eq_true'] at h34
      try simp only [zds] at h34
      simp at h34
     ·try simp only [Bool.not_eq_false'] at h34
      try simp only [zds] at h34
      refine qM ?_;refine qB ?_;refine zai (by first|omega|assumption|decide|(simp only [zds];omega)|(simp <;> omega)) ?_;exact ⟨1,by omega,by first|omega|(simp <;> omega),qV ⟨rfl,rfl,rfl,rfl,rfl,(yW (by omega))⟩ rfl rfl⟩
    ·refine qB ?_;refine zai (by first|omega|assumption|decide|(simp only [zds];omega)|(simp <;> omega)) ?_;refine zai (by first|omega|simp|decide) ?_;refine qC ?_;refine qB ?_;refine Or.inr (Or.inl (zei [] (zei [] (zei _ (zei _ (zei _ (zei _ (zei _ (zai (hok2) (zai rfl (zai True.intro (zai rfl ?_))))))))))));refine qC ?_;refine qB ?_;refine qI rfl (fun h34=>?_) (fun h34=>?_)
     ·try simp only [Bool.not_eq_true'] at h34
      try simp only [zds] at h34
      simp at h34
     ·try simp only [Bool.not_eq_false'] at h34
      try simp only [zds] at h34
      refine qM ?_;refine qB ?_;refine zai (by first|omega|assumption|decide|(simp only [zds];omega)|(simp <;> omega)) ?_;exact ⟨2,by omega,by first|omega|(simp <;> omega),qV ⟨rfl,rfl,rfl,rfl,rfl,(yW (by omega))⟩ rfl rfl⟩
   ·try simp only [decide_eq_false_iff_not,Int.not_lt] at h23
    try simp only [zds] at h23
    refine yA ?_;refine qC ?_;refine qC ?_;refine qB ?_;refine Or.inl ?_;refine zai (rfl) ?_;refine zei _ (zai (next_c L.1 L.2.1 L.2.2) ?_);refine Or.inl ?_;refine zai (rfl) ?_;refine zei _ (zai (clash_c L.2.1 a b) ?_);refine qC ?_;refine qB ?_;refine qI rfl (fun h43=>?_) (fun h43=>?_)
    ·try simp only [decide_eq_true_eq] at h43
     try simp only [zds] at h43
     refine qC ?_;refine qB ?_;refine qL ?_;rfl
    ·try simp only [decide_eq_false_iff_not,Int.not_le] at h43
     try simp only [zds] at h43
     exfalso
     omega
theorem mrgO_c {k c : Nat} (L : Lst) (a b : List Edt) (hL : LOk c L) (hc : c + a.length ≤ 200000) (hc2 : c + b.length ≤ 200000) (hf : ∀ e ∈ a,qT e.2.2) (hf2 : ∀ e ∈ b,qT e.2.2) (h0 : (doR L a).2 = 0) (h3 : (doR L b).2 = 0) (h : ¬ 0 ≤ clashI L.2.1 a b) (h40 : ¬ 40 < (a ++ rebB L.2.1 a b).length) : qR Tryz.prog 28 [.one (.adk k (rLst k) L),.one (.sl rEdt a),.one (.sl rEdt b)] (.tup [(false,[.sl rEdt (a ++ rebB L.2.1 a b)]),(false,[.lit .nilIface])]):=by
  obtain ⟨h1,h2⟩:=doR_zero h0;obtain ⟨h4,h5⟩:=doR_zero h3;have hok:=doOk_o (κ:=0) (κ':=0) (k:=k) L a hL hc hf h1 h2;have hok2:=doOk_o (κ:=0) (κ':=0) (k:=k) L b hL hc2 hf2 h4 h5;have hnx:=hL.next;have hle:=takes_le b hL hf2 (doR_takes h3).1;have hfl:=flat_len L.2.1 (insA a) a b;have hrb:=rebase_c (κ:=0) L.2.1 a b (by omega) (by omega) (fun e he=>Nat.le_trans (hf2 e he).1 (by decide)) (fun e he=>by have:=hle e he;omega) (by omega);have hcp:=copyE_o a (fun e he=>Nat.le_trans (hf e he).1 (by decide)) (by omega);have h40' : ¬ 40 < (a.length : Int) + (rebB L.2.1 a b).length:=by rw [List.length_append] at h40;omega
  have hrl : (rebB L.2.1 a b).length ≤ b.length:=hfl;refine qP (rs:=[6,7]) Tryz.func28 rfl rfl rfl teOk rfl ?_;refine qC ?_;refine qB ?_;refine qC ?_;refine qC ?_;refine qB ?_;refine qI rfl (fun h16=>?_) (fun h16=>?_)
  ·try simp only [zbq] at h16
   try simp only [zds] at h16
   simp at h16
  ·skip
   refine qM ?_;refine qC ?_;refine qC ?_;refine qB ?_;intro l3_3
   try simp only [zds] at l3_3
   refine qN ?_;refine qX (fun (i : Nat)=>i ≤ 2) (fun (i : Nat)=>[(0,.one (.adk k (rLst k) L)),(1,.one (.sl rEdt a)),(2,.one (.sl rEdt b)),(20,.one (.vec 0)),(21,ii .i64 2),(22,ii .i64 i)]) (fun (i : Nat)=>[(0,.vec 22 (.sl rEdt) [a,b])]) 1 (fun (i : Nat)=>2 - i) 0 (Nat.zero_le _) (qV ⟨rfl,rfl,rfl,rfl,rfl,rfl⟩ rfl rfl) ?_;intro i hI0;refine qC ?_;refine qB ?_;refine qC ?_;refine qI rfl (fun h23=>?_) (fun h23=>?_)
   ·try simp only [decide_eq_true_eq] at h23
    try simp only [zds] at h23
    refine qM ?_;refine qC ?_;refine qN ?_;refine qC ?_;obtain rfl|rfl : i = 0 ∨ i = 1:=by omega
    ·refine qB ?_;refine zai (by first|omega|assumption|decide|(simp only [zds];omega)|(simp <;> omega)) ?_;refine zai (by first|omega|simp|decide) ?_;refine qC ?_;refine qB ?_;refine Or.inr (Or.inl (zei [] (zei [] (zei _ (zei _ (zei _ (zei _ (zei _ (zai (hok) (zai rfl (zai True.intro (zai rfl ?_))))))))))));refine qC ?_;refine qB ?_;refine qI rfl (fun h34=>?_) (fun h34=>?_)
     ·try simp only [Bool.not_eq_true'] at h34
      try simp only [zds] at h34
      simp at h34
     ·try simp only [Bool.not_eq_false'] at h34
      try simp only [zds] at h34
      refine qM ?_;refine qB ?_;refine zai (by first|omega|assumption|decide|(simp only [zds];omega)|(simp <;> omega)) ?_;exact ⟨1,by omega,by first|omega|(simp <;> omega),qV ⟨rfl,rfl,rfl,rfl,rfl,(yW (by omega))⟩ rfl rfl⟩
    ·refine qB ?_;refine zai (by first|omega|assumption|decide|(simp only [zds];omega)|(simp <;> omega)) ?_;refine zai (by first|omega|simp|decide) ?_;refine qC ?_;refine qB ?_;refine Or.inr (Or.inl (zei [] (zei [] (zei _ (zei _ (zei _ (zei _ (zei _ (zai (hok2) (zai rfl (zai True.intro (zai rfl ?_))))))))))));refine qC ?_;refine qB ?_;refine qI rfl (fun h34=>?_) (fun h34=>?_)
     ·try simp only [Bool.not_eq_true'] at h34
      try simp only [zds] at h34
      simp at h34
     ·try simp only [Bool.not_eq_false'] at h34
      try simp only [zds] at h34
      refine qM ?_;refine qB ?_;refine zai (by first|omega|assumption|decide|(simp only [zds];omega)|(simp <;> omega)) ?_;exact ⟨2,by omega,by first|omega|(simp <;> omega),qV ⟨rfl,rfl,rfl,rfl,rfl,(yW (by omega))⟩ rfl rfl⟩
   ·try simp only [decide_eq_false_iff_not,Int.not_lt] at h23
    try simp only [zds] at h23
    refine yA ?_;refine qC ?_;refine qC ?_;refine qB ?_;refine Or.inl ?_;refine zai (rfl) ?_;refine zei _ (zai (next_c L.1 L.2.1 L.2.2) ?_);refine Or.inl ?_;refine zai (rfl) ?_;refine zei _ (zai (clash_c L.2.1 a b) ?_);refine qC ?_;refine qB ?_;refine qI rfl (fun h43=>?_) (fun h43=>?_)
    ·try simp only [decide_eq_true_eq] at h43
     try simp only [zds] at h43
     exact absurd h43 h
    ·try simp only [decide_eq_false_iff_not,Int.not_le] at h43
     try simp only [zds] at h43
     refine qM ?_;refine qC ?_;refine qB ?_;refine Or.inr (Or.inl (zei [] (zei [] (zei _ (zei _ (zei _ (zei _ (zei _ (zai (hcp) (zai rfl (zai True.intro (zai rfl ?_))))))))))));refine Or.inl ?_;refine zai (rfl) ?_;refine zei _ (zai (next_c L.1 L.2.1 L.2.2) ?_);refine Or.inl ?_;refine zai (rfl) ?_;refine zei _ (zai (hrb) ?_);refine zai (by exact qW (show a.length + (rebB L.2.1 a b).length ≤ 1000000000 by omega) (by decide)) ?_;refine qC ?_;refine qC ?_;refine qB ?_;intro l14_1
     try simp only [zds] at l14_1
     refine qI rfl (fun h59=>?_) (fun h59=>?_)
     ·try simp only [decide_eq_true_eq] at h59
      try simp only [zds] at h59
      exfalso
      simp [Rd.move_rfl] at h59;omega
     ·try simp only [decide_eq_false_iff_not,Int.not_lt] at h59
      try simp only [zds] at h59
      refine qM ?_;refine qC ?_;refine qB ?_;refine qL ?_;rfl
def alMa : List Edt:=[(2,1,[])]
def alMb : List Edt:=[(1,1,[(⟨#[65]⟩,ByteArray.empty)])]
theorem alMa_ok : ∀ e ∈ alMa,qT e.2.2:=fun e he=>by rw [List.mem_singleton.1 he];exact ⟨by decide,by decide⟩
theorem alMb_ok : ∀ e ∈ alMb,qT e.2.2:=fun e he=>by rw [List.mem_singleton.1 he];exact ⟨by decide,by decide⟩
theorem alM_clash {k : Nat} : qR Tryz.prog 28 [.one (.adk k (rLst k) (al0,2,1)),.one (.sl rEdt alMa),.one (.sl rEdt alMb)] (.tup [nilE,(false,[errF 0 13])]):=by
  have hL : LOk 9000 (al0,2,1):=of_lok (s:=⟨#[65,58,32,49,10]⟩) (by decide) a1_parse7;have h:=mrgC_c (k:=k) (al0,2,1) alMa alMb hL (by decide) (by decide) alMa_ok alMb_ok (by decide +kernel) (by decide +kernel) (by decide +kernel);rw [show clashI 2 alMa alMb = 0 by decide +kernel] at h;exact h
theorem alive23_c : qR Tryz.prog 26 [] (ib true):=by
  have hof:=of_ok ⟨#[65,58,32,49,10]⟩ (by decide) a1_parse7;rw [show ofT [(3,⟨#[65,58,32,49,10]⟩,[(⟨#[65]⟩,⟨#[49]⟩)])] = (al0,2,1) from rfl] at hof;have hm:=alM_clash (k:=1);refine qP (rs:=[0]) Tryz.func26 rfl rfl rfl teOk rfl ?_;refine qC ?_;refine qB ?_;refine qC ?_;refine qB ?_;refine Or.inr (Or.inl (zei [] (zei [] (zei _ (zei _ (zei _ (zei _ (zei _ (zai (hof) (zai rfl (zai True.intro (zai rfl ?_))))))))))));refine qC ?_;refine qC ?_;refine qB ?_;refine zai (fun h=>trivial) ?_;refine zai (fun h=>⟨⟨h,trivial⟩,trivial⟩) ?_;refine zai (by first|(intro h;rw [h];rfl)|(intro h;cases h)) ?_;refine qI rfl (fun h12=>?_) (fun h12=>?_)
  ·try simp only [Bool.not_eq_true',Bool.or_eq_true] at h12
   try simp only [zds] at h12
   simp at h12
  ·try simp only [Bool.not_eq_false',Bool.or_eq_false_iff] at h12
   try simp only [zds] at h12
   refine qM ?_;refine qC ?_;refine qB ?_;refine Or.inl ?_;refine zai (rfl) ?_;refine zei _ (zai (hm) ?_);refine qC ?_;refine qB ?_;refine Or.inl ?_;refine zai (rfl) ?_;refine zei _ (zai (is_fault 0 13 (by decide)) ?_);refine zai (fun h=>trivial) ?_;refine Or.inl ?_;refine zai (rfl) ?_;refine zei _ (zai (fun h=>⟨⟨⟨h,trivial⟩,trivial⟩,at_fault 0 13⟩) ?_);refine zai (fun h=>⟨⟨h,trivial⟩,trivial⟩) ?_;refine zai (by exact fun h=>h) ?_;refine qL ?_;rfl
theorem mrg_ok {L : Lst} {a b : List Edt} (h : (mrgN L a b).2 = 0) : (doR L a).2 = 0 ∧ (doR L b).2 = 0 ∧ ¬ 0 ≤ clashI L.2.1 a b ∧ ¬ 40 < (a ++ rebB L.2.1 a b).length:=by
  unfold mrgN at h;split at h
  · rename_i h1;exact absurd h h1
  · rename_i h1;split at h
    · rename_i h2;exact absurd h h2
    · rename_i h2;split at h
      · cases h
      · rename_i h3;split at h
        · cases h
        · rename_i h4;exact ⟨Classical.not_not.1 h1,Classical.not_not.1 h2,h3,h4⟩
def getG (L : Lst) (id : Int) : List Fld × Bool:=(if atE L.1 id < 0 then [] else getL L.1 id,decide (0 ≤ atE L.1 id))
theorem getG_eq {A B : Lst} {id j : Int} (h : getF A id = getF B j) : getG A id = getG B j:=by
  unfold getF at h;unfold getG
  by_cases h1 : atE A.1 id < 0
  · rw [if_pos h1] at h
    by_cases h2 : atE B.1 j < 0
    · rw [if_pos h1,if_pos h2,decide_eq_false (by omega),decide_eq_false (by omega)]
    · rw [if_neg h2] at h;cases h
  · rw [if_neg h1] at h
    by_cases h2 : atE B.1 j < 0
    · rw [if_pos h2] at h;cases h
    · rw [if_neg h2] at h;rw [if_neg h1,if_neg h2,decide_eq_true (by omega),decide_eq_true (by omega),Option.some.inj h]
theorem getG_c {k : Nat} (L : Lst) (id : Int) (hf : ∀ e ∈ L.1,e.1.2.2.length ≤ 1000000) : qR Tryz.prog 68 [.one (.adk k (rLst k) L),ii .i64 id] (.tup [(false,[.sl rFld (getG L id).1]),(false,[.lit (.bool (getG L id).2)])]):=get_c L.1 L.2.1 L.2.2 id hf
theorem alike_t {k k' : Nat} (A B : Lst) (id j : Int) (hA : ∀ e ∈ A.1,e.1.2.2.length ≤ 1000000) (hB : ∀ e ∈ B.1,e.1.2.2.length ≤ 1000000) (h : getF A id = getF B j) : qR Tryz.prog 31 [.one (.adk k (rLst k) A),ii .i64 id,.one (.adk k' (rLst k') B),ii .i64 j] (ib true):=by
  have h1:=getG_c (k:=k) A id hA;have h2:=getG_c (k:=k') B j hB;rw [getG_eq h] at h1;obtain ⟨g,hg⟩ : ∃ g,getG B j = g:=⟨_,rfl⟩;rw [hg] at h1 h2;refine qP (rs:=[8]) Tryz.func31 rfl rfl rfl teOk rfl ?_;refine qC ?_;refine qB ?_;refine qC ?_;refine qB ?_;refine Or.inl ?_;refine zai (rfl) ?_;refine zei _ (zai (h1) ?_);refine qC ?_;refine qB ?_;refine Or.inl ?_;refine zai (rfl) ?_;refine zei _ (zai (h2) ?_);refine qC ?_;refine qB ?_;refine zai (fun h=>trivial) ?_;refine zai (fun h=>trivial) ?_;refine Or.inl ?_;refine zai (rfl) ?_;refine zei _ (zai (fun h=>⟨⟨⟨h,trivial⟩,⟨h,trivial⟩,trivial⟩,fieldsk_c (κ:=0) g.1 g.1⟩) ?_);refine zai (by exact fun h=>h) ?_;refine qL ?_;exact ib_eq (by simp)
end Q
end Ab
end Go.Proofs.YtpfkncffaanjcaaGreatDoor
