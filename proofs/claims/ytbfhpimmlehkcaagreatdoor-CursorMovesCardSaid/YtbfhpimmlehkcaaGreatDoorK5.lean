/-
  The texts of this proof, joined: abstract values, the library, the functions of the program and what they compute (part 5). No condition.
-/
import Derived.Lib.UnsafeStr
import Derived.Shelf.RegionOpenPlain
import Derived.Shelf.Spec.SlicesInsert
import Derived.Lib.AppendZerosOnto
import Derived.Laws.NewBlocks
import Derived.Lib.SplitLaws
import Derived.Lib.Join
import Derived.Shelf.Vars
import Derived.KernelRfl
import Derived.Test.YtbfhpimmlehkcaaGreatDoorK1
import Derived.Test.YtbfhpimmlehkcaaGreatDoorK2
import Derived.Test.YtbfhpimmlehkcaaGreatDoorK3
import Derived.Test.YtbfhpimmlehkcaaGreatDoorK4
namespace Go.Proofs.YtbfhpimmlehkcaaGreatDoor
open Go.RowKit
namespace Ab
set_option maxRecDepth 100000
set_option maxHeartbeats 2000000
namespace Q
abbrev z4 : List Value:=[.int .i64 0,.string ⟨#[]⟩,.slice none 0 0,.int .i64 0]
theorem step_append_runI {P : Program} {ops : Array Oper} {o : Oper} {a : Act} {w : World} {K : Act → World → Prop} {Q : Exit → Act → World → Prop} {E : Prop}
    (hg : o.guard = none) (d x : Operand) (dT sT : TypeId) (hop : o.op = Op.call { callee:=Callee.builtin Builtin.append,args:=#[d,x],argTypes:=#[dT,sT] })
    (v u : Value) (hd : a.eval d = v) (hx : a.eval x = u) {v' : Value} {w' : World} (hr : (Builtin.append_ #[dT,sT] o.type #[v,u]).run P w = .ok v' w') (hK : K (a.put o.dst v') w') :
    if Region.wanted o (yielded ops a.tmps) = true then Oper.wp P o a w K Q else E:=by
  have hw : Region.wanted o (yielded ops a.tmps) = true:=by simp [Region.wanted,hg]
  rw [if_pos hw];unfold Oper.wp;simp [execOp,hop,resolve,invoke,builtin,hd,hx,hr,Result.andThen];exact hK
theorem wpList_clear_runI {P : Program} (w : World) {ops : Array Oper} {rest : List Oper} {o : Oper} {a : Act} {Q : Exit → Act → World → Prop} (hgd : o.guard = none) (d : Operand) (t : TypeId)
    (ho : o.op = .call { callee:=.builtin .clear,args:=#[d],argTypes:=#[t] }) (v : Value) (hd : a.eval d = v) {v' : Value} {w' : World}
    (hr : (Builtin.clear_ #[t] o.type #[v]).run P w = .ok v' w') (h : wpList P ops Q rest (a.put o.dst v') w') : wpList P ops Q (o :: rest) a w :=
  wpList_plain hgd fun K hK=>by
    unfold Oper.wp execOp;simp only [ho,resolve,invoke,builtin,Sem.run_bind,Sem.run_pure,Result.andThen_ok,List.map_toArray,List.map_cons,List.map_nil,hd,hr];exact hK _ _ h
theorem zs_len {P : Program} {t : TypeId} {i : TyI} (h : TyOk P t i) (n : Nat) : (Builtin.zeroCells i.zeroV.cells n).toList.length = n * i.size:=by
  rw [Array.length_toList,size_zeroCells,h.zeroCells,List.size_toArray,h.zlen]
theorem zs_one {P : Program} {t : TypeId} {i : TyI} (h : TyOk P t i) (n : Nat) : ∀ v ∈ (Builtin.zeroCells i.zeroV.cells n).toList,v.oneCell' = true:=by
  intro v hv;unfold Builtin.zeroCells at hv;rw [h.zeroCells] at hv;simp only [Array.toList_map,Array.toList_range,List.mem_map,List.mem_range,List.size_toArray] at hv;obtain ⟨k,hk,rfl⟩:=hv;have hlt : k % i.zero.length < i.zero.length:=Nat.mod_lt _ (by
    rcases Nat.eq_zero_or_pos i.zero.length with h0|h0
    · rw [h0,Nat.mul_zero] at hk;omega
    · exact h0)
  have e : (i.zero.toArray)[k % i.zero.length]! = i.zero[k % i.zero.length]:=by simp [hlt]
  rw [e];exact plain_one (h.zplain _ (List.getElem_mem hlt))
theorem run_clear_row {P : Program} {t e ty : TypeId} {ei : TyI} (ht : P.underlying t = some (.slice e)) (he : TyOk P e ei) (w : World) (b o n c : Nat) {cur : Array Value} {T : TypeId} (hb : w.heap[b]? = some (.cells cur T (0,0))) (hn : 0 < n) (hfit : o + n * ei.size ≤ cur.size) :
    (Builtin.clear_ #[t] ty #[.slice (some ⟨b,o,none⟩) n c]).run P w = .ok (.tuple #[]) (w.setRow b (cur.toList.take o ++ (Builtin.zeroCells ei.zeroV.cells n).toList ++ cur.toList.drop (o + n * ei.size)).toArray):=by
  have hst:=run_storeCells_at P b o T (Builtin.zeroCells ei.zeroV.cells n).toList 0 cur w hb (by rw [zs_len he];omega) (zs_one he n);simp only [Nat.add_zero,zs_len he] at hst;obtain ⟨m,rfl⟩ : ∃ m,n = m + 1:=⟨n - 1,by omega⟩;simp [Builtin.clear_,run_underlying ht,he.zeroValue,hst]
theorem tyEnt : TyOk Tryz.prog 112 ty112:=tyOk112
theorem del_w (b cap n i j : Nat) (cur : Array Value) (w : World) (hb : w.heap[b]? = some (.cells cur 112 (0,0))) (hcs : cur.size = cap * 4) (hnc : n ≤ cap) (_hcm : cap ≤ maxLen) (hij : i < j) (hj : j ≤ n) (h1 : ∀ v ∈ cur.toList.take (n * 4),v.oneCell' = true) :
    Calls Tryz.prog 62 #[.slice (some ⟨b,0,none⟩) n cap,.int .i64 i,.int .i64 j] w fun e w'=>e = .returned (.slice (some ⟨b,0,none⟩) (n - (j - i)) cap) ∧ ∃ cur',Grew w w' (some b) ∧ w'.heap[b]? = some (.cells cur' 112 (0,0)) ∧ cur'.size = cap * 4 ∧ cur'.toList.take ((n - (j - i)) * 4) = cur.toList.take (i * 4) ++ (cur.toList.drop (j * 4)).take ((n - j) * 4):=by
  have mixed : Tryz.prog.follows .mixedOrders = true:=by kernel_rfl
  have hic : i ≤ cap:=by omega
  have hjc : j ≤ cap:=by omega
  obtain ⟨news,hnews⟩ : ∃ news,(cur.toList.drop (j * 4)).take ((n - j) * 4) = news:=⟨_,rfl⟩;have hlen : news.length = (n - j) * 4:=by
    rw [← hnews,List.length_take,List.length_drop,Array.length_toList,hcs];have : (n - j) * 4 ≤ cap * 4 - j * 4:=by omega
    omega
  obtain ⟨i0,hi0,hz0,hz1,hz2⟩:=tyEnt.info;obtain ⟨A,hA,hsrc⟩ : ∃ A : Addr,(if cap = j then (some ⟨b,0,none⟩ : Option Addr) else some ⟨b,j * 4,none⟩) = some A ∧ (∀ t u,news[t]? = some u → w.drew.cell? (A.add t) = some u):=by
    by_cases h : cap = j
    · refine ⟨_,if_pos h,fun t u hu=>?_⟩;have h0 : news.length = 0:=by rw [hlen];omega
      rw [List.length_eq_zero_iff.1 h0] at hu;simp at hu
    · refine ⟨_,if_neg h,fun t u hu=>?_⟩;have ht:=(List.getElem?_eq_some_iff.1 hu).1;rw [← hnews,List.getElem?_take_of_lt (by omega),List.getElem?_drop] at hu;rw [Go.WideShapes.add_plain];show w.cell? _ = _;simp only [World.cell?,hb,Option.isSome_none,Bool.false_eq_true,if_false];rw [← hu];simp
  have hone : ∀ u ∈ news,u.oneCell' = true:=by
    intro u hu;rw [← hnews,show (n - j) * 4 = n * 4 - j * 4 by omega,← List.drop_take] at hu;exact h1 u (List.mem_of_mem_drop hu)
  obtain ⟨cur1,hcur1⟩ : ∃ c : Array Value,(cur.toList.take (i * 4) ++ news ++ cur.toList.drop (i * 4 + news.length)).toArray = c:=⟨_,rfl⟩;have hsz1 : cur1.size = cap * 4:=by
    rw [← hcur1];simp only [List.size_toArray,List.length_append,List.length_take,List.length_drop,Array.length_toList,hcs,hlen];omega
  obtain ⟨W1,hW1⟩ : ∃ W1,w.drew.setRow b cur1 = W1:=⟨_,rfl⟩;have hap : ∀ ty,(Builtin.append_ #[106,106] ty #[.slice (some ⟨b,0,none⟩) i cap,.slice (some A) (n - j) (cap - j)]).run Tryz.prog w.drew = .ok (.slice (some ⟨b,0,none⟩) (i + (n - j)) cap) W1:=by
    intro ty;have:=run_append_room (P:=Tryz.prog) w.drew 106 ty 112 i0 Tryz.underlying106 hi0 b i cap cur hb A (n - j) (cap - j) news (by rw [hlen,hz0];rfl) hsrc hone (by omega) (by rw [hz0,hlen,hcs];show i * 4 + _ ≤ _;omega);rw [show i0.size = 4 from hz0,hcur1,hW1] at this;exact this
  have hb1 : W1.heap[b]? = some (.cells cur1 112 (0,0)):=by rw [← hW1];exact setRow_heap w.drew b cur cur1 _ _ hb
  have hk : i + (n - j) < n:=by omega
  have hkc : ¬ cap = i + (n - j):=by omega
  obtain ⟨W2,cur2,hW2,hcl⟩ : ∃ W2 cur2,W2 = W1.setRow b cur2 ∧ cur2.size = cap * 4 ∧ cur2.toList.take ((i + (n - j)) * 4) = cur1.toList.take ((i + (n - j)) * 4) ∧ ∀ ty,(Builtin.clear_ #[106] ty #[.slice (some ⟨b,(i + (n - j)) * 4,none⟩) (n - (i + (n - j))) (cap - (i + (n - j)))]).run Tryz.prog W1 = .ok (.tuple #[]) W2:=by
    have hz:=zs_len tyEnt (n - (i + (n - j)));have hz4 : ty112.size = 4:=rfl;rw [hz4] at hz;refine ⟨_,_,rfl,?_,?_,fun ty=>run_clear_row Tryz.underlying106 tyEnt W1 b _ _ _ hb1 (by omega) (by rw [hsz1,hz4];omega)⟩
    · simp only [List.size_toArray,List.length_append,List.length_take,List.length_drop,Array.length_toList,hsz1,hz,hz4];omega
    · rw [List.append_assoc,List.take_append_of_le_length (by rw [List.length_take,Array.length_toList,hsz1];omega),List.take_take,Nat.min_self]
  obtain ⟨hsz2,htk,hcl⟩:=hcl;have fin : W2.heap[b]? = some (.cells cur2 112 (0,0)) ∧ Grew w W2 (some b):=by
    rw [hW2];exact ⟨setRow_heap W1 b cur1 cur2 _ _ hb1,by rw [← hW1,setRow_setRow];exact ⟨rfl,rfl,rfl,by simp,fun k hk hne=>setRow_other w.drew b k _ (fun e=>hne (by rw [e]))⟩⟩
  have hres : cur2.toList.take ((i + (n - j)) * 4) = cur.toList.take (i * 4) ++ news:=by
    rw [htk,← hcur1,List.take_append_of_le_length (by simp only [List.length_append,List.length_take,Array.length_toList,hcs,hlen];omega),List.take_of_length_le (by simp only [List.length_append,List.length_take,Array.length_toList,hcs,hlen];omega)]
  have hnn : n - (j - i) = i + (n - j):=by omega
  rw [hnn];rw [← hnews] at hres;clear hW2 hW1 htk hcur1 hb hb1 hsrc hone hlen hnews h1
  go_enter Tryz.func62,Tryz.ntmps62
  go_wp2
  go_region_law_o (refine step_append_runI rfl (.tmp 22) (.tmp 25) 106 106 rfl (.slice (some ⟨b,0,none⟩) i cap) (.slice (some A) (n - j) (cap - j)) (by simp [Act.eval,Act.put]) (by simp [Act.eval,Act.put]) (hap _) ?_)
  go_wp2_with (at_builtin;refine wpList_clear_runI _ rfl _ _ rfl _ rfl (hcl _) ?_)
  go_ret
  exact ⟨rfl,cur2,fin.2,fin.1,hsz2,hres⟩
end Q
end Ab
end Go.Proofs.YtbfhpimmlehkcaaGreatDoor
namespace Go.Proofs.YtbfhpimmlehkcaaGreatDoor
open Go.RowKit
namespace Ab
set_option maxRecDepth 100000
set_option maxHeartbeats 4000000
namespace Q
def RowTo (w w' : World) (v u : Value) (n : Nat) (cs : List Value) : Prop :=
  w'.ownsRow 0 112 4 u n cs ∧ Grew w w' (blk (some v)) ∧ (∀ b,blk (some u) = some b → blk (some v) = some b ∨ (w.heap.size ≤ b ∧ b < w'.heap.size)) ∧ ∃ a n c,u = .slice a n c
theorem rowCells {w : World} {b n cap : Nat} {cs : List Value} (h : w.ownsRow 0 112 4 (.slice (some ⟨b,0,none⟩) n cap) n cs) : ∃ cur,w.heap[b]? = some (.cells cur 112 (0,0)) ∧ n ≤ cap ∧ cap ≤ maxLen ∧ cur.size = cap * 4 ∧ cur.toList.take (n * 4) = cs ∧ cs.length = n * 4:=by
  rcases h.2 with ⟨h0,_⟩|⟨g,c,cur,hsl,_,hg,hnc,hcm,hcs,htake⟩
  · cases h0
  · injection hsl with e1 e2 e3
    injection e1 with e1
    injection e1 with e1 _ _
    subst e1 e3;exact ⟨cur,hg,hnc,hcm,hcs,htake,h.1⟩
theorem take4 {α : Type} (l : List α) (a b : Nat) (h : a ≤ b) : (l.take b).take a = l.take a:=by rw [List.take_take,Nat.min_eq_left h]
end Q
end Ab
end Go.Proofs.YtbfhpimmlehkcaaGreatDoor
namespace Go.Proofs.YtbfhpimmlehkcaaGreatDoor
open Go.RowKit
namespace Ab
set_option maxRecDepth 100000
namespace Q
theorem flat_take {n : Nat} : ∀ (css : List (List Value)) (k : Nat),(∀ c ∈ css,c.length = n) → (css.take k).flatten = css.flatten.take (k * n)
  | [],_,_=>by simp
  | c :: r,0,_=>by simp
  | c :: r,k + 1,h=>by
    have h0 : c.length = n:=h c (by simp);have ih:=flat_take r k fun d hd=>h d (by simp [hd])
    rw [List.take_succ_cons,List.flatten_cons,List.flatten_cons,ih,Nat.add_mul,Nat.one_mul,Nat.add_comm (k * n) n]
    conv=>rhs;rw [← h0]
    rw [List.take_length_add_append,h0]
theorem flat_drop {n : Nat} : ∀ (css : List (List Value)) (k : Nat),(∀ c ∈ css,c.length = n) → (css.drop k).flatten = css.flatten.drop (k * n)
  | [],_,_=>by simp
  | c :: r,0,_=>by simp
  | c :: r,k + 1,h=>by
    have h0 : c.length = n:=h c (by simp);have ih:=flat_drop r k fun d hd=>h d (by simp [hd])
    rw [List.drop_succ_cons,List.flatten_cons,ih,Nat.add_mul,Nat.one_mul,Nat.add_comm (k * n) n,← List.drop_drop,← h0,List.drop_left,h0]
section
variable {cx : Cx} {ob : Obs} {nx : Nat} {ρ : Nat → Option Value} {w w' : World}
theorem ent_lens {ok : Oks} {xs : List Ent} {css : List (List Value)} (h1 : css.length = xs.length) (h2 : ∀ i (h : i < xs.length),rEnt.is ok w (css.getD i []) xs[i]) : ∀ c ∈ css,c.length = 4:=css_lens h1 h2
theorem ent_ones {ok : Oks} {xs : List Ent} {css : List (List Value)} (h1 : css.length = xs.length) (h2 : ∀ i (h : i < xs.length),rEnt.is ok w (css.getD i []) xs[i]) : ∀ v ∈ css.flatten,v.oneCell' = true:=css_ones h1 h2
theorem row_st (hs : StOk cx [] ob nx ρ ⟨#[],[]⟩ w) {xs xs' : List Ent} (hg : getO ob 0 = some (.vec 112 rEnt xs)) {v u : Value} (hv : ρ 0 = some v) {css' : List (List Value)} (hl : css'.length = xs'.length)
    (hR : ∀ i (h : i < xs'.length),rEnt.is (okOf cx ρ ob) w (css'.getD i []) xs'[i]) (hrow : RowTo w w' v u xs'.length css'.flatten) :
    ∃ ρ',StOk cx [] (setO 0 (.vec 112 rEnt xs') (subOb 0 .any ob)) nx ρ' ⟨#[],[]⟩ w' ∧ (C.vec 0).rep (okOf cx ρ' (setO 0 (.vec 112 rEnt xs') (subOb 0 .any ob))) ρ' w' u:=by
  obtain ⟨h1,h2,h3,h4⟩:=hrow;rw [← hv] at h2;have h3' : ∀ b,blk (some u) = some b → blk (ρ 0) = some b ∨ (w.heap.size ≤ b ∧ b < w'.heap.size):=by rw [hv];exact h3
  have hkp:=okOf_swap (o':=.vec 112 rEnt xs') hs hg h2 (fun b hb=>(h3' b hb).imp (fun h=>h) (·.1));refine ⟨upd ρ 0 u,hs.swap hg h2 h3' ⟨u,yL,css',hl,fun i hi=>Rd.kept _ hkp (hR i hi),h1⟩,yL,h4⟩
end
theorem getD_app {α : Type} (a b : List α) (i : Nat) (d : α) : (a ++ b).getD i d = if i < a.length then a.getD i d else b.getD (i - a.length) d:=by
  simp only [List.getD_eq_getElem?_getD];split
  · rename_i h;rw [List.getElem?_append_left h]
  · rename_i h;rw [List.getElem?_append_right (by omega)]
theorem delete_x (xs : List Ent) (i j : Nat) (hij : i < j) (hj : j ≤ xs.length) : ACallX Tryz.prog 62 [.one (.vec 0),ii .i64 i,ii .i64 j] [(0,.vec 112 rEnt xs)] 1 (.one (.vec 0)) [(0,.vec 112 rEnt (xs.take i ++ xs.drop j))] 1 []:=by
  refine ⟨⟨_,Tryz.func62,rfl,rfl⟩,fun cx ρ w vs _ _ _ hs hvs=>?_⟩;obtain ⟨v,r1,rfl,⟨hv,_⟩,vi,r2,rfl,hvi,vj,r3,rfl,hvj,hr3⟩:=hvs;rw [show r3 = [] from hr3,show vi = _ from hvi,show vj = _ from hvj];obtain ⟨v',hv',css,h1,h2,hown⟩ : ∃ v,ρ 0 = some v ∧ VecOk (okOf cx ρ [(0,.vec 112 rEnt xs)]) w v 112 rEnt xs:=hs.obs (0,.vec 112 rEnt xs) (by simp);rw [hv] at hv';obtain rfl:=Option.some.inj hv';have hfl:=ent_lens h1 h2;have hon:=ent_ones h1 h2;rcases id hown.2 with ⟨_,h0⟩|⟨b,cap,cur,rfl,_⟩
  · omega
  obtain ⟨cur,hb,hnc,hcm,hcz,htk,hcl⟩:=rowCells hown;refine (del_w b cap xs.length i j cur w hb hcz hnc hcm hij hj (by rw [htk];exact hon)).mono ?_
  rintro e w' ⟨rfl,cur',hgr,hb',hcz',hrow⟩
  have hnl : xs.length - (j - i) = (xs.take i ++ xs.drop j).length:=by rw [List.length_append,List.length_take,List.length_drop];omega
  have hf : (css.take i ++ css.drop j).flatten = cur.toList.take (i * 4) ++ (cur.toList.drop (j * 4)).take ((xs.length - j) * 4):=by
    rw [List.flatten_append,flat_take css i hfl,flat_drop css j hfl,← htk,take4 _ _ _ (by omega),List.drop_take]
    congr 2
    omega
  have hown' : w'.ownsRow 0 112 4 (.slice (some ⟨b,0,none⟩) (xs.length - (j - i)) cap) (xs.length - (j - i)) (css.take i ++ css.drop j).flatten:=by
    rw [hf,← hrow];have hcl' : cur'.toList.length = cap * 4:=by simpa using hcz'
    exact ⟨by rw [List.length_take,hcl'];omega,.inr ⟨b,cap,cur',rfl,Nat.zero_le _,hb',by omega,hcm,hcz',rfl⟩⟩
  rw [hnl] at hown' ⊢;obtain ⟨ρ',h3,h4⟩:=row_st (xs':=xs.take i ++ xs.drop j) (css':=css.take i ++ css.drop j) (u:=.slice (some ⟨b,0,none⟩) (xs.take i ++ xs.drop j).length cap) hs rfl hv (by simp [h1]) (fun k hk=>by
    rw [List.length_append,List.length_take,List.length_drop] at hk;rw [getD_app,List.getElem_append];simp only [List.length_take,h1];split
    · rename_i hlt;have:=h2 k (by omega);rw [List.getElem_take];rw [List.getD_eq_getElem?_getD] at this ⊢;rw [List.getElem?_take_of_lt (by omega)];exact this
    · rename_i hlt;have:=h2 (j + (k - min i xs.length)) (by omega);rw [List.getElem_drop];rw [List.getD_eq_getElem?_getD] at this ⊢;rw [List.getElem?_drop];exact this) ⟨hown',hgr,fun _ h=>.inl h,_,_,_,rfl⟩
  exact ⟨_,ρ',rfl,h3,h4,fun k hk=>by cases hk⟩
end Q
end Ab
end Go.Proofs.YtbfhpimmlehkcaaGreatDoor
namespace Go.Proofs.YtbfhpimmlehkcaaGreatDoor
open Go.RowKit
namespace Ab
set_option maxRecDepth 100000
namespace Q
def recsT (l : List Itm) : List (List Fld):=(l.filter fun x=>decide (x.1 = 3)).map (·.2.2)
def fldL (a : List Fld) : List ByteArray:=a.flatMap fun f=>lineB f.1 f.2
def textT : List (List Fld) → List ByteArray
  | []=>[]
  | [a]=>fldL a
  | a :: b :: r=>fldL a ++ (⟨#[]⟩ :: textT (b :: r))
def GoodS (a : List Fld) : Prop:=a ≠ [] ∧ a.length ≤ 40 ∧ ∀ f ∈ a,checkF f = 0
end Q
end Ab
end Go.Proofs.YtbfhpimmlehkcaaGreatDoor
namespace Go.Proofs.YtbfhpimmlehkcaaGreatDoor
open Go.RowKit
namespace Ab
set_option maxRecDepth 100000
namespace Q
def badAt : Int → List Fld → Int × Int
  | _,[]=>(-9,0)
  | i,f :: r=>if checkF f ≠ 0 then (i,checkF f) else badAt (i + 1) r
def chkR (l : List Fld) : Int × Int:=if l = [] then (-9,2) else if 40 < l.length then (-9,11) else badAt 0 l
def chkA (l : List Fld) : C:=if (chkR l).2 = 0 then .lit .nilIface else if (chkR l).1 = -9 then errN (chkR l).2 else errF (chkR l).1 (chkR l).2
end Q
end Ab
end Go.Proofs.YtbfhpimmlehkcaaGreatDoor
namespace Go.Proofs.YtbfhpimmlehkcaaGreatDoor
open Go.RowKit
namespace Ab
set_option maxRecDepth 100000
namespace Q
theorem yS {k : Nat} (l : List Fld) (hl : l.length ≤ 1000000) : qT Tryz.prog 82 [.one (.slk k rFld l)] (.one (.sl rFld l)):=by
  refine qS (rs:=[2]) Tryz.func82 rfl rfl rfl teOk rfl ?_;refine qC ?_;refine qB ?_;refine qC ?_;refine qC ?_;refine acode_isnil (q:=k) [_] _ (R:=rFld) (xs:=l) rfl rfl rfl rfl (e:=85) rfl rfl ?_;refine ⟨rfl,fun b hb=>?_⟩;refine qK rfl (fun h4=>?_) (fun h4=>?_)
  ·have hl0:=hb h4;subst hl0;refine qC ?_;refine qB ?_;refine acode_nilvec 2 85 rFld rfl ?_;refine qL ?_;rfl
  ·refine qM ?_;refine qC ?_;refine qB ?_;refine zai (by first|exact qQ (show l.length ≤ 1000000000 by omega) (by decide)|exact qQ (show 0 + l.length ≤ 1000000000 by omega) (by decide)) ?_;refine qL ?_;rfl
def al6 : List (List Fld):=[[(⟨#[65]⟩,⟨#[49]⟩)],[(⟨#[66]⟩,⟨#[50]⟩)]]
end Q
end Ab
end Go.Proofs.YtbfhpimmlehkcaaGreatDoor
namespace Go.Proofs.YtbfhpimmlehkcaaGreatDoor
open Go.RowKit
namespace Ab
set_option maxRecDepth 100000
namespace Q
def itEs (es : List Ent) : List (List A):=(es.filter live).map fun e=>[A.agg (toL rEnt e)]
def cntL (es : List Ent) : Nat:=(es.filter live).length
theorem cntL_snoc {es : List Ent} {i : Nat} (h : i < es.length) : cntL (es.take (i + 1)) = cntL (es.take i) + if live (es.getD i (((0 : Int),ByteArray.empty,([] : List Fld)),(0 : Int))) then 1 else 0:=by
  unfold cntL;rw [← yO (((0 : Int),ByteArray.empty,([] : List Fld)),(0 : Int)) h,List.filter_append,List.length_append]
  generalize es.getD i (((0 : Int),ByteArray.empty,([] : List Fld)),(0 : Int)) = x
  cases hk : live x <;> simp [hk]
theorem itEs_at {es : List Ent} {i : Nat} (h : i < es.length) (hl : live (es.getD i (((0 : Int),ByteArray.empty,([] : List Fld)),(0 : Int))) = true) : ∃ hk : cntL (es.take i) < (itEs es).length,(itEs es)[cntL (es.take i)] = [A.agg (toL rEnt (es.getD i (((0 : Int),ByteArray.empty,([] : List Fld)),(0 : Int))))]:=by
  obtain ⟨h1,h2⟩:=filter_at live (((0 : Int),ByteArray.empty,([] : List Fld)),(0 : Int)) es i h hl;have h1' : cntL (es.take i) < (es.filter live).length:=h1;refine ⟨by unfold itEs;rw [List.length_map];exact h1',?_⟩;have h3 : (es.filter live)[cntL (es.take i)]'h1' = es.getD i (((0 : Int),ByteArray.empty,([] : List Fld)),(0 : Int)):=(getD_get h1' (((0 : Int),ByteArray.empty,([] : List Fld)),(0 : Int))).trans h2;exact (List.getElem_map (fun e=>[A.agg (toL rEnt e)])).trans (congrArg (fun e=>[A.agg (toL rEnt e)]) h3)
theorem all_iter {k : Nat} (es : List Ent) (n m : Int) : AIter Tryz.prog 108 [.one (.ref (.adk k (rLst k) (es,n,m)))] (itEs es):=by
  refine aiter_of Tryz.func108 rfl rfl rfl teOk rfl ?_;intro l ι Pr J U n0 hU hab hy;refine yD ?_;refine yD ?_;refine yN hab hU rfl ?_;refine qB ?_;refine ⟨_,_,_,le_refl,?_⟩;refine acodeY_cond rfl (fun h6=>?_) (fun h6=>?_)
  ·simp at h6
  refine acodeY_skip ?_;refine yD ?_;refine yN hab hU rfl ?_;refine qB ?_;intro hln;have hln : es.length ≤ 9223372036854775807:=hln;refine ⟨_,_,_,le_refl,?_⟩;refine acodeY_block ?_;refine acodeY_loop (κ:=Nat) (fun i=>i ≤ es.length) (fun i=>cntL (es.take i)) (fun i=>[(0,.one (.lit (.func (.yield l) #[] #[]))),(10,.one (.slk k rEnt es)),(11,ii .i64 es.length),(12,ii .i64 i)]) (fun _=>[]) 0 (fun i=>es.length - i) 0 (Nat.zero_le _) hab hU (qP ⟨rfl,rfl,rfl,rfl⟩ trivial rfl) rfl ?_;intro i hi;have hi : i ≤ es.length:=hi;refine acodeY_lowQ hab hU ?_;refine yD ?_;refine yN hab hU rfl ?_;refine qB ?_;refine ⟨_,_,_,le_refl,?_⟩;refine yD ?_;refine acodeY_cond rfl (fun h13=>?_) (fun h13=>?_)
  ·simp only [decide_eq_true_eq] at h13;have hlt : i < es.length:=by omega
   have hsn:=cntL_snoc hlt;refine acodeY_skip ?_;refine yD ?_;refine acodeY_block ?_;refine yD ?_;refine yN hab hU rfl ?_;refine qB ?_;refine zai (by omega) ?_;refine ⟨_,_,_,le_refl,?_⟩;refine yD ?_;refine acodeY_yieldG (pre:=[_,_,_,_,_,_]) (post:=[_,_]) _ (live (es.getD i (((0 : Int),ByteArray.empty,([] : List Fld)),(0 : Int)))) rfl rfl rfl rfl rfl hab hU hy ?_;refine zai (fun _=>trivial) ?_;refine zai (fun _=>trivial) ?_;refine ⟨_,_,_,le_refl,⟨_,rfl,rfl⟩,fun hq=>?_,fun hq=>?_⟩
   ·obtain ⟨hk,hx⟩:=itEs_at hlt hq;refine ⟨hk,⟨⟨hq,trivial⟩,⟨hq,trivial⟩,trivial⟩,rfl,hx.symm,by rw [hx];rfl,fun st=>?_⟩;refine zai (fun _=>⟨⟨rfl,trivial⟩,trivial⟩) ?_;refine zai (fun h=>h) ?_;refine ⟨_,_,_,le_refl,?_⟩;refine acodeY_cond rfl (fun h24=>?_) (fun h24=>?_)
    ·have h24 : (live (es.getD i (((0 : Int),ByteArray.empty,([] : List Fld)),(0 : Int))) && !!st) = true:=h24;rw [hq,Bool.true_and,Bool.not_not] at h24;subst h24;refine acodeY_ret ?_;exact ⟨_,.inl rfl,.inl rfl,fun e=>by cases e⟩
    ·have h24 : (live (es.getD i (((0 : Int),ByteArray.empty,([] : List Fld)),(0 : Int))) && !!st) = false:=h24;rw [hq,Bool.true_and,Bool.not_not] at h24;subst h24;refine acodeY_skip ?_;refine yN hab hU rfl ?_;refine qB ?_;refine zai (by omega) ?_;refine ⟨_,_,_,qP (tm':=[(0,.one (.lit (.func (.yield l) #[] #[]))),(10,.one (.slk k rEnt es)),(11,ii .i64 es.length),(12,ii .i64 (i + 1 : Nat))]) (ob':=[]) (nx':=1) ⟨rfl,rfl,rfl,yX (by omega)⟩ trivial rfl,0,.inr rfl,⟨i + 1,hlt,by omega,rfl,?_,rfl,rfl,rfl⟩⟩;rw [hsn,if_pos hq]
   ·refine zai (fun h=>absurd (h.symm.trans hq) (by decide)) ?_;refine zai (fun h=>h) ?_;refine ⟨_,_,_,le_refl,?_⟩;refine acodeY_cond rfl (fun h24=>?_) (fun h24=>?_)
    ·have h24 : (live (es.getD i (((0 : Int),ByteArray.empty,([] : List Fld)),(0 : Int))) && _) = true:=h24;rw [hq] at h24;cases h24
    ·refine acodeY_skip ?_;refine yN hab hU rfl ?_;refine qB ?_;refine zai (by omega) ?_;refine ⟨_,_,_,qP (tm':=[(0,.one (.lit (.func (.yield l) #[] #[]))),(10,.one (.slk k rEnt es)),(11,ii .i64 es.length),(12,ii .i64 (i + 1 : Nat))]) (ob':=[]) (nx':=1) ⟨rfl,rfl,rfl,yX (by omega)⟩ trivial rfl,0,.inr rfl,⟨i + 1,hlt,by omega,rfl,?_,rfl,rfl,rfl⟩⟩;rw [hsn,if_neg (by rw [hq];decide)];rfl
  ·simp only [decide_eq_false_iff_not] at h13;refine acodeY_exit ?_;refine ⟨_,.inl rfl,.inr rfl,fun _=>?_⟩;rw [List.take_of_length_le (by omega)];simp only [itEs,List.length_map,cntL]
theorem all_c {k : Nat} (L : Lst) : qT Tryz.prog 63 [.one (.adk k (rLst k) L)] (.one (.clo 108 (.ref (.adk k (rLst k) L)))):=by
  refine qS (rs:=[2]) Tryz.func63 rfl rfl rfl teOk rfl ?_;refine qC ?_;refine qB ?_;refine qC ?_;refine qB ?_;refine acode_frz [0] ?_;refine qL ?_;rfl
end Q
end Ab
end Go.Proofs.YtbfhpimmlehkcaaGreatDoor
namespace Go.Proofs.YtbfhpimmlehkcaaGreatDoor
open Go.RowKit
namespace Ab
set_option maxRecDepth 100000
namespace Q
theorem index_E (f : FuncId) {k : Nat} {β : Type} (S : Rd β) (y : β) (l : List Ent) (p : Ent → Bool) (hp : ∀ x ∈ l,qT Tryz.prog f [.agg (toL rEnt x),.one (.addr S y)] (ib (p x))) : qT Tryz.prog 106 [.one (.slk k rEnt l),.one (.clo f (.addr S y))] (ii .i64 (ixOf p l)):=by
  refine qS (rs:=[4]) Tryz.func106 rfl rfl rfl teOk rfl ?_;refine qC ?_;refine qB ?_;refine qC ?_;refine qC ?_;refine qB ?_;intro l1_1
  try simp only [zds] at l1_1
  refine qN ?_;refine yE (fun (i : Nat)=>i ≤ l.length ∧ (l.take i).any p = false) (fun (i : Nat)=>[(0,.one (.slk k rEnt l)),(1,.one (.clo f (.addr S y))),(7,ii .i64 l.length),(8,ii .i64 i)]) (fun (i : Nat)=>[]) 0 (fun (i : Nat)=>l.length - i) 0 (⟨Nat.zero_le _,rfl⟩) (qP ⟨rfl,rfl,rfl,rfl⟩ trivial rfl) ?_;intro i hI0;obtain ⟨hi,hn⟩:=hI0;refine qC ?_;refine qB ?_;refine qC ?_;refine qK rfl (fun h9=>?_) (fun h9=>?_)
  ·try simp only [decide_eq_true_eq] at h9
   try simp only [zds] at h9
   refine qM ?_;refine qC ?_;refine qN ?_;refine qC ?_;refine qB ?_;refine qC ?_;refine qB ?_;refine zai (by first|omega|assumption|decide|(simp only [zds];omega)|(simp <;> omega)) ?_;refine Or.inl ?_;refine zai (rfl) ?_;refine zei _ (zai (hp _ (yT (show i < l.length by omega) _)) ?_);refine qK rfl (fun h16=>?_) (fun h16=>?_)
   ·try simp only [zbq] at h16
    try simp only [Int.toNat_natCast,qH,qI,qG,qF] at h16
    refine qC ?_;refine qB ?_;refine qL ?_;exact yX (ixOf_at (((0 : Int),ByteArray.empty,([] : List Fld)),(0 : Int)) (by omega) hn h16).symm
   ·try simp only [zbq] at h16
    try simp only [Int.toNat_natCast,qH,qI,qG,qF] at h16
    refine qM ?_;refine qB ?_;refine zai (by first|omega|assumption|decide|(simp only [zds];omega)|(simp <;> omega)) ?_;exact ⟨i + 1,⟨by omega,by rw [take_any l p (((0 : Int),ByteArray.empty,([] : List Fld)),(0 : Int)) i (by omega),hn];exact h16⟩,by first|omega|(simp <;> omega),qP ⟨rfl,rfl,rfl,rfl⟩ trivial rfl⟩
  ·try simp only [decide_eq_false_iff_not,Int.not_lt] at h9
   try simp only [zds] at h9
   refine yI ?_;refine qC ?_;refine qB ?_;refine qL ?_;have e : i = l.length:=by omega
   subst e;rw [List.take_length] at hn;exact yX (ixOf_none hn).symm
theorem at1_c (id : Int) (e : Ent) : qT Tryz.prog 107 [.agg (toL rEnt e),.one (.addr (.int .i64) id)] (ib (hasId id e)):=by
  refine qS (rs:=[3]) Tryz.func107 rfl rfl rfl teOk rfl ?_;refine qC ?_;refine qB ?_;refine qC ?_;refine qB ?_;refine qL ?_;rfl
theorem at_c {k : Nat} (es : List Ent) (n m id : Int) : qT Tryz.prog 61 [.one (.adk k (rLst k) (es,n,m)),ii .i64 id] (ii .i64 (atE es id)):=by
  refine qS (rs:=[4]) Tryz.func61 rfl rfl rfl teOk rfl ?_;refine qC ?_;refine qB ?_;refine qC ?_;refine qC ?_;refine qB ?_;refine zai (fun h=>trivial) ?_;refine zai (fun h=>⟨⟨h,trivial⟩,trivial⟩) ?_;refine zai (by first|(intro h;rw [h];rfl)|(intro h;cases h)) ?_;refine qK rfl (fun h10=>?_) (fun h10=>?_)
  ·try simp only [decide_eq_true_eq,Bool.or_eq_true] at h10
   try simp only [zds] at h10
   have h10 : id < 1:=h10.elim (fun h=>by cases h) (fun h=>h);refine qC ?_;refine qB ?_;refine qL ?_;exact yX (by unfold atE;rw [if_pos h10])
  ·try simp only [decide_eq_false_iff_not,Bool.or_eq_false_iff,Int.not_lt] at h10
   try simp only [zds] at h10
   have h10 : ¬ id < 1:=(by simp at h10;omega);refine qM ?_;refine qC ?_;refine qB ?_;refine Or.inl ?_;refine zai (rfl) ?_;refine zei _ (zai (index_E _ (.int .i64) id es (hasId id) (fun x _=>at1_c id x)) ?_);refine qL ?_;exact yX (by unfold atE;rw [if_neg h10])
theorem len_c {k : Nat} (es : List Ent) (n m : Int) : qT Tryz.prog 21 [.one (.adk k (rLst k) (es,n,m))] (ii .i64 m):=by
  refine qS (rs:=[2]) Tryz.func21 rfl rfl rfl teOk rfl ?_;refine qC ?_;refine qB ?_;refine qC ?_;refine qC ?_;refine qB ?_;refine qK rfl (fun h4=>?_) (fun h4=>?_)
  ·try simp only [zbq] at h4
   try simp only [zds] at h4
   simp at h4
  ·skip
   refine qM ?_;refine qC ?_;refine qB ?_;refine qL ?_;rfl
theorem at_lt {es : List Ent} {id : Int} (h : ¬ atE es id < 0) : ∃ i : Nat,i < es.length ∧ atE es id = i ∧ 0 < id ∧ (es.getD i (((0 : Int),ByteArray.empty,([] : List Fld)),(0 : Int))).2 = id:=by
  rcases at_cases es id with ⟨h1,_⟩|⟨i,h1,h2,h3,h4,_⟩
  · omega
  · exact ⟨i,h1,h2,h3,h4⟩
end Q
end Ab
end Go.Proofs.YtbfhpimmlehkcaaGreatDoor
namespace Go.Proofs.YtbfhpimmlehkcaaGreatDoor
open Go.RowKit
namespace Ab
set_option maxRecDepth 100000
namespace Q
theorem lDel_no (es : List Ent) (n m id : Int) (h : atE es id < 0) : qZ Tryz.prog 17 [.one (.own 0 0),ii .i64 id] (lsO (es,n,m)) 2 (.one (errN 7)) (lsO (es,n,m)) 2:=by
  refine qW (rs:=[4]) Tryz.func17 rfl rfl rfl teOk (by decide) rfl ?_;refine qC ?_;refine qB ?_;refine qC ?_;refine qB ?_;refine Or.inr (Or.inr (Or.inl ?_));refine zai rfl ?_;refine zei _ (zai (at_c es n m id) ?_);refine qC ?_;refine qC ?_;refine qB ?_;refine qK rfl (fun h10=>?_) (fun h10=>?_)
  ·try simp only [decide_eq_true_eq] at h10
   try simp only [zds] at h10
   refine qC ?_;refine qB ?_;refine qL ?_;exact ⟨rfl,⟨rfl,rfl⟩,rfl⟩
  ·try simp only [decide_eq_false_iff_not,Int.not_lt] at h10
   try simp only [zds] at h10
   omega
theorem lDel_ok (es : List Ent) (n m id : Int) (i : Nat) (hi : i < es.length) (h : atE es id = i) (hm : 0 ≤ m ∧ m ≤ 1000000) (hl : es.length ≤ 1000000) : qZ Tryz.prog 17 [.one (.own 0 0),ii .i64 id] (lsO (es,n,m)) 2 (.one (.lit .nilIface)) (lsO (delE es i,n,m - 1)) 2:=by
  refine qW (rs:=[4]) Tryz.func17 rfl rfl rfl teOk (by decide) rfl ?_;refine qC ?_;refine qB ?_;refine qC ?_;refine qB ?_;refine Or.inr (Or.inr (Or.inl ?_));refine zai rfl ?_;refine zei _ (zai ((by have:=at_c (k:=1) es n m id;rw [h] at this;exact this)) ?_);refine qC ?_;refine qC ?_;refine qB ?_;refine qK rfl (fun h10=>?_) (fun h10=>?_)
  ·try simp only [decide_eq_true_eq] at h10
   try simp only [zds] at h10
   omega
  ·try simp only [decide_eq_false_iff_not,Int.not_lt] at h10
   try simp only [zds] at h10
   refine qM ?_;refine qC ?_;refine qB ?_;refine zai (by first|omega|assumption|decide|(simp only [zds];omega)|(simp <;> omega)) ?_;refine Or.inr (Or.inr (Or.inr (zei [1] (zei [] (zei _ (zei _ (zei _ (zei _ (zei _ (zai (delete_x es i (i + 1) (Nat.lt_succ_self _) hi) (zai rfl (zai (zai (zai rfl rfl) True.intro) (zai rfl ?_)))))))))))));refine qC ?_;refine qB ?_;refine zai (by first|omega|assumption|decide|(simp only [];omega)|(simp <;> omega)) ?_;refine qC ?_;refine qB ?_;refine qL ?_;exact ⟨rfl,⟨rfl,rfl⟩,rfl⟩
end Q
end Ab
end Go.Proofs.YtbfhpimmlehkcaaGreatDoor
namespace Go.Proofs.YtbfhpimmlehkcaaGreatDoor
open Go.RowKit
namespace Ab
set_option maxRecDepth 100000
namespace Q
end Q
end Ab
end Go.Proofs.YtbfhpimmlehkcaaGreatDoor
namespace Go.Proofs.YtbfhpimmlehkcaaGreatDoor
open Go.RowKit
namespace Ab
set_option maxRecDepth 100000
namespace Q
def itmOf (f : List Fld) : Itm:=(3,bytes (foldL f),f)
end Q
end Ab
end Go.Proofs.YtbfhpimmlehkcaaGreatDoor
namespace Go.Proofs.YtbfhpimmlehkcaaGreatDoor
open Go.RowKit
namespace Ab
set_option maxRecDepth 100000
namespace Q
end Q
end Ab
end Go.Proofs.YtbfhpimmlehkcaaGreatDoor
namespace Go.Proofs.YtbfhpimmlehkcaaGreatDoor
open Go.RowKit
namespace Ab
set_option maxRecDepth 100000
abbrev Edt:=Int × Int × List Fld
abbrev rEdt : Rd Edt:=.st (.int .i64) (.st (.int .i64) (.sl rFld))
namespace Q
def heavyB (l : List Edt) : Bool:=decide (51 < l.length) || l.any fun e=>muchB e.2.2
def spF : Fld:=(⟨#[115,112,111,105,108,116]⟩,⟨#[115,112,111,105,108,116]⟩)
end Q
end Ab
end Go.Proofs.YtbfhpimmlehkcaaGreatDoor
namespace Go.Proofs.YtbfhpimmlehkcaaGreatDoor
open Go.RowKit
namespace Ab
set_option maxRecDepth 100000
namespace Q
theorem itEs_len (es : List Ent) : (itEs es).length = (es.filter live).length:=List.length_map _
theorem itEs_get (es : List Ent) {i : Nat} (h : i < (itEs es).length) : ∃ e ∈ es,(es.filter live).getD i (((0 : Int),ByteArray.empty,([] : List Fld)),(0 : Int)) = e ∧ i < (es.filter live).length ∧ (itEs es)[i] = [A.agg (toL rEnt e)]:=by
  have h1 : i < (es.filter live).length:=by rw [← itEs_len];exact h
  refine ⟨_,(List.mem_filter.1 (yT h1 (((0 : Int),ByteArray.empty,([] : List Fld)),(0 : Int)))).1,rfl,h1,?_⟩;exact (List.getElem_map (fun e=>[A.agg (toL rEnt e)])).trans (congrArg (fun e=>[A.agg (toL rEnt e)]) (getD_get h1 (((0 : Int),ByteArray.empty,([] : List Fld)),(0 : Int))))
def stT (es : List Ent) (i : Nat) : List Stz:=((es.filter live).take i).map stzOf
theorem stT_snoc {es : List Ent} {i : Nat} (h : i < (es.filter live).length) : stT es (i + 1) = stT es i ++ [stzOf ((es.filter live).getD i (((0 : Int),ByteArray.empty,([] : List Fld)),(0 : Int)))]:=by
  unfold stT;rw [← yO (((0 : Int),ByteArray.empty,([] : List Fld)),(0 : Int)) h,List.map_append];rfl
theorem stT_len {es : List Ent} {i : Nat} : (stT es i).length ≤ i:=by
  unfold stT;rw [List.length_map,List.length_take];omega
theorem live_len (es : List Ent) : (es.filter live).length ≤ es.length:=List.length_filter_le _ _
theorem stanzasL_c {k : Nat} (es : List Ent) (n m : Int) (hl : es.length ≤ 1000000) (hf : ∀ e ∈ es,e.1.2.2.length ≤ 1000000) : qT Tryz.prog 51 [.one (.adk k (rLst k) (es,n,m))] (.one (.sl rStz (stzL es))):=by
  have hll:=live_len es;refine qS (rs:=[2]) Tryz.func51 rfl rfl rfl teOk rfl ?_;refine qC ?_;refine qB ?_;refine qC ?_;refine qB ?_;refine qC ?_;refine qC ?_;refine qB ?_;refine Or.inl ?_;refine zai (rfl) ?_;refine zei _ (zai (all_c (es,n,m)) ?_);refine qN ?_;refine yG 0 0 42 rStz rfl rfl rfl ?_;refine acode_range (caps:=[.one (.ref (.adk k (rLst k) (es,n,m)))]) (xs:=itEs es) [(3,.one (.own 0 0)),(6,.one (.clo 108 (.ref (.adk k (rLst k) (es,n,m)))))] 2 (fun st j (i : Nat)=>st = false ∧ i = j) (fun i=>[(0,.box 38 [.vec 1]),(1,.vec 42 rStz (stT es i))]) (fun _=>.ret) 0 rfl rfl (all_iter es n m) (qP ⟨rfl,rfl⟩ ⟨rfl,rfl⟩ rfl) ⟨rfl,rfl⟩ (fun j hj=>by simp [itEs]) rfl rfl rfl (fun _ _ _=>rfl) rfl ?_ ?_ ?_
  ·intro j i hk hp;obtain ⟨_,rfl⟩:=hp;obtain ⟨e,he,hg,hi,hx⟩:=itEs_get es hk;rw [hx];have hsn:=stT_snoc hi;rw [hg] at hsn;have hsl:=@stT_len es i;refine qB ?_;refine qN ?_;refine acode_ord rfl ?_;refine qJ 1 rfl rfl rfl (by kernel_rfl) ?_;refine qJ 3 rfl rfl rfl (by kernel_rfl) ?_;refine qJ 4 rfl rfl rfl (by kernel_rfl) ?_;refine qE [0,2,5] (by kernel_rfl) rfl ?_;refine zai ?_ ?_
   ·refine qE [2,5] (by kernel_rfl) rfl ?_;refine zai ?_ ?_
    ·refine qE [5] (by kernel_rfl) rfl ?_;refine qE [6] (by kernel_rfl) rfl ?_;refine Or.inl ?_;refine zai (rfl) ?_;refine zei _ (zai (yS e.1.2.2 (hf e he)) ?_);refine qE [7] (by kernel_rfl) rfl ?_;refine qE [8] (by kernel_rfl) rfl ?_;refine qE [9] (by kernel_rfl) rfl ?_;refine zai (by exact qQ (show (stT es i).length + 1 ≤ 1000000000 by omega) (by decide)) ?_;refine qE [10] (by kernel_rfl) rfl ?_;refine qO (by kernel_rfl) ?_;exact ⟨i + 1,⟨rfl,rfl⟩,qP trivial ⟨rfl,qY (by rw [hsn];exact rfl)⟩ rfl⟩
    ·refine qE [2,6] (by kernel_rfl) rfl ?_;refine zai ?_ ?_
     ·refine qE [6] (by kernel_rfl) rfl ?_;refine Or.inl ?_;refine zai (rfl) ?_;refine zei _ (zai (yS e.1.2.2 (hf e he)) ?_);refine qE [7] (by kernel_rfl) rfl ?_;refine qE [8] (by kernel_rfl) rfl ?_;refine qE [9] (by kernel_rfl) rfl ?_;refine zai (by exact qQ (show (stT es i).length + 1 ≤ 1000000000 by omega) (by decide)) ?_;refine qE [10] (by kernel_rfl) rfl ?_;refine qO (by kernel_rfl) ?_;exact ⟨i + 1,⟨rfl,rfl⟩,qP trivial ⟨rfl,qY (by rw [hsn];exact rfl)⟩ rfl⟩
     ·refine Or.inl ?_;refine zai (rfl) ?_;refine zei _ (zai (yS e.1.2.2 (hf e he)) ?_);refine qE [2] (by kernel_rfl) rfl ?_;refine qE [7] (by kernel_rfl) rfl ?_;refine qE [8] (by kernel_rfl) rfl ?_;refine qE [9] (by kernel_rfl) rfl ?_;refine zai (by exact qQ (show (stT es i).length + 1 ≤ 1000000000 by omega) (by decide)) ?_;refine qE [10] (by kernel_rfl) rfl ?_;refine qO (by kernel_rfl) ?_;exact ⟨i + 1,⟨rfl,rfl⟩,qP trivial ⟨rfl,qY (by rw [hsn];exact rfl)⟩ rfl⟩
   refine zai ?_ ?_
   ·refine qE [0,5] (by kernel_rfl) rfl ?_;refine zai ?_ ?_
    ·refine qE [5] (by kernel_rfl) rfl ?_;refine qE [6] (by kernel_rfl) rfl ?_;refine Or.inl ?_;refine zai (rfl) ?_;refine zei _ (zai (yS e.1.2.2 (hf e he)) ?_);refine qE [7] (by kernel_rfl) rfl ?_;refine qE [8] (by kernel_rfl) rfl ?_;refine qE [9] (by kernel_rfl) rfl ?_;refine zai (by exact qQ (show (stT es i).length + 1 ≤ 1000000000 by omega) (by decide)) ?_;refine qE [10] (by kernel_rfl) rfl ?_;refine qO (by kernel_rfl) ?_;exact ⟨i + 1,⟨rfl,rfl⟩,qP trivial ⟨rfl,qY (by rw [hsn];exact rfl)⟩ rfl⟩
    ·refine qE [0,6] (by kernel_rfl) rfl ?_;refine zai ?_ ?_
     ·refine qE [6] (by kernel_rfl) rfl ?_;refine Or.inl ?_;refine zai (rfl) ?_;refine zei _ (zai (yS e.1.2.2 (hf e he)) ?_);refine qE [7] (by kernel_rfl) rfl ?_;refine qE [8] (by kernel_rfl) rfl ?_;refine qE [9] (by kernel_rfl) rfl ?_;refine zai (by exact qQ (show (stT es i).length + 1 ≤ 1000000000 by omega) (by decide)) ?_;refine qE [10] (by kernel_rfl) rfl ?_;refine qO (by kernel_rfl) ?_;exact ⟨i + 1,⟨rfl,rfl⟩,qP trivial ⟨rfl,qY (by rw [hsn];exact rfl)⟩ rfl⟩
     ·refine Or.inl ?_;refine zai (rfl) ?_;refine zei _ (zai (yS e.1.2.2 (hf e he)) ?_);refine qE [0,7] (by kernel_rfl) rfl ?_;refine zai ?_ ?_
      ·refine qE [7] (by kernel_rfl) rfl ?_;refine qE [8] (by kernel_rfl) rfl ?_;refine qE [9] (by kernel_rfl) rfl ?_;refine zai (by exact qQ (show (stT es i).length + 1 ≤ 1000000000 by omega) (by decide)) ?_;refine qE [10] (by kernel_rfl) rfl ?_;refine qO (by kernel_rfl) ?_;exact ⟨i + 1,⟨rfl,rfl⟩,qP trivial ⟨rfl,qY (by rw [hsn];exact rfl)⟩ rfl⟩
      ·refine qE [0,8] (by kernel_rfl) rfl ?_;refine zai ?_ ?_
       ·refine qE [8] (by kernel_rfl) rfl ?_;refine qE [9] (by kernel_rfl) rfl ?_;refine zai (by exact qQ (show (stT es i).length + 1 ≤ 1000000000 by omega) (by decide)) ?_;refine qE [10] (by kernel_rfl) rfl ?_;refine qO (by kernel_rfl) ?_;exact ⟨i + 1,⟨rfl,rfl⟩,qP trivial ⟨rfl,qY (by rw [hsn];exact rfl)⟩ rfl⟩
       ·refine qE [0] (by kernel_rfl) rfl ?_;refine qE [9] (by kernel_rfl) rfl ?_;refine zai (by exact qQ (show (stT es i).length + 1 ≤ 1000000000 by omega) (by decide)) ?_;refine qE [10] (by kernel_rfl) rfl ?_;refine qO (by kernel_rfl) ?_;exact ⟨i + 1,⟨rfl,rfl⟩,qP trivial ⟨rfl,qY (by rw [hsn];exact rfl)⟩ rfl⟩
   ·refine qE [0,2,6] (by kernel_rfl) rfl ?_;refine zai ?_ ?_
    ·refine qE [2,6] (by kernel_rfl) rfl ?_;refine zai ?_ ?_
     ·refine qE [6] (by kernel_rfl) rfl ?_;refine Or.inl ?_;refine zai (rfl) ?_;refine zei _ (zai (yS e.1.2.2 (hf e he)) ?_);refine qE [7] (by kernel_rfl) rfl ?_;refine qE [8] (by kernel_rfl) rfl ?_;refine qE [9] (by kernel_rfl) rfl ?_;refine zai (by exact qQ (show (stT es i).length + 1 ≤ 1000000000 by omega) (by decide)) ?_;refine qE [10] (by kernel_rfl) rfl ?_;refine qO (by kernel_rfl) ?_;exact ⟨i + 1,⟨rfl,rfl⟩,qP trivial ⟨rfl,qY (by rw [hsn];exact rfl)⟩ rfl⟩
     ·refine Or.inl ?_;refine zai (rfl) ?_;refine zei _ (zai (yS e.1.2.2 (hf e he)) ?_);refine qE [2] (by kernel_rfl) rfl ?_;refine qE [7] (by kernel_rfl) rfl ?_;refine qE [8] (by kernel_rfl) rfl ?_;refine qE [9] (by kernel_rfl) rfl ?_;refine zai (by exact qQ (show (stT es i).length + 1 ≤ 1000000000 by omega) (by decide)) ?_;refine qE [10] (by kernel_rfl) rfl ?_;refine qO (by kernel_rfl) ?_;exact ⟨i + 1,⟨rfl,rfl⟩,qP trivial ⟨rfl,qY (by rw [hsn];exact rfl)⟩ rfl⟩
    refine zai ?_ ?_
    ·refine qE [0,6] (by kernel_rfl) rfl ?_;refine zai ?_ ?_
     ·refine qE [6] (by kernel_rfl) rfl ?_;refine Or.inl ?_;refine zai (rfl) ?_;refine zei _ (zai (yS e.1.2.2 (hf e he)) ?_);refine qE [7] (by kernel_rfl) rfl ?_;refine qE [8] (by kernel_rfl) rfl ?_;refine qE [9] (by kernel_rfl) rfl ?_;refine zai (by exact qQ (show (stT es i).length + 1 ≤ 1000000000 by omega) (by decide)) ?_;refine qE [10] (by kernel_rfl) rfl ?_;refine qO (by kernel_rfl) ?_;exact ⟨i + 1,⟨rfl,rfl⟩,qP trivial ⟨rfl,qY (by rw [hsn];exact rfl)⟩ rfl⟩
     ·refine Or.inl ?_;refine zai (rfl) ?_;refine zei _ (zai (yS e.1.2.2 (hf e he)) ?_);refine qE [0,7] (by kernel_rfl) rfl ?_;refine zai ?_ ?_
      ·refine qE [7] (by kernel_rfl) rfl ?_;refine qE [8] (by kernel_rfl) rfl ?_;refine qE [9] (by kernel_rfl) rfl ?_;refine zai (by exact qQ (show (stT es i).length + 1 ≤ 1000000000 by omega) (by decide)) ?_;refine qE [10] (by kernel_rfl) rfl ?_;refine qO (by kernel_rfl) ?_;exact ⟨i + 1,⟨rfl,rfl⟩,qP trivial ⟨rfl,qY (by rw [hsn];exact rfl)⟩ rfl⟩
      ·refine qE [0,8] (by kernel_rfl) rfl ?_;refine zai ?_ ?_
       ·refine qE [8] (by kernel_rfl) rfl ?_;refine qE [9] (by kernel_rfl) rfl ?_;refine zai (by exact qQ (show (stT es i).length + 1 ≤ 1000000000 by omega) (by decide)) ?_;refine qE [10] (by kernel_rfl) rfl ?_;refine qO (by kernel_rfl) ?_;exact ⟨i + 1,⟨rfl,rfl⟩,qP trivial ⟨rfl,qY (by rw [hsn];exact rfl)⟩ rfl⟩
       ·refine qE [0] (by kernel_rfl) rfl ?_;refine qE [9] (by kernel_rfl) rfl ?_;refine zai (by exact qQ (show (stT es i).length + 1 ≤ 1000000000 by omega) (by decide)) ?_;refine qE [10] (by kernel_rfl) rfl ?_;refine qO (by kernel_rfl) ?_;exact ⟨i + 1,⟨rfl,rfl⟩,qP trivial ⟨rfl,qY (by rw [hsn];exact rfl)⟩ rfl⟩
    ·refine Or.inl ?_;refine zai (rfl) ?_;refine zei _ (zai (yS e.1.2.2 (hf e he)) ?_);refine qE [0,2] (by kernel_rfl) rfl ?_;refine zai ?_ ?_
     ·refine qE [2] (by kernel_rfl) rfl ?_;refine qE [7] (by kernel_rfl) rfl ?_;refine qE [8] (by kernel_rfl) rfl ?_;refine qE [9] (by kernel_rfl) rfl ?_;refine zai (by exact qQ (show (stT es i).length + 1 ≤ 1000000000 by omega) (by decide)) ?_;refine qE [10] (by kernel_rfl) rfl ?_;refine qO (by kernel_rfl) ?_;exact ⟨i + 1,⟨rfl,rfl⟩,qP trivial ⟨rfl,qY (by rw [hsn];exact rfl)⟩ rfl⟩
     ·refine qE [0,7] (by kernel_rfl) rfl ?_;refine zai ?_ ?_
      ·refine qE [7] (by kernel_rfl) rfl ?_;refine qE [8] (by kernel_rfl) rfl ?_;refine qE [9] (by kernel_rfl) rfl ?_;refine zai (by exact qQ (show (stT es i).length + 1 ≤ 1000000000 by omega) (by decide)) ?_;refine qE [10] (by kernel_rfl) rfl ?_;refine qO (by kernel_rfl) ?_;exact ⟨i + 1,⟨rfl,rfl⟩,qP trivial ⟨rfl,qY (by rw [hsn];exact rfl)⟩ rfl⟩
      ·refine qE [0,8] (by kernel_rfl) rfl ?_;refine zai ?_ ?_
       ·refine qE [8] (by kernel_rfl) rfl ?_;refine qE [9] (by kernel_rfl) rfl ?_;refine zai (by exact qQ (show (stT es i).length + 1 ≤ 1000000000 by omega) (by decide)) ?_;refine qE [10] (by kernel_rfl) rfl ?_;refine qO (by kernel_rfl) ?_;exact ⟨i + 1,⟨rfl,rfl⟩,qP trivial ⟨rfl,qY (by rw [hsn];exact rfl)⟩ rfl⟩
       ·refine qE [0] (by kernel_rfl) rfl ?_;refine qE [9] (by kernel_rfl) rfl ?_;refine zai (by exact qQ (show (stT es i).length + 1 ≤ 1000000000 by omega) (by decide)) ?_;refine qE [10] (by kernel_rfl) rfl ?_;refine qO (by kernel_rfl) ?_;exact ⟨i + 1,⟨rfl,rfl⟩,qP trivial ⟨rfl,qY (by rw [hsn];exact rfl)⟩ rfl⟩
  ·intro i hp;obtain ⟨_,rfl⟩:=hp;refine qC ?_;refine qB ?_;refine qL ?_;rw [show stT es (itEs es).length = stzL es from by unfold stT stzL;rw [itEs_len,List.take_length]];exact rfl
  ·intro j i hp;exact absurd hp.1 (by decide)
end Q
end Ab
end Go.Proofs.YtbfhpimmlehkcaaGreatDoor
namespace Go.Proofs.YtbfhpimmlehkcaaGreatDoor
open Go.RowKit
namespace Ab
set_option maxRecDepth 100000
namespace Q
def SmallF (l : List Fld) : Prop:=∀ f ∈ l,f.1.size ≤ 1000 ∧ f.2.size ≤ 1000
structure GP (p : PSt) : Prop where
  flds : SmallF p.flds
  room : p.lns ≠ [] → p.full = false → p.flds.length < 40
  len : p.flds.length ≤ 40
  its : ∀ x ∈ p.its,SmallF x.2.2 ∧ x.2.2.length ≤ 40
theorem smallF_nil : SmallF []:=fun f hf=>by cases hf
theorem flush_gp {p q : PSt} (h : GP p) (hf : xC p = .inr q) : GP q:=by
  unfold xC at hf;split at hf
  · cases hf;exact h
  · rename_i h0;split at hf
    · cases hf
    · split at hf
      · cases hf
      · rename_i h1 h2;cases hf;have hr:=h.room h0 (by simpa using h2);refine ⟨fun f hf=>?_,fun h=>absurd rfl h,by simp only [List.length_append,List.length_cons,List.length_nil];omega,h.its⟩;rcases List.mem_append.1 hf with hf|hf
        · exact h.flds f hf
        · rw [List.mem_singleton.1 hf];rcases unf_cases (p.lns.map ls) with ⟨n,hn,e⟩|⟨k,v,e,hk,hv⟩
          · rw [e];exact ⟨by show (bytes []).size ≤ 1000;decide,by show (bytes []).size ≤ 1000;decide⟩
          · rw [e];simp only [bytes_size];refine ⟨?_,hv⟩;unfold keyOk at hk;simp only [Bool.and_eq_true,decide_eq_true_eq] at hk;omega
theorem close_gp {q : PSt} (h : GP q) : GP (closeS q):=by
  unfold closeS;split
  · exact ⟨smallF_nil,fun _ _=>(by show 0 < 40;decide),(by show 0 ≤ 40;decide),h.its⟩
  · refine ⟨smallF_nil,fun _ _=>(by show 0 < 40;decide),(by show 0 ≤ 40;decide),fun x hx=>?_⟩;rcases List.mem_append.1 hx with hx|hx
    · exact h.its x hx
    · rw [List.mem_singleton.1 hx];exact ⟨h.flds,h.len⟩
theorem end_gp {p q : PSt} (h : GP p) (hf : endS p = .inr q) : GP q:=by
  unfold endS at hf;split at hf
  · cases hf
  · rename_i r e;cases hf;exact close_gp (flush_gp h e)
theorem begin_gp {p : PSt} (l : Lne) (h : GP p) : GP (beginS p l):=by
  refine ⟨h.flds,fun _ hf=>?_,h.len,h.its⟩;have:=h.len;unfold beginS at hf;simp only [Bool.or_eq_false_iff,decide_eq_false_iff_not] at hf;show p.flds.length < 40;omega
theorem ahead_gp {p q : PSt} {l : Lne} {k : Int} (h : GP p) (hf : xG p l k = .inr q) : GP q:=by
  unfold xG at hf;split at hf
  · split at hf
    · cases hf
    · rename_i h0;have h2 : GP { p with lns:=p.lns ++ [l.2.2.1] }:=⟨h.flds,fun _=>h.room h0,h.len,h.its⟩;split at hf
      · cases hf;exact h2
      · exact flush_gp h2 hf
  · split at hf
    · exact end_gp h hf
    · exact flush_gp h hf
theorem line_gp {p q : PSt} {l : Lne} {k : Int} (h : GP p) (hf : lineS p l k = .inr q) : GP q:=by
  unfold lineS at hf;split at hf
  · cases hf
  · split at hf
    · cases hf;refine ⟨h.flds,h.room,h.len,fun x hx=>?_⟩;rcases List.mem_append.1 hx with hx|hx
      · exact h.its x hx
      · rw [List.mem_singleton.1 hx];exact ⟨smallF_nil,by show 0 ≤ 40;decide⟩
    · split at hf
      · cases hf;have:=begin_gp l h;exact ⟨this.flds,this.room,this.len,this.its⟩
      · cases hf;exact ⟨h.flds,h.room,h.len,h.its⟩
theorem take_gp {p q : PSt} {l : Lne} (h : GP p) (hf : xB p l = .inr q) : GP q:=by
  unfold xB at hf;split at hf
  · cases hf
  · rename_i r e;exact line_gp (ahead_gp h e) hf
theorem run_gp : ∀ (L : List Lne) {p q : PSt},GP p → runS p L = .inr q → GP q
  | [],p,q,h,hf=>by
    cases hf;exact h
  | l :: r,p,q,h,hf=>by
    unfold runS at hf;split at hf
    · cases hf
    · rename_i t e;exact run_gp r (take_gp h e) hf
theorem items_small {s : ByteArray} {l : List Itm} (hp : parseS s = .inr l) : ∀ x ∈ l,SmallF x.2.2 ∧ x.2.2.length ≤ 40:=by
  unfold parseS at hp;split at hp
  · cases hp
  · rename_i p e;split at hp
    · cases hp
    · rename_i q e2;cases hp;exact (end_gp (run_gp _ ⟨smallF_nil,fun h=>absurd rfl h,by decide,fun x hx=>by cases hx⟩ e) e2).its
theorem fldsOk_of {l : List Fld} (h : SmallF l) (hl : l.length ≤ 40) : xH l:=⟨by omega,fun f hf=>by have:=h f hf;omega⟩
end Q
end Ab
end Go.Proofs.YtbfhpimmlehkcaaGreatDoor
namespace Go.Proofs.YtbfhpimmlehkcaaGreatDoor
open Go.RowKit
namespace Ab
set_option maxRecDepth 100000
namespace Q
abbrev RLs:=List Ent × Int
abbrev rRL : Rd RLs:=.st (.sl rEnt) (.int .i64)
theorem stzL_le (es : List Ent) : (stzL es).length ≤ es.length:=by
  unfold stzL;rw [List.length_map];exact live_len es
end Q
end Ab
end Go.Proofs.YtbfhpimmlehkcaaGreatDoor
namespace Go.Proofs.YtbfhpimmlehkcaaGreatDoor
open Go.RowKit
namespace Ab
set_option maxRecDepth 100000
namespace Q
def doL (L : Lst) (e : Edt) : Lst :=
  if e.1 = 1 then
    if atE L.1 e.2.1 < 0 then L else if (chkR e.2.2).2 ≠ 0 then L else (replE L.1 (atE L.1 e.2.1).toNat (itmOf e.2.2),L.2)
  else if e.1 = 2 then
    if atE L.1 e.2.1 < 0 then L else (delE L.1 (atE L.1 e.2.1).toNat,L.2.1,L.2.2 - 1)
  else if atE L.1 e.2.1 < 0 ∧ e.2.1 ≠ 0 then L else if (chkR e.2.2).2 ≠ 0 then L else if 400 ≤ L.2.2 then L else
    (insE L.1 (atE L.1 e.2.1 + 1).toNat (itmOf e.2.2,L.2.1),L.2.1 + 1,L.2.2 + 1)
def refRep (M : RLs) (id : Int) (f : List Fld) : RLs × Int × Int :=
  if atE M.1 id < 0 then (M,-9,7) else if (chkR f).2 ≠ 0 then (M,(chkR f).1,(chkR f).2) else ((replE M.1 (atE M.1 id).toNat (itmOf f),M.2),-9,0)
def refDel (M : RLs) (id : Int) : RLs × Int :=
  if atE M.1 id < 0 then (M,7) else ((delE M.1 (atE M.1 id).toNat,M.2),0)
def refIns (M : RLs) (id : Int) (f : List Fld) : RLs × Int × Int × Int :=
  if atE M.1 id < 0 ∧ id ≠ 0 then (M,0,-9,7) else if (chkR f).2 ≠ 0 then (M,0,(chkR f).1,(chkR f).2) else if 400 ≤ ((M.1.filter live).length : Int) then (M,0,-9,11) else
    ((insE M.1 (atE M.1 id + 1).toNat (itmOf f,M.2),M.2 + 1),M.2,-9,0)
def posI (n : Int) : Bool:=decide (0 < n)
def nmsL (es : List Ent) : List Int:=(es.map (·.2)).filter posI
theorem ids_eq (es : List Ent) : (es.filter live).map (·.2) = nmsL es:=by
  unfold nmsL;rw [List.filter_map];rfl
theorem ids_len (es : List Ent) : (nmsL es).length = (es.filter live).length:=by rw [← ids_eq,List.length_map]
structure LOk (c : Nat) (L : Lst) : Prop where
  flds : ∀ e ∈ L.1,xH e.1.2.2
  ids : ∀ e ∈ L.1,0 ≤ e.2 ∧ e.2 < L.2.1
  nd : (nmsL L.1).Nodup
  many : L.2.2 = ((nmsL L.1).length : Int)
  next : 1 ≤ L.2.1 ∧ L.2.1 ≤ c
  len : L.1.length ≤ c
theorem ids_repl (es : List Ent) (i : Nat) (x : Itm) (h : i < es.length) : (replE es i x).map (·.2) = es.map (·.2):=by
  apply List.ext_getElem
  · simp [replE]
  · intro j h1 h2;simp only [replE,List.getElem_map,List.getElem_set];split
    · rename_i e;subst e;simp only;rw [List.getD_eq_getElem?_getD,List.getElem?_eq_getElem h];rfl
    · rfl
theorem mem_repl {es : List Ent} {i : Nat} {x : Itm} {e : Ent} (h : e ∈ replE es i x) : e ∈ es ∨ e = (x,(es.getD i (((0 : Int),ByteArray.empty,([] : List Fld)),(0 : Int))).2):=List.mem_or_eq_of_mem_set h
theorem del_split {es : List Ent} {i : Nat} (h : i < es.length) : es = es.take i ++ (es.getD i (((0 : Int),ByteArray.empty,([] : List Fld)),(0 : Int))) :: es.drop (i + 1):=by
  conv=>lhs;rw [← List.take_append_drop i es,List.drop_eq_getElem_cons h]
  rw [List.getD_eq_getElem?_getD,List.getElem?_eq_getElem h];rfl
theorem mem_del {es : List Ent} {i : Nat} {e : Ent} (h : e ∈ delE es i) : e ∈ es:=by
  rcases List.mem_append.1 h with h|h
  · exact List.mem_of_mem_take h
  · exact List.mem_of_mem_drop h
theorem ids_app (a b : List Ent) : nmsL (a ++ b) = nmsL a ++ nmsL b:=by unfold nmsL;rw [List.map_append,List.filter_append]
theorem ids_cons (e : Ent) (b : List Ent) : nmsL (e :: b) = if 0 < e.2 then e.2 :: nmsL b else nmsL b:=by
  unfold nmsL;rw [List.map_cons,List.filter_cons];unfold posI
  by_cases h : 0 < e.2
  · rw [if_pos h,if_pos (decide_eq_true h)]
  · rw [if_neg h,if_neg (by simpa using h)]
theorem ids_del {es : List Ent} {i : Nat} (h : i < es.length) (hp : 0 < (es.getD i (((0 : Int),ByteArray.empty,([] : List Fld)),(0 : Int))).2) : (nmsL es).length = (nmsL (delE es i)).length + 1 ∧ ((nmsL es).Nodup → (nmsL (delE es i)).Nodup):=by
  have e1 : nmsL es = nmsL (es.take i) ++ (es.getD i (((0 : Int),ByteArray.empty,([] : List Fld)),(0 : Int))).2 :: nmsL (es.drop (i + 1)):=by
    conv=>lhs;rw [del_split h,ids_app,ids_cons,if_pos hp]
  have e2 : nmsL (delE es i) = nmsL (es.take i) ++ nmsL (es.drop (i + 1)):=ids_app _ _;rw [e1,e2];refine ⟨by simp only [List.length_append,List.length_cons];omega,fun hn=>?_⟩;exact hn.sublist (List.Sublist.append_left (List.sublist_cons_self _ _) _)
theorem mem_ins {es : List Ent} {i : Nat} {x e : Ent} (h : e ∈ insE es i x) : e ∈ es ∨ e = x:=by
  rcases List.mem_append.1 h with h|h
  · exact .inl (List.mem_of_mem_take h)
  · rcases List.mem_cons.1 h with h|h
    · exact .inr h
    · exact .inl (List.mem_of_mem_drop h)
theorem ids_ins {es : List Ent} {i : Nat} {x : Ent} (hp : 0 < x.2) (hlt : ∀ e ∈ es,e.2 < x.2) : (nmsL (insE es i x)).length = (nmsL es).length + 1 ∧ ((nmsL es).Nodup → (nmsL (insE es i x)).Nodup):=by
  have e1 : nmsL es = nmsL (es.take i) ++ nmsL (es.drop i):=by
    conv=>lhs;rw [← List.take_append_drop i es,ids_app]
  have e2 : nmsL (insE es i x) = nmsL (es.take i) ++ x.2 :: nmsL (es.drop i):=by unfold insE;rw [ids_app,ids_cons,if_pos hp]
  have hno : x.2 ∉ nmsL es:=fun h=>by
    unfold nmsL at h;obtain ⟨e,he,hx⟩:=List.mem_map.1 (List.mem_filter.1 h).1;have:=hlt e he;omega
  rw [e1] at hno ⊢;rw [e2];refine ⟨by simp only [List.length_append,List.length_cons];omega,fun hn=>?_⟩;rw [List.perm_middle.nodup_iff];exact List.nodup_cons.2 ⟨hno,hn⟩
theorem doL_ok {c : Nat} {L : Lst} {e : Edt} (h : LOk c L) (hf : xH e.2.2) : LOk (c + 1) (doL L e):=by
  have h0 : LOk (c + 1) L:=⟨h.flds,h.ids,h.nd,h.many,⟨h.next.1,by have:=h.next.2;omega⟩,by have:=h.len;omega⟩;have hat : ∀ id,¬ atE L.1 id < 0 → ∃ i : Nat,i < L.1.length ∧ atE L.1 id = i ∧ 0 < id ∧ (L.1.getD i (((0 : Int),ByteArray.empty,([] : List Fld)),(0 : Int))).2 = id:=fun id hn=>by
    rcases at_cases L.1 id with ⟨h1,_⟩|⟨i,h1,h2,h3,h4,_⟩
    · omega
    · exact ⟨i,h1,h2,h3,h4⟩
  unfold doL;split
  · split
    · exact h0
    · rename_i hn;obtain ⟨i,hi,he,hp,hid⟩:=hat _ hn;rw [he,Int.toNat_natCast];split
      · exact h0
      · have hids : nmsL (replE L.1 i (itmOf e.2.2)) = nmsL L.1:=by unfold nmsL;rw [ids_repl _ _ _ hi]
        refine ⟨fun x hx=>?_,fun x hx=>?_,by show (nmsL (replE L.1 i _)).Nodup;rw [hids];exact h.nd,by show L.2.2 = ((nmsL (replE L.1 i _)).length : Int);rw [hids];exact h.many,h0.next,?_⟩
        · rcases mem_repl hx with hx|rfl
          · exact h.flds x hx
          · exact hf
        · rcases mem_repl hx with hx|rfl
          · exact h.ids x hx
          · show 0 ≤ (L.1.getD i (((0 : Int),ByteArray.empty,([] : List Fld)),(0 : Int))).2 ∧ (L.1.getD i (((0 : Int),ByteArray.empty,([] : List Fld)),(0 : Int))).2 < L.2.1;exact h.ids _ (yT hi (((0 : Int),ByteArray.empty,([] : List Fld)),(0 : Int)))
        · show (replE L.1 i _).length ≤ c + 1;unfold replE;rw [List.length_set];exact h0.len
  · split
    · split
      · exact h0
      · rename_i hn;obtain ⟨i,hi,he,hp,hid⟩:=hat _ hn;rw [he,Int.toNat_natCast];obtain ⟨h1,h2⟩:=ids_del hi (by omega);refine ⟨fun x hx=>h.flds x (mem_del hx),fun x hx=>h.ids x (mem_del hx),h2 h.nd,?_,h0.next,?_⟩
        · show L.2.2 - 1 = ((nmsL (delE L.1 i)).length : Int);rw [h.many];omega
        · show (delE L.1 i).length ≤ c + 1;have:=h.len;unfold delE;rw [List.length_append,List.length_take,List.length_drop];omega
    · split
      · exact h0
      · rename_i hn;split
        · exact h0
        · split
          · exact h0
          · have hnx:=h.next;obtain ⟨h1,h2⟩:=ids_ins (es:=L.1) (i:=(atE L.1 e.2.1 + 1).toNat) (x:=(itmOf e.2.2,L.2.1)) (by show 0 < L.2.1;omega) (fun x hx=>(h.ids x hx).2);refine ⟨fun x hx=>?_,fun x hx=>?_,h2 h.nd,?_,⟨by show 1 ≤ L.2.1 + 1;omega,by show L.2.1 + 1 ≤ ((c + 1 : Nat) : Int);omega⟩,?_⟩
            · rcases mem_ins hx with hx|rfl
              · exact h.flds x hx
              · exact hf
            · show 0 ≤ x.2 ∧ x.2 < L.2.1 + 1;rcases mem_ins hx with hx|rfl
              · have:=h.ids x hx;omega
              · show 0 ≤ L.2.1 ∧ L.2.1 < L.2.1 + 1;omega
            · show L.2.2 + 1 = _;rw [h1,h.many];omega
            · have:=h.len;show (insE L.1 _ _).length ≤ c + 1;unfold insE;rw [List.length_append,List.length_cons,List.length_take,List.length_drop];omega
theorem ids_num : ∀ (l : List Itm) (n : Int),1 ≤ n → nmsL (numI n l) = (List.range (cntR l)).map (fun k : Nat=>n + (k : Int)) ∧ ∀ e ∈ numI n l,0 ≤ e.2 ∧ e.2 < n + (cntR l : Int)
  | [],n,_=>⟨rfl,fun e he=>by cases he⟩
  | x :: r,n,hn=>by
    unfold numI;split
    · rename_i h;obtain ⟨h1,h2⟩:=ids_num r (n + 1) (by omega);have hc : cntR (x :: r) = cntR r + 1:=by simp [cntR,h]
      rw [hc];refine ⟨?_,fun e he=>?_⟩
      · rw [ids_cons,if_pos (show 0 < n by omega),h1,List.range_succ_eq_map,List.map_cons,List.map_map]
        congr 1
        · simp
        · apply List.map_congr_left;intro k _;simp only [Function.comp];omega
      · rcases List.mem_cons.1 he with rfl|he
        · show 0 ≤ n ∧ n < _;omega
        · have:=h2 e he;omega
    · rename_i h;obtain ⟨h1,h2⟩:=ids_num r n hn;have hc : cntR (x :: r) = cntR r:=by simp [cntR,h]
      rw [hc];refine ⟨?_,fun e he=>?_⟩
      · rw [ids_cons,if_neg (show ¬ (0 : Int) < 0 by omega),h1]
      · rcases List.mem_cons.1 he with rfl|he
        · show 0 ≤ (0 : Int) ∧ (0 : Int) < _;omega
        · exact h2 e he
theorem ofT_ok {l : List Itm} {c : Nat} (hl : l.length < c) (hf : ∀ x ∈ l,xH x.2.2) : LOk c (ofT l):=by
  obtain ⟨h1,h2⟩:=ids_num l 1 (Int.le_refl _);have h3:=List.length_filter_le isRec l;have h4 : cntR l ≤ l.length:=h3;refine ⟨fun e he=>?_,h2,?_,?_,⟨?_,?_⟩,?_⟩
  · have : e.1 ∈ (numI 1 l).map (·.1):=List.mem_map.2 ⟨e,he,rfl⟩;rw [numI_items] at this;exact hf _ this
  · show (nmsL (numI 1 l)).Nodup;rw [h1];refine List.Pairwise.map _ ?_ List.nodup_range;intro a b hab e;apply hab;omega
  · show (cntR l : Int) = _;rw [show nmsL (ofT l).1 = _ from h1,List.length_map,List.length_range]
  · show 1 ≤ 1 + (cntR l : Int);omega
  · show 1 + (cntR l : Int) ≤ c;omega
  · show (numI 1 l).length ≤ c;rw [numI_len];omega
def refDo (M : RLs) (e : Edt) : RLs:=if e.1 = 1 then (refRep M e.2.1 e.2.2).1 else if e.1 = 2 then (refDel M e.2.1).1 else (refIns M e.2.1 e.2.2).1
end Q
end Ab
end Go.Proofs.YtbfhpimmlehkcaaGreatDoor
namespace Go.Proofs.YtbfhpimmlehkcaaGreatDoor
open Go.RowKit
namespace Ab
set_option maxRecDepth 100000
namespace Q
def prPl (es : List Ent) (id : Int) : Bool → Nat → Nat × Int → Prop
  | false,j,x=>x.1 = j ∧ x.2 = 0 ∧ ((es.filter live).take x.1).any (hasId id) = false
  | true,_,x=>x.2 = plcL es id
theorem placeL_c {k : Nat} (es : List Ent) (n m id : Int) (hl : es.length ≤ 1000000) : qT Tryz.prog 18 [.one (.adk k (rLst k) (es,n,m)),ii .i64 id] (ii .i64 (plcL es id)):=by
  have hll:=live_len es;refine acall_ofc (rs:=[.cell 4 3]) Tryz.func18 rfl rfl rfl teOk rfl ?_;refine qC ?_;refine qB ?_;refine qC ?_;refine qB ?_;refine qC ?_;refine qC ?_;refine qB ?_;refine Or.inl ?_;refine zai (rfl) ?_;refine zei _ (zai (all_c (es,n,m)) ?_);refine qN ?_;refine acode_range (caps:=[.one (.ref (.adk k (rLst k) (es,n,m)))]) (xs:=itEs es) [(3,.one (.own 0 0)),(4,.one (.own 1 0)),(5,.one (.own 2 0)),(8,.one (.clo 108 (.ref (.adk k (rLst k) (es,n,m)))))] 3 (prPl es id) (fun x=>[(0,.box 3 [.lit (.int .i64 id)]),(1,.box 3 [.lit (.int .i64 x.2)]),(2,.box 3 [.lit (.int .i64 x.1)])]) (fun _=>.ret) ((0,0) : Nat × Int) rfl rfl (all_iter es n m) (qP ⟨rfl,rfl,rfl,rfl⟩ ⟨rfl,rfl,rfl⟩ rfl) ⟨rfl,rfl,rfl⟩ (fun j hj=>by simp [itEs]) rfl rfl rfl (fun _ _ _=>rfl) rfl ?_ ?_ ?_
  ·intro j x hk hp;obtain ⟨i,v⟩:=x;obtain ⟨h1,h2,hn⟩:=hp;simp only at h1 h2 hn;subst h1 h2;obtain ⟨e,he,hg,hi,hx⟩:=itEs_get es hk;rw [hx];refine qB ?_;refine qN ?_;refine qC ?_;refine qC ?_;refine qB ?_;refine qK rfl (fun h13=>?_) (fun h13=>?_)
   ·try simp only [decide_eq_true_eq] at h13
    try simp only [zds] at h13
    have hh : hasId id ((es.filter live).getD i (((0 : Int),ByteArray.empty,([] : List Fld)),(0 : Int))) = true:=(by rw [hg];exact decide_eq_true h13);refine qC ?_;refine qB ?_;refine qL ?_;exact ⟨(i,(i : Int)),(ixOf_at (((0 : Int),ByteArray.empty,([] : List Fld)),(0 : Int)) hi hn hh).symm,rfl,qP trivial ⟨rfl,rfl,rfl⟩ rfl⟩
   ·try simp only [decide_eq_false_iff_not] at h13
    try simp only [zds] at h13
    have hh : hasId id ((es.filter live).getD i (((0 : Int),ByteArray.empty,([] : List Fld)),(0 : Int))) = false:=(by rw [hg];exact decide_eq_false h13);refine qM ?_;refine qB ?_;refine zai (by first|omega|assumption|decide|(simp only [zds];omega)|(simp <;> omega)) ?_;exact ⟨(i + 1,0),⟨rfl,rfl,by rw [take_any _ (hasId id) (((0 : Int),ByteArray.empty,([] : List Fld)),(0 : Int)) i hi,hn,hh];rfl⟩,qP trivial ⟨rfl,rfl,rfl⟩ rfl⟩
  ·intro x hp;obtain ⟨i,v⟩:=x;obtain ⟨h1,h2,hn⟩:=hp;simp only at h1 h2 hn;subst h1 h2;refine qC ?_;refine qB ?_;refine qL ?_;rw [itEs_len,List.take_length] at hn;rw [show plcL es id = -1 from ixOf_none hn];exact rfl
  ·intro j x hp;obtain ⟨i,v⟩:=x;have hp : v = plcL es id:=hp;subst hp;refine qL ?_;exact rfl
end Q
end Ab
end Go.Proofs.YtbfhpimmlehkcaaGreatDoor
namespace Go.Proofs.YtbfhpimmlehkcaaGreatDoor
open Go.RowKit
namespace Ab
set_option maxRecDepth 100000
namespace Q
end Q
end Ab
end Go.Proofs.YtbfhpimmlehkcaaGreatDoor
namespace Go.Proofs.YtbfhpimmlehkcaaGreatDoor
open Go.RowKit
namespace Ab
set_option maxRecDepth 100000
namespace Q
end Q
end Ab
end Go.Proofs.YtbfhpimmlehkcaaGreatDoor
namespace Go.Proofs.YtbfhpimmlehkcaaGreatDoor
open Go.RowKit
namespace Ab
set_option maxRecDepth 100000
namespace Q
abbrev zRL : List C:=[.lit (.slice none 0 0),.lit (.int .i64 0)]
end Q
end Ab
end Go.Proofs.YtbfhpimmlehkcaaGreatDoor
namespace Go.Proofs.YtbfhpimmlehkcaaGreatDoor
open Go.RowKit
namespace Ab
set_option maxRecDepth 100000
namespace Q
def insT (es : List Ent) (j : Nat) (e : Ent) (i : Nat) : List Ent:=if i < j then es.take i else insE (es.take i) j e
end Q
end Ab
end Go.Proofs.YtbfhpimmlehkcaaGreatDoor
namespace Go.Proofs.YtbfhpimmlehkcaaGreatDoor
open Go.RowKit
namespace Ab
set_option maxRecDepth 100000
namespace Q
def doB (num at_ id bad at2 want : Int) : Bool:=((true && decide (num = bad)) && decide (at_ = at2)) && decide (id = want)
end Q
end Ab
end Go.Proofs.YtbfhpimmlehkcaaGreatDoor
namespace Go.Proofs.YtbfhpimmlehkcaaGreatDoor
open Go.RowKit
namespace Ab
set_option maxRecDepth 100000
namespace Q
def plays (L : Lst) (s : List Edt) (i : Nat) : Lst:=(s.take i).foldl doL L
theorem plays_snoc (L : Lst) {s : List Edt} {i : Nat} (h : i < s.length) : plays L s (i + 1) = doL (plays L s i) (s.getD i ((0 : Int),(0 : Int),([] : List Fld))):=by
  unfold plays;rw [← yO ((0 : Int),(0 : Int),([] : List Fld)) h,List.foldl_append];rfl
theorem plays_ok {c : Nat} {L : Lst} {s : List Edt} (h : LOk c L) (hf : ∀ e ∈ s,xH e.2.2) : ∀ i,i ≤ s.length → LOk (c + i) (plays L s i)
  | 0,_=>by simpa [plays] using h
  | i + 1,hi=>by
    rw [plays_snoc L (by omega)];exact doL_ok (plays_ok h hf i (by omega)) (hf _ (yT (by omega) ((0 : Int),(0 : Int),([] : List Fld))))
theorem items_len {s : ByteArray} {l : List Itm} (hp : parseS s = .inr l) : l.length ≤ 2 * s.size + 1:=by
  have h0:=parse_ref s;rw [hp] at h0;obtain ⟨h1,_⟩:=linesT_len s;have key : ∀ (L : List Lne) (t : RSt) (bh : Bool) (l : List Itm),runR bh t L = .inr l → l.length ≤ t.out.length + 1 + 2 * L.length:=by
    intro L
    induction L with
    | nil =>
      intro t bh l h;unfold runR at h;cases h;split <;> simp
    | cons a r ih =>
      intro t bh l h;unfold runR at h;split at h
      · cases h
      · have i1:=ih _ _ _ h;have so : (stepR t a r).out.length ≤ t.out.length + 2:=by
          unfold stepR;split
          · simp only;split <;> simp
          · split <;> simp
        rw [List.length_cons];omega
  have k1:=key _ _ _ _ h0.symm;simp only [rst0,List.length_nil] at k1;omega
theorem of_lok {s : ByteArray} {l : List Itm} (hs : s.size ≤ 4000) (hp : parseS s = .inr l) : LOk 9000 (ofT l):=by
  have h1:=items_len hp;exact ofT_ok (by omega) fun x hx=>fldsOk_of (items_small hp x hx).1 (items_small hp x hx).2
theorem LOk.f1 {c : Nat} {L : Lst} (h : LOk c L) : ∀ e ∈ L.1,e.1.2.2.length ≤ 1000000:=fun e he=>Nat.le_trans (h.flds e he).1 (by decide)
end Q
end Ab
end Go.Proofs.YtbfhpimmlehkcaaGreatDoor
namespace Go.Proofs.YtbfhpimmlehkcaaGreatDoor
open Go.RowKit
namespace Ab
set_option maxRecDepth 100000
namespace Q
def al0 : List Ent:=[((3,⟨#[65,58,32,49,10]⟩,[(⟨#[65]⟩,⟨#[49]⟩)]),1)]
def alF : List Fld:=[(⟨#[66]⟩,⟨#[50]⟩)]
def al1 : List Ent:=insE al0 0 (itmOf alF,2)
end Q
end Ab
end Go.Proofs.YtbfhpimmlehkcaaGreatDoor
namespace Go.Proofs.YtbfhpimmlehkcaaGreatDoor
open Go.RowKit
namespace Ab
set_option maxRecDepth 100000
namespace Q
structure SeenI (es : List Ent) (n : Int) (i : Nat) (sn : List Bool) : Prop where
  le : i ≤ (stzL es).length
  len : sn.length = n.toNat
  seen : ∀ k : Nat,sn.getD k false = true → ∃ j,j < i ∧ ((stzL es).getD j ((0 : Int),([] : List Fld))).1 = k
theorem SeenI.next {es : List Ent} {n : Int} {i : Nat} {sn : List Bool} (h : SeenI es n i sn) (hi : i < (stzL es).length) (hp : 0 < ((stzL es).getD i ((0 : Int),([] : List Fld))).1) : SeenI es n (i + 1) (sn.set (((stzL es).getD i ((0 : Int),([] : List Fld))).1).toNat true):=by
  refine ⟨hi,by rw [List.length_set];exact h.len,fun k hk=>?_⟩
  by_cases e : (((stzL es).getD i ((0 : Int),([] : List Fld))).1).toNat = k
  · exact ⟨i,Nat.lt_succ_self _,by omega⟩
  · rw [List.getD_eq_getElem?_getD,List.getElem?_set_ne e,← List.getD_eq_getElem?_getD] at hk;obtain ⟨j,hj,h2⟩:=h.seen k hk;exact ⟨j,by omega,h2⟩
theorem lsbox_eq {L M : Lst} (h : M = L) : some (Ob.box 108 [.vec 1,.lit (.int .i64 L.2.1),.lit (.int .i64 L.2.2)]) = some (Ob.box 108 [.vec 1,.lit (.int .i64 M.2.1),.lit (.int .i64 M.2.2)]):=by rw [h]
theorem lsvec_eq {L M : Lst} (h : M = L) : some (Ob.vec 112 rEnt L.1) = some (Ob.vec 112 rEnt M.1):=by rw [h]
end Q
end Ab
end Go.Proofs.YtbfhpimmlehkcaaGreatDoor
namespace Go.Proofs.YtbfhpimmlehkcaaGreatDoor
open Go.RowKit
namespace Ab
set_option maxRecDepth 100000
namespace Q
theorem indexS_c (f : FuncId) {k κ : Nat} {β : Type} (S : Rd β) (y : β) (l : List Stz) (p : Stz → Bool) (hp : ∀ x ∈ l,qT Tryz.prog f [.agg (toL rStz x),.one (.adk κ S y)] (ib (p x))) : qT Tryz.prog 117 [.one (.slk k rStz l),.one (.clo f (.adk κ S y))] (ii .i64 (ixOf p l)):=by
  refine qS (rs:=[4]) Tryz.func117 rfl rfl rfl teOk rfl ?_;refine qC ?_;refine qB ?_;refine qC ?_;refine qC ?_;refine qB ?_;intro l1_1
  try simp only [zds] at l1_1
  refine qN ?_;refine yE (fun (i : Nat)=>i ≤ l.length ∧ (l.take i).any p = false) (fun (i : Nat)=>[(0,.one (.slk k rStz l)),(1,.one (.clo f (.adk κ S y))),(7,ii .i64 l.length),(8,ii .i64 i)]) (fun (i : Nat)=>[]) 0 (fun (i : Nat)=>l.length - i) 0 (⟨Nat.zero_le _,rfl⟩) (qP ⟨rfl,rfl,rfl,rfl⟩ trivial rfl) ?_;intro i hI0;obtain ⟨hi,hn⟩:=hI0;refine qC ?_;refine qB ?_;refine qC ?_;refine qK rfl (fun h9=>?_) (fun h9=>?_)
  ·try simp only [decide_eq_true_eq] at h9
   try simp only [zds] at h9
   refine qM ?_;refine qC ?_;refine qN ?_;refine qC ?_;refine qB ?_;refine qC ?_;refine qB ?_;refine zai (by first|omega|assumption|decide|(simp only [zds];omega)|(simp <;> omega)) ?_;refine Or.inl ?_;refine zai (rfl) ?_;refine zei _ (zai (hp _ (yT (show i < l.length by omega) _)) ?_);refine qK rfl (fun h16=>?_) (fun h16=>?_)
   ·try simp only [zbq] at h16
    try simp only [Int.toNat_natCast,qH,qI,qF] at h16
    refine qC ?_;refine qB ?_;refine qL ?_;exact yX (ixOf_at ((0 : Int),([] : List Fld)) (by omega) hn h16).symm
   ·try simp only [zbq] at h16
    try simp only [Int.toNat_natCast,qH,qI,qF] at h16
    refine qM ?_;refine qB ?_;refine zai (by first|omega|assumption|decide|(simp only [zds];omega)|(simp <;> omega)) ?_;exact ⟨i + 1,⟨by omega,by rw [take_any l p ((0 : Int),([] : List Fld)) i (by omega),hn];exact h16⟩,by first|omega|(simp <;> omega),qP ⟨rfl,rfl,rfl,rfl⟩ trivial rfl⟩
  ·try simp only [decide_eq_false_iff_not,Int.not_lt] at h9
   try simp only [zds] at h9
   refine yI ?_;refine qC ?_;refine qB ?_;refine qL ?_;have e : i = l.length:=by omega
   subst e;rw [List.take_length] at hn;exact yX (ixOf_none hn).symm
theorem tyStz : TyOk Tryz.prog 42 ty42:=tyOk42
def keepF (p : Stz → Bool) (l : List Stz) : List Stz:=l.filter fun x=>!p x
structure DelI (p : Stz → Bool) (l : List Stz) (j : Nat) (ys : List Stz) : Prop where
  le : j ≤ l.length
  len : ys.length = l.length
  lt : (keepF p (l.take j)).length < j
  pre : ys.take (keepF p (l.take j)).length = keepF p (l.take j)
  suf : ys.drop j = l.drop j
theorem keepF_snoc {p : Stz → Bool} {l : List Stz} {j : Nat} (h : j < l.length) : keepF p (l.take (j + 1)) = keepF p (l.take j) ++ if p (l.getD j ((0 : Int),([] : List Fld))) then [] else [l.getD j ((0 : Int),([] : List Fld))]:=by
  unfold keepF;rw [← yO ((0 : Int),([] : List Fld)) h,List.filter_append]
  congr 1
  generalize l.getD j ((0 : Int),([] : List Fld)) = x
  cases e : p x <;> simp [e]
theorem DelI.at {p : Stz → Bool} {l ys : List Stz} {j : Nat} (h : DelI p l j ys) (hj : j < l.length) : ys.getD j ((0 : Int),([] : List Fld)) = l.getD j ((0 : Int),([] : List Fld)):=by
  have h1:=congrArg (fun m=>m.getD 0 ((0 : Int),([] : List Fld))) h.suf
  simpa [List.getD_eq_getElem?_getD,List.getElem?_drop] using h1
theorem DelI.skip {p : Stz → Bool} {l ys : List Stz} {j : Nat} (h : DelI p l j ys) (hj : j < l.length) (hp : p (l.getD j ((0 : Int),([] : List Fld))) = true) : DelI p l (j + 1) ys ∧ (keepF p (l.take (j + 1))).length = (keepF p (l.take j)).length:=by
  have e:=keepF_snoc (p:=p) hj;rw [hp,if_pos rfl,List.append_nil] at e;refine ⟨⟨hj,h.len,by rw [e];have:=h.lt;omega,by rw [e];exact h.pre,?_⟩,by rw [e]⟩;rw [← List.drop_drop,h.suf,List.drop_drop]
theorem DelI.keep {p : Stz → Bool} {l ys : List Stz} {j : Nat} (h : DelI p l j ys) (hj : j < l.length) (hp : p (l.getD j ((0 : Int),([] : List Fld))) = false) : DelI p l (j + 1) (ys.set (keepF p (l.take j)).length (l.getD j ((0 : Int),([] : List Fld)))) ∧ (keepF p (l.take (j + 1))).length = (keepF p (l.take j)).length + 1:=by
  have e:=keepF_snoc (p:=p) hj;rw [hp,if_neg Bool.false_ne_true] at e;have hlt:=h.lt;have hl:=h.len;obtain ⟨i,hi⟩ : ∃ i,(keepF p (l.take j)).length = i:=⟨_,rfl⟩;have hpre:=h.pre;rw [hi] at hlt hpre ⊢;have e2 : (keepF p (l.take (j + 1))).length = i + 1:=by rw [e,List.length_append,hi];rfl
  refine ⟨⟨hj,by rw [List.length_set];exact hl,by omega,?_,?_⟩,e2⟩
  · rw [e2,e,List.take_succ_eq_append_getElem (by rw [List.length_set];omega),List.take_set,List.getElem_set_self,List.set_eq_of_length_le (by rw [List.length_take];omega),hpre]
  · rw [List.drop_set_of_lt (by omega),← List.drop_drop,h.suf,List.drop_drop]
theorem DelI.init {p : Stz → Bool} {l : List Stz} {i : Nat} (hi : i < l.length) (hn : (l.take i).any p = false) (hp : p (l.getD i ((0 : Int),([] : List Fld))) = true) : DelI p l (i + 1) l ∧ (keepF p (l.take (i + 1))).length = i:=by
  have e0 : keepF p (l.take i) = l.take i:=by
    unfold keepF;refine List.filter_eq_self.2 fun x hx=>?_
    have:=List.any_eq_false.1 hn x hx
    simpa using this
  have e:=keepF_snoc (p:=p) hi;rw [hp,if_pos rfl,List.append_nil,e0] at e;have e2 : (keepF p (l.take (i + 1))).length = i:=by rw [e,List.length_take];omega
  exact ⟨⟨hi,rfl,by omega,by rw [e2,e],rfl⟩,e2⟩
theorem keepF_all {p : Stz → Bool} {l : List Stz} (h : l.any p = false) : keepF p l = l:=by
  unfold keepF;refine List.filter_eq_self.2 fun x hx=>?_
  have:=List.any_eq_false.1 h x hx
  simpa using this
theorem deleteS_o (f : FuncId) {κ : Nat} {β : Type} (S : Rd β) (y : β) (l : List Stz) (p : Stz → Bool) (hp : ∀ x ∈ l,qT Tryz.prog f [.agg (toL rStz x),.one (.adk κ S y)] (ib (p x))) (hl : l.length ≤ 1000000) : qZ Tryz.prog 99 [.one (.vec 0),.one (.clo f (.adk κ S y))] [(0,.vec 42 rStz l)] 1 (.one (.vec 0)) [(0,.vec 42 rStz (keepF p l))] 1:=by
  have hix:=indexS_c f (k:=1) S y l p hp;rcases ixOf_cases p l ((0 : Int),([] : List Fld)) with ⟨h1,h2⟩|⟨i0,h1,h2,h3,h4⟩
  · rw [h1] at hix;refine qW (rs:=[4]) Tryz.func99 rfl rfl rfl teOk (by decide) rfl ?_;refine qC ?_;refine qB ?_;refine qC ?_;refine qB ?_;refine Or.inr (Or.inr (Or.inl ?_));refine zai rfl ?_;refine zei _ (zai (hix) ?_);refine qC ?_;refine qC ?_;refine qB ?_;refine qK rfl (fun h12=>?_) (fun h12=>?_)
    ·try simp only [decide_eq_true_eq] at h12
     try simp only [zds] at h12
     refine qC ?_;refine qB ?_;refine qL ?_;rw [keepF_all h2];exact ⟨rfl,rfl,rfl⟩
    ·try simp only [decide_eq_false_iff_not] at h12
     try simp only [zds] at h12
     simp at h12
  · rw [h2] at hix;obtain ⟨hd0,hk0⟩:=DelI.init h1 h3 h4;refine qW (rs:=[4]) Tryz.func99 rfl rfl rfl teOk (by decide) rfl ?_;refine qC ?_;refine qB ?_;refine qC ?_;refine qB ?_;refine Or.inr (Or.inr (Or.inl ?_));refine zai rfl ?_;refine zei _ (zai (hix) ?_);refine qC ?_;refine qC ?_;refine qB ?_;refine qK rfl (fun h12=>?_) (fun h12=>?_)
    ·try simp only [decide_eq_true_eq] at h12
     try simp only [zds] at h12
     omega
    ·try simp only [decide_eq_false_iff_not] at h12
     try simp only [zds] at h12
     refine qM ?_;refine qC ?_;refine qC ?_;refine qB ?_;refine zai (by first|omega|assumption|decide|(simp only [zds];omega)|(simp <;> omega)) ?_;refine qN ?_;refine yE (fun (x : Nat × List Stz)=>DelI p l x.1 x.2) (fun (x : Nat × List Stz)=>[(0,.one (.vec 0)),(1,.one (.clo f (.adk κ S y))),(5,ii .i64 ((keepF p (l.take x.1)).length : Int)),(6,ii .i64 x.1)]) (fun (x : Nat × List Stz)=>[(0,.vec 42 rStz x.2)]) 1 (fun (x : Nat × List Stz)=>l.length - x.1) (i0 + 1,l) (hd0) (qP ⟨rfl,rfl,(yX (by rw [hk0])),(yX (by simp only;omega))⟩ rfl rfl) ?_;intro ⟨j,ys⟩ hI0;simp only at hI0 ⊢;have hj1:=hI0.le;have hj2:=hI0.len;have hj3:=hI0.lt;refine qC ?_;refine qC ?_;refine qB ?_;intro l5_2
     try simp only [zds] at l5_2
     refine qK rfl (fun h19=>?_) (fun h19=>?_)
     ·try simp only [decide_eq_true_eq] at h19
      try simp only [zds] at h19
      have hjl : j < l.length:=(by omega);have hya:=hI0.at hjl;refine qM ?_;refine qC ?_;refine qN ?_;refine qC ?_;refine qB ?_;refine zai (by first|omega|assumption|decide|(simp only [zds];omega)|(simp <;> omega)) ?_;refine zai (by (first|omega|(simp only [Int.toNat_natCast];omega))) ?_;refine qC ?_;refine qB ?_;refine Or.inl ?_;refine zai (rfl) ?_;refine zei _ (zai (hp (ys.getD j ((0 : Int),([] : List Fld))) (by rw [hya];exact yT hjl ((0 : Int),([] : List Fld)))) ?_);refine qK rfl (fun h29=>?_) (fun h29=>?_)
      ·try simp only [Bool.not_eq_true'] at h29
       try simp only [zds] at h29
       rw [hya] at h29;obtain ⟨hk1,hk2⟩:=hI0.keep hjl h29;refine qC ?_;refine qB ?_;refine zai (by (first|omega|(simp only [Int.toNat_natCast];omega))) ?_;refine zai (by (first|omega|(simp only [Int.toNat_natCast];omega))) ?_;refine qB ?_;refine zai (by first|omega|assumption|decide|(simp only [zds];omega)|(simp <;> omega)) ?_;refine qB ?_;refine zai (by first|omega|assumption|decide|(simp only [zds];omega)|(simp <;> omega)) ?_;exact ⟨(j + 1,ys.set (keepF p (l.take j)).length (l.getD j ((0 : Int),([] : List Fld)))),hk1,by first|omega|(simp <;> omega),qP ⟨rfl,rfl,(yX (by simp only;omega)),(yX (by simp only;omega))⟩ (qY (by simp only;rw [← hya];try exact rfl)) rfl⟩
      ·try simp only [Bool.not_eq_false'] at h29
       try simp only [zds] at h29
       rw [hya] at h29;obtain ⟨hk1,hk2⟩:=hI0.skip hjl (by simpa using h29);refine qM ?_;refine qB ?_;refine zai (by first|omega|assumption|decide|(simp only [zds];omega)|(simp <;> omega)) ?_;exact ⟨(j + 1,ys),hk1,by first|omega|(simp <;> omega),qP ⟨rfl,rfl,(yX (by simp only;omega)),(yX (by simp only;omega))⟩ rfl rfl⟩
     ·try simp only [decide_eq_false_iff_not,Int.not_lt] at h19
      try simp only [zds] at h19
      refine yI ?_;have hje : j = l.length:=(by omega);subst hje;have hpre:=hI0.pre;rw [List.take_length] at hpre hj3 ⊢;obtain ⟨i,hi⟩ : ∃ i,(keepF p l).length = i:=⟨_,rfl⟩;rw [hi] at hj3 hpre ⊢;refine qC ?_;refine acode_part [_,_] [_,_] rfl (Eq.refl _) ?_;intro hte rd n cx e1 e2 ρ a w hs;refine clear_sound (kk:=i) (xs:=ys) Tryz.underlying38 tyStz (z:=((0 : Int),([] : List Fld))) rfl rfl rfl rfl rfl rfl rfl rfl (by rw [e1];decide) hs rfl rfl rfl (by omega) (fun a w hs'=>⟨_,_,_,_,?_,hs'⟩);clear hs hte;refine qC ?_;refine acode_part [_,_] [_,_] rfl (Eq.refl _) ?_;intro hte rd n cx e1 e2 ρ a w hs;refine cut_sound (kk:=i) Tryz.underlying38 tyStz rfl rfl rfl rfl (by rw [e1];decide) hs rfl rfl rfl (by simp;omega) (fun ρ a hs'=>?_);refine awp_last hte e1 e2 [_] hs' (Eq.refl _) ?_;clear hs hte hs';refine qL ?_;exact ⟨rfl,qY (by rw [List.take_append_of_le_length (by rw [List.length_take];omega),List.take_take,Nat.min_self];exact hpre),rfl⟩
end Q
end Ab
end Go.Proofs.YtbfhpimmlehkcaaGreatDoor
namespace Go.Proofs.YtbfhpimmlehkcaaGreatDoor
open Go.RowKit
namespace Ab
set_option maxRecDepth 100000
abbrev Term:=Bool × ByteArray × Int × ByteArray
abbrev yA : Rd Term:=.st .bool (.st .str (.st (.int .i64) .str))
namespace Q
namespace QQ
def begins (s w : ByteArray) (n : Nat) : Bool:=decide (n + w.size ≤ s.size) && decide (s.extract n (n + w.size) = w)
theorem begins_c (s w : ByteArray) (n : Nat) (h1 : s.size ≤ 1000000000) (h2 : w.size ≤ 1000000000) (h3 : n ≤ 1000000000) : qT Tryz.prog 172 [is s,is w,ii .i64 n] (ib (begins s w n)):=by
  refine qS (rs:=[6]) Tryz.func172 rfl rfl rfl teOk rfl ?_;refine qC ?_;refine qB ?_;refine qC ?_;refine qB ?_;refine zai (by first|omega|assumption|decide|(simp only [zds];omega)|(simp <;> omega)) ?_;refine zai (fun h=>trivial) ?_;refine zai (fun h=>trivial) ?_;refine zai (fun h=>trivial) ?_;refine zai (fun h=>trivial) ?_;refine zai (fun h=>⟨⟨h,trivial⟩,trivial⟩) ?_;refine zai (fun h=>⟨⟨⟨h,trivial⟩,⟨h,trivial⟩,trivial⟩,by first|omega|decide|(simp only [zds];omega)|(have h9:=of_decide_eq_true h;omega)|(simp [gq] at h;omega)⟩) ?_;refine zai (fun h=>⟨⟨⟨h,trivial⟩,⟨h,trivial⟩,⟨h,trivial⟩,trivial⟩,by first|omega|decide|(simp only [zds];omega)|(have h9:=of_decide_eq_true h;omega)|(simp [gq] at h;omega)⟩) ?_;refine zai (fun h=>trivial) ?_;refine zai (fun h=>⟨⟨h,trivial⟩,⟨h,trivial⟩,trivial⟩) ?_;refine zai (by exact fun h=>h) ?_;refine qL ?_;refine ib_eq ?_;unfold begins
  congr 1
  exact decide_eq_decide.2 (by omega)
def ok0 (t : Term) (v : ByteArray) : Bool:=((decide (t.2.2.1 = 1) || (decide (t.2.2.1 = 2) && decide (v = t.2.2.2))) || (decide (t.2.2.1 = 3) && begins v t.2.2.2 0)) || (decide (t.2.2.1 = 5) && Op.bytesLess v.toList t.2.2.2.toList)
def okV (t : Term) (v : ByteArray) : Bool:=ok0 t v || (decide (t.2.2.1 = 4) && (List.range (v.size + 1)).any (begins v t.2.2.2))
def okF (t : Term) (f : Fld) : Bool:=decide (f.1 = t.2.1) && okV t f.2
def bad (t : Term) : Bool:=decide (t.2.2.1 < 1) || decide (5 < t.2.2.1)
def refMatches (t : Term) (l : List Fld) : Bool:=!bad t && !decide (l.any (okF t) = t.1)
theorem matches_c (t : Term) (l : List Fld) (hl : ∀ f ∈ l,f.2.size ≤ 1000000000) (ht : t.2.2.2.size ≤ 1000000000) : qT Tryz.prog 152 [.agg (toL yA t),.one (.sl rFld l)] (ib (refMatches t l)):=by
  refine qS (rs:=[4]) Tryz.func152 rfl rfl rfl teOk rfl ?_;refine qC ?_;refine qB ?_;refine qC ?_;refine qC ?_;refine qB ?_;refine zai (fun h=>trivial) ?_;refine zai (fun h=>⟨⟨h,trivial⟩,trivial⟩) ?_;refine zai (fun h=>⟨⟨h,trivial⟩,trivial⟩) ?_;refine zai (by first|(intro h;rw [h];rfl)|(intro h;cases h)) ?_;refine qK rfl (fun h17=>?_) (fun h17=>?_)
  ·try simp only [decide_eq_true_eq,Bool.or_eq_true] at h17
   try simp only [zds] at h17
   refine qC ?_;refine qB ?_;refine qL ?_;refine ib_eq ?_;unfold refMatches bad;rcases h17 with h|h <;> simp [h]
  ·try simp only [decide_eq_false_iff_not,Bool.or_eq_false_iff,Int.not_lt] at h17
   try simp only [zds] at h17
   refine qM ?_;refine qC ?_;refine qB ?_;refine qC ?_;refine qC ?_;refine qB ?_;refine qN ?_;refine yE (fun (i : Nat)=>i ≤ l.length) (fun (i : Nat)=>[(1,.one (.sl rFld l)),(2,.one (.own 0 0)),(5,ib ((l.take i).any (okF t))),(6,ii .i64 i)]) (fun (i : Nat)=>[(0,.box 127 (toL yA t))]) 1 (fun (i : Nat)=>l.length - i) 0 (Nat.zero_le _) (qP ⟨rfl,rfl,rfl,rfl⟩ rfl rfl) ?_;intro i hI0;refine qC ?_;refine qC ?_;refine qB ?_;intro l5_2
   try simp only [zds] at l5_2
   refine qK rfl (fun h21=>?_) (fun h21=>?_)
   ·try simp only [decide_eq_true_eq] at h21
    try simp only [zds] at h21
    have hv : (l.getD i ⟨.empty,.empty⟩).2.size ≤ 1000000000:=by (have hi : i < l.length:=by omega);rw [List.getD_eq_getElem?_getD,List.getElem?_eq_getElem hi];exact hl _ (List.getElem_mem hi)
    refine qM ?_;refine qC ?_;refine qN ?_;refine qC ?_;refine qB ?_;refine zai (by first|omega|assumption|decide|(simp only [zds];omega)|(simp <;> omega)) ?_;refine qC ?_;refine qB ?_;refine zai (fun h=>trivial) ?_;refine zai (fun h=>⟨⟨h,trivial⟩,trivial⟩) ?_;refine zai (fun h=>⟨⟨h,trivial⟩,trivial⟩) ?_;refine zai (fun h=>⟨⟨h,trivial⟩,trivial⟩) ?_;refine zai (fun h=>trivial) ?_;refine zai (fun h=>trivial) ?_;refine zai (fun h=>⟨⟨h,trivial⟩,trivial⟩) ?_;refine zai (fun h=>⟨⟨h,trivial⟩,⟨h,trivial⟩,trivial⟩) ?_;refine zai (fun h=>⟨⟨⟨h,trivial⟩,trivial⟩,by first|exact fun h2=>h2|(intro h2;rw [h,h2];rfl)|(intro h2;cases h2)|(intro h2;simp_all [gq])⟩) ?_;refine zai (by first|(intro h;rw [h];rfl)|(intro h;cases h)) ?_;refine zai (fun h=>trivial) ?_;refine zai (fun h=>⟨⟨h,trivial⟩,trivial⟩) ?_;refine zai (fun h=>⟨⟨h,trivial⟩,trivial⟩) ?_;refine zai (fun h=>⟨⟨h,trivial⟩,trivial⟩) ?_;refine zai (fun h=>trivial) ?_;refine zai (fun h=>trivial) ?_;refine zai (fun h=>⟨⟨h,trivial⟩,trivial⟩) ?_;refine Or.inl ?_;refine zai (rfl) ?_;refine zei _ (zai (fun h=>⟨⟨⟨h,trivial⟩,⟨h,trivial⟩,trivial⟩,begins_c _ _ 0 hv ht (by omega)⟩) ?_);refine zai (fun h=>⟨⟨⟨h,trivial⟩,trivial⟩,by first|exact fun h2=>h2|(intro h2;rw [h,h2];rfl)|(intro h2;cases h2)|(intro h2;simp_all [gq])⟩) ?_;refine zai (by first|(intro h;rw [h];rfl)|(intro h;cases h)) ?_;refine zai (fun h=>trivial) ?_;refine zai (fun h=>⟨⟨h,trivial⟩,trivial⟩) ?_;refine zai (fun h=>⟨⟨h,trivial⟩,trivial⟩) ?_;refine zai (fun h=>⟨⟨h,trivial⟩,trivial⟩) ?_;refine zai (fun h=>trivial) ?_;refine zai (fun h=>trivial) ?_;refine zai (fun h=>⟨⟨h,trivial⟩,trivial⟩) ?_;refine zai (fun h=>⟨⟨h,trivial⟩,⟨h,trivial⟩,trivial⟩) ?_;refine zai (fun h=>⟨⟨⟨h,trivial⟩,trivial⟩,by first|exact fun h2=>h2|(intro h2;rw [h,h2];rfl)|(intro h2;cases h2)|(intro h2;simp_all [gq])⟩) ?_;refine zai (by first|(intro h;rw [h];rfl)|(intro h;cases h)) ?_;refine qC ?_;refine qC ?_;refine qB ?_;refine qN ?_;refine yE (fun (j : Nat)=>j ≤ (l.getD i ⟨.empty,.empty⟩).2.size + 1) (fun (j : Nat)=>[(1,.one (.sl rFld l)),(2,.one (.own 0 0)),(5,ib ((l.take i).any (okF t))),(6,ii .i64 i),(7,is (l.getD i ⟨.empty,.empty⟩).2),(8,ib (ok0 t (l.getD i ⟨.empty,.empty⟩).2 || (decide (t.2.2.1 = 4) && (List.range j).any (begins (l.getD i ⟨.empty,.empty⟩).2 t.2.2.2)))),(9,ii .i64 j)]) (fun (j : Nat)=>[(0,.box 127 (toL yA t))]) 1 (fun (j : Nat)=>(l.getD i ⟨.empty,.empty⟩).2.size + 1 - j) 0 (Nat.zero_le _) (qP ⟨rfl,rfl,rfl,rfl,rfl,(ib_eq (by rw [show (List.range 0).any (begins (l.getD i (.empty,.empty)).2 t.2.2.2) = false from rfl,Bool.and_false,Bool.or_false];rfl)),rfl⟩ rfl rfl) ?_;intro j hI2;refine qC ?_;refine qC ?_;refine qB ?_;refine zai (fun h=>trivial) ?_;refine zai (fun h=>⟨⟨h,trivial⟩,trivial⟩) ?_;refine zai (fun h=>⟨⟨h,trivial⟩,trivial⟩) ?_;refine zai (by exact fun h=>h) ?_;refine qK rfl (fun h73=>?_) (fun h73=>?_)
    ·try simp only [decide_eq_true_eq,Bool.and_eq_true] at h73
     try simp only [zds] at h73
     refine qM ?_;refine qC ?_;refine qN ?_;refine qB ?_;refine zai (fun h=>trivial) ?_;refine zai (fun h=>trivial) ?_;refine zai (fun h=>⟨⟨h,trivial⟩,trivial⟩) ?_;refine zai (fun h=>trivial) ?_;refine Or.inl ?_;refine zai (rfl) ?_;refine zei _ (zai (fun h=>⟨⟨⟨h,trivial⟩,⟨h,trivial⟩,⟨h,trivial⟩,trivial⟩,begins_c _ _ _ hv ht (by omega)⟩) ?_);refine zai (by first|(intro h;rw [h];rfl)|(intro h;cases h)) ?_;refine qB ?_;refine zai (by first|omega|assumption|decide|(simp only [zds];omega)|(simp <;> omega)) ?_;exact ⟨j + 1,by omega,by first|omega|(simp <;> omega),qP ⟨rfl,rfl,rfl,rfl,rfl,(ib_eq (by rw [range_any];simp [h73.2,Bool.or_assoc])),rfl⟩ rfl rfl⟩
    ·try simp only [decide_eq_false_iff_not,Bool.and_eq_false_iff,Int.not_le] at h73
     try simp only [zds] at h73
     refine yI ?_;have e2 : (ok0 t (l.getD i (.empty,.empty)).2 || (decide (t.2.2.1 = 4) && (List.range j).any (begins (l.getD i (.empty,.empty)).2 t.2.2.2))) = okV t (l.getD i (.empty,.empty)).2:=by (unfold okV;exact if h4 : t.2.2.1 = 4 then (by (have e3 : j = (l.getD i (.empty,.empty)).2.size + 1:=by (rcases h73 with h|h <;> omega));rw [e3]) else (by rw [decide_eq_false h4,Bool.false_and,Bool.false_and]))
     refine acode_draw rfl (by kernel_rfl) ?_;refine zai (fun h=>trivial) ?_;refine zai (fun h=>trivial) ?_;refine zai (fun h=>⟨⟨⟨h,trivial⟩,⟨h,trivial⟩,trivial⟩,by first|omega|decide|(simp only [zds];omega)|(have h9:=of_decide_eq_true h;omega)|(simp [gq] at h;omega)⟩) ?_;refine zai (fun h=>⟨⟨h,trivial⟩,trivial⟩) ?_;refine zai (fun h=>⟨⟨h,trivial⟩,trivial⟩) ?_;refine zai (fun h=>trivial) ?_;refine zai (fun h=>⟨⟨h,trivial⟩,trivial⟩) ?_;refine zai (fun h=>⟨⟨h,trivial⟩,⟨h,trivial⟩,trivial⟩) ?_;refine zai (fun h=>⟨⟨h,trivial⟩,trivial⟩) ?_;refine zai (fun h=>trivial) ?_;refine zai (fun h=>⟨⟨⟨h,trivial⟩,trivial⟩,by first|exact fun h2=>h2|(intro h2;rw [h,h2];rfl)|(intro h2;cases h2)|(intro h2;simp_all [gq])⟩) ?_;refine zai (by first|(intro h;rw [h];rfl)|(intro h;cases h)) ?_;refine qB ?_;refine zai (by first|omega|assumption|decide|(simp only [zds];omega)|(simp <;> omega)) ?_;exact ⟨i + 1,by omega,by first|omega|(simp <;> omega),qP ⟨rfl,rfl,(ib_eq (by rw [take_any l (okF t) (.empty,.empty) i (by omega)];show _ = (_ || (decide _ && okV t (l.getD i (.empty,.empty)).2));rw [← e2];rfl)),rfl⟩ rfl rfl⟩
   ·try simp only [decide_eq_false_iff_not,Int.not_lt] at h21
    try simp only [zds] at h21
    refine yI ?_;refine qC ?_;refine qB ?_;refine qL ?_;refine ib_eq ?_;have e : i = l.length:=by omega
    subst e;unfold refMatches bad;rw [List.take_length,decide_eq_false (show ¬ t.2.2.1 < 1 by omega),decide_eq_false (show ¬ 5 < t.2.2.1 by omega)];rfl
def TermOk (t : Term) : Prop:=t.2.1.size ≤ 100 ∧ t.2.2.2.size ≤ 500
def SelOk (s : List (List Term)) : Prop:=s.length ≤ 1000 ∧ ∀ r ∈ s,r.length ≤ 1000 ∧ ∀ t ∈ r,TermOk t
def xH (l : List Fld) : Prop:=l.length ≤ 1000 ∧ ∀ f ∈ l,f.1.size ≤ 1000000 ∧ f.2.size ≤ 1000000
def refAll (s : List (List Term)) (l : List Fld) : Bool:=s.any fun r=>r.all fun t=>refMatches t l
theorem all_c (s : List (List Term)) (l : List Fld) (hs : SelOk s) (hl : xH l) : qT Tryz.prog 116 [.one (.sl (.sl yA) s),.one (.sl rFld l)] (ib (refAll s l)):=by
  have hl' : ∀ f ∈ l,f.2.size ≤ 1000000000:=fun f hf=>Nat.le_trans (hl.2 f hf).2 (by decide)
  refine qS (rs:=[4]) Tryz.func116 rfl rfl rfl teOk rfl ?_;refine qC ?_;refine qB ?_;refine qC ?_;refine qC ?_;refine qB ?_;refine qN ?_;refine yE (fun (i : Nat)=>i ≤ s.length ∧ (s.take i).any (fun r=>r.all fun t=>refMatches t l) = false) (fun (i : Nat)=>[(0,.one (.sl (.sl yA) s)),(1,.one (.sl rFld l)),(5,ii .i64 i)]) (fun (i : Nat)=>[]) 0 (fun (i : Nat)=>s.length - i) 0 (⟨Nat.zero_le _,rfl⟩) (qP ⟨rfl,rfl,rfl⟩ trivial rfl) ?_;intro i hI0;obtain ⟨hi,hn⟩:=hI0;refine qC ?_;refine qC ?_;refine qB ?_;intro l2_2
  try simp only [zds] at l2_2
  refine qK rfl (fun h11=>?_) (fun h11=>?_)
  ·try simp only [decide_eq_true_eq] at h11
   try simp only [zds] at h11
   have hr:=hs.2 _ (yT (show i < s.length by omega) []);refine qM ?_;refine qC ?_;refine qN ?_;refine qC ?_;refine qB ?_;refine qC ?_;refine qC ?_;refine qB ?_;refine qN ?_;refine yE (fun (j : Nat)=>j ≤ (s.getD i []).length) (fun (j : Nat)=>[(0,.one (.sl (.sl yA) s)),(1,.one (.sl rFld l)),(5,ii .i64 i),(6,ib (((s.getD i []).take j).all fun t=>refMatches t l)),(7,ii .i64 j)]) (fun (j : Nat)=>[]) 0 (fun (j : Nat)=>(s.getD i []).length - j) 0 (Nat.zero_le _) (qP ⟨rfl,rfl,rfl,rfl,rfl⟩ trivial rfl) ?_;intro j hI2;refine qC ?_;refine qC ?_;refine qB ?_;refine zai (by first|omega|assumption|decide|(simp only [zds];omega)|(simp <;> omega)) ?_;intro l6_5
   try simp only [Int.toNat_natCast,qH] at l6_5
   refine qK rfl (fun h20=>?_) (fun h20=>?_)
   ·try simp only [decide_eq_true_eq] at h20
    try simp only [Int.toNat_natCast,qH] at h20
    refine qM ?_;refine qC ?_;refine qN ?_;refine qB ?_;refine zai (fun h=>trivial) ?_;refine zai (fun h=>trivial) ?_;refine zai (fun h=>⟨⟨⟨h,trivial⟩,⟨h,trivial⟩,trivial⟩,by first|omega|decide|(simp only [zds];omega)|(have h9:=of_decide_eq_true h;omega)|(simp [gq] at h;omega)⟩) ?_;refine zai (fun h=>⟨⟨h,trivial⟩,trivial⟩) ?_;refine zai (fun h=>trivial) ?_;refine zai (fun h=>⟨⟨⟨h,trivial⟩,⟨h,trivial⟩,trivial⟩,by first|omega|decide|(simp only [Int.toNat_natCast,qH];omega)|(have h9:=of_decide_eq_true h;omega)|(simp [gq] at h;omega)⟩) ?_;refine zai (fun h=>⟨⟨h,trivial⟩,trivial⟩) ?_;refine zai (fun h=>trivial) ?_;refine Or.inl ?_;refine zai (rfl) ?_;refine zei _ (zai (fun h=>⟨⟨⟨h,trivial⟩,⟨h,trivial⟩,trivial⟩,matches_c _ _ hl' (Nat.le_trans (hr.2 _ (yT (show j < (s.getD i []).length by omega) (false,ByteArray.empty,0,ByteArray.empty))).2 (by decide))⟩) ?_);refine zai (by exact fun h=>h) ?_;refine qB ?_;refine zai (by first|omega|assumption|decide|(simp only [zds];omega)|(simp <;> omega)) ?_;exact ⟨j + 1,by omega,by first|omega|(simp <;> omega),qP ⟨rfl,rfl,rfl,(ib_eq (by rw [take_all _ _ (false,ByteArray.empty,0,ByteArray.empty) j (by omega)];rfl)),rfl⟩ trivial rfl⟩
   ·try simp only [decide_eq_false_iff_not,Int.not_lt] at h20
    try simp only [Int.toNat_natCast,qH] at h20
    refine yI ?_;have e2 : j = (s.getD i []).length:=by omega
    subst e2;refine qC ?_;refine qB ?_;refine qK rfl (fun h35=>?_) (fun h35=>?_)
    ·try simp only [zbq] at h35
     try simp only [zds] at h35
     rw [List.take_length] at h35;refine qC ?_;refine qB ?_;refine qL ?_;refine ib_eq ?_;exact (any_at (p:=fun r=>r.all fun t=>refMatches t l) [] (by omega) h35).symm
    ·try simp only [zbq] at h35
     try simp only [zds] at h35
     rw [List.take_length] at h35;refine qM ?_;refine qB ?_;refine zai (by first|omega|assumption|decide|(simp only [zds];omega)|(simp <;> omega)) ?_;exact ⟨i + 1,⟨by omega,by rw [take_any _ _ [] i (by omega),hn];exact h35⟩,by first|omega|(simp <;> omega),qP ⟨rfl,rfl,rfl⟩ trivial rfl⟩
  ·try simp only [decide_eq_false_iff_not,Int.not_lt] at h11
   try simp only [zds] at h11
   refine yI ?_;refine qC ?_;refine qB ?_;refine qL ?_;refine ib_eq ?_;have e : i = s.length:=by omega
   subst e;rw [List.take_length] at hn;exact hn.symm
def bigT (t : Term) : Bool:=decide (100 < t.2.1.size) || decide (500 < t.2.2.2.size)
def bigR (r : List Term) : Bool:=decide (24 < r.length) || r.any bigT
def largeB (s : List (List Term)) : Bool:=decide (25 < s.length) || s.any bigR
def sumF (l : List Fld) : Nat:=(l.map fun f=>min f.1.size 10000 + min f.2.size 10000).sum
def muchB (l : List Fld) : Bool:=decide (61 < l.length) || decide (6000 < sumF l)
end QQ
end Q
end Ab
end Go.Proofs.YtbfhpimmlehkcaaGreatDoor
namespace Go.Proofs.YtbfhpimmlehkcaaGreatDoor
open Go.RowKit
namespace Ab
set_option maxRecDepth 100000
namespace Q
namespace QQ
theorem index_F (f : FuncId) {β : Type} (S : Rd β) (y : β) (l : List (Fld)) (p : Fld → Bool) (d : Fld) (_hd : (rFld).dflt = d) (hp : ∀ x ∈ l,qT Tryz.prog f [.agg (toL rFld x),.one (.addr S y)] (ib (p x))) : qT Tryz.prog 170 [.one (.sl rFld l),.one (.clo f (.addr S y))] (ii .i64 (ixOf p l)):=by
  obtain rfl:=_hd;refine qS (rs:=[4]) Tryz.func170 rfl rfl rfl teOk rfl ?_;refine qC ?_;refine qB ?_;refine qC ?_;refine qC ?_;refine qB ?_;intro l1_1
  try simp only [zds] at l1_1
  refine qN ?_;refine yE (fun (i : Nat)=>i ≤ l.length ∧ (l.take i).any p = false) (fun (i : Nat)=>[(0,.one (.sl rFld l)),(1,.one (.clo f (.addr S y))),(7,ii .i64 l.length),(8,ii .i64 i)]) (fun (i : Nat)=>[]) 0 (fun (i : Nat)=>l.length - i) 0 (⟨Nat.zero_le _,rfl⟩) (qP ⟨rfl,rfl,rfl,rfl⟩ trivial rfl) ?_;intro i hI0;obtain ⟨hi,hn⟩:=hI0;refine qC ?_;refine qB ?_;refine qC ?_;refine qK rfl (fun h9=>?_) (fun h9=>?_)
  ·try simp only [decide_eq_true_eq] at h9
   try simp only [zds] at h9
   refine qM ?_;refine qC ?_;refine qN ?_;refine qC ?_;refine qB ?_;refine qC ?_;refine qB ?_;refine zai (by first|omega|assumption|decide|(simp only [zds];omega)|(simp <;> omega)) ?_;refine Or.inl ?_;refine zai (rfl) ?_;refine zei _ (zai (hp _ (yT (show i < l.length by omega) _)) ?_);refine qK rfl (fun h16=>?_) (fun h16=>?_)
   ·try simp only [zbq] at h16
    try simp only [Int.toNat_natCast,qI,qG] at h16
    refine qC ?_;refine qB ?_;refine qL ?_;exact yX (ixOf_at (rFld).dflt (by omega) hn h16).symm
   ·try simp only [zbq] at h16
    try simp only [Int.toNat_natCast,qI,qG] at h16
    refine qM ?_;refine qB ?_;refine zai (by first|omega|assumption|decide|(simp only [zds];omega)|(simp <;> omega)) ?_;exact ⟨i + 1,⟨by omega,by rw [take_any l p (rFld).dflt i (by omega),hn];exact h16⟩,by first|omega|(simp <;> omega),qP ⟨rfl,rfl,rfl,rfl⟩ trivial rfl⟩
  ·try simp only [decide_eq_false_iff_not,Int.not_lt] at h9
   try simp only [zds] at h9
   refine yI ?_;refine qC ?_;refine qB ?_;refine qL ?_;have e : i = l.length:=by omega
   subst e;rw [List.take_length] at hn;exact yX (ixOf_none hn).symm
theorem contains_F (f : FuncId) {β : Type} (S : Rd β) (y : β) (l : List (Fld)) (p : Fld → Bool) (d : Fld) (hd : (rFld).dflt = d) (hp : ∀ x ∈ l,qT Tryz.prog f [.agg (toL rFld x),.one (.addr S y)] (ib (p x))) : qT Tryz.prog 144 [.one (.sl rFld l),.one (.clo f (.addr S y))] (ib (l.any p)):=by
  refine qS (rs:=[4]) Tryz.func144 rfl rfl rfl teOk rfl ?_;refine qC ?_;refine qB ?_;refine qC ?_;refine qB ?_;refine Or.inl ?_;refine zai (rfl) ?_;refine zei _ (zai (index_F f S y l p d hd hp) ?_);refine qL ?_;exact ib_eq (ixOf_ge p l)
def ofB (t : Term) (v : ByteArray) : Bool:=if t.2.2.1 = 1 then true else if t.2.2.1 = 2 then decide (v = t.2.2.2) else if t.2.2.1 = 3 then Lib.hasPrefix v.data.toList t.2.2.2.data.toList
  else if t.2.2.1 = 4 then Lib.contains v.data.toList t.2.2.2.data.toList else Op.bytesLess v.toList t.2.2.2.toList
theorem of_c (t : Term) (v : ByteArray) (hv : v.size ≤ 1000000) : qT Tryz.prog 146 [.agg (toL yA t),is v] (ib (ofB t v)):=by
  refine qS (rs:=[4]) Tryz.func146 rfl rfl rfl teOk rfl ?_;refine qC ?_;refine qB ?_;refine qC ?_;refine qC ?_;refine qB ?_;refine qN ?_;refine qC ?_;refine qB ?_;refine qK rfl (fun h7=>?_) (fun h7=>?_)
  ·try simp only [decide_eq_true_eq] at h7
   try simp only [zds] at h7
   refine qC ?_;refine qB ?_;refine qL ?_;refine ib_eq ?_;unfold ofB;rw [if_pos h7]
  ·try simp only [decide_eq_false_iff_not] at h7
   try simp only [zds] at h7
   refine qC ?_;refine qB ?_;refine qK rfl (fun h9=>?_) (fun h9=>?_)
   ·try simp only [decide_eq_true_eq] at h9
    try simp only [zds] at h9
    refine qC ?_;refine qB ?_;refine qL ?_;refine ib_eq ?_;unfold ofB;rw [if_neg h7,if_pos h9]
   ·try simp only [decide_eq_false_iff_not] at h9
    try simp only [zds] at h9
    refine qC ?_;refine qB ?_;refine qK rfl (fun h15=>?_) (fun h15=>?_)
    ·try simp only [decide_eq_true_eq] at h15
     try simp only [zds] at h15
     refine qC ?_;refine qB ?_;refine Or.inl ?_;refine zai (rfl) ?_;refine zei _ (zai (hasPrefix_c _ _) ?_);refine qL ?_;refine ib_eq ?_;unfold ofB;rw [if_neg h7,if_neg h9,if_pos h15]
    ·try simp only [decide_eq_false_iff_not] at h15
     try simp only [zds] at h15
     refine qC ?_;refine qB ?_;refine qK rfl (fun h21=>?_) (fun h21=>?_)
     ·try simp only [decide_eq_true_eq] at h21
      try simp only [zds] at h21
      refine qC ?_;refine qB ?_;refine Or.inl ?_;refine zai (rfl) ?_;refine zei _ (zai (contains_c _ _ (by omega)) ?_);refine qL ?_;refine ib_eq ?_;unfold ofB;rw [if_neg h7,if_neg h9,if_neg h15,if_pos h21]
     ·try simp only [decide_eq_false_iff_not] at h21
      try simp only [zds] at h21
      refine qM ?_;refine qC ?_;refine qB ?_;refine qL ?_;refine ib_eq ?_;unfold ofB;rw [if_neg h7,if_neg h9,if_neg h15,if_neg h21]
theorem matches1_c (t : Term) (f : Fld) (hv : f.2.size ≤ 1000000) : qT Tryz.prog 145 [.agg (toL rFld f),.one (.addr yA t)] (ib (decide (f.1 = t.2.1) && ofB t f.2)):=by
  refine qS (rs:=[3]) Tryz.func145 rfl rfl rfl teOk rfl ?_;refine qC ?_;refine qB ?_;refine qC ?_;refine qB ?_;refine zai (fun h=>trivial) ?_;refine zai (fun h=>trivial) ?_;refine zai (fun h=>⟨⟨h,trivial⟩,trivial⟩) ?_;refine Or.inl ?_;refine zai (rfl) ?_;refine zei _ (zai (fun h=>⟨⟨⟨h,trivial⟩,⟨h,trivial⟩,trivial⟩,of_c _ _ hv⟩) ?_);refine zai (by exact fun h=>h) ?_;refine qL ?_;rfl
def termMatches (t : Term) (l : List Fld) : Bool:=!bad t && !decide ((l.any fun f=>decide (f.1 = t.2.1) && ofB t f.2) = t.1)
theorem termMatches_c (t : Term) (l : List Fld) (hl : xH l) : qT Tryz.prog 102 [.agg (toL yA t),.one (.sl rFld l)] (ib (termMatches t l)):=by
  refine qS (rs:=[4]) Tryz.func102 rfl rfl rfl teOk rfl ?_;refine qC ?_;refine qB ?_;refine qC ?_;refine qC ?_;refine qB ?_;refine zai (fun h=>trivial) ?_;refine zai (fun h=>⟨⟨h,trivial⟩,trivial⟩) ?_;refine zai (fun h=>⟨⟨h,trivial⟩,trivial⟩) ?_;refine zai (by first|(intro h;rw [h];rfl)|(intro h;cases h)) ?_;refine qK rfl (fun h13=>?_) (fun h13=>?_)
  ·try simp only [decide_eq_true_eq,Bool.or_eq_true] at h13
   try simp only [zds] at h13
   refine qC ?_;refine qB ?_;refine qL ?_;refine ib_eq ?_;unfold termMatches bad;rcases h13 with h|h <;> simp [h]
  ·try simp only [decide_eq_false_iff_not,Bool.or_eq_false_iff,Int.not_lt] at h13
   try simp only [zds] at h13
   refine qM ?_;refine qC ?_;refine qB ?_;refine Or.inl ?_;refine zai (rfl) ?_;refine zei _ (zai (contains_F 145 yA t l (fun f=>decide (f.1 = t.2.1) && ofB t f.2) _ rfl (fun x hx=>matches1_c t x (hl.2 x hx).2)) ?_);refine qC ?_;refine qB ?_;refine qL ?_;refine ib_eq ?_;unfold termMatches bad;rw [decide_eq_false (show ¬ t.2.2.1 < 1 by omega),decide_eq_false (show ¬ 5 < t.2.2.1 by omega)];rfl
theorem index_T (f : FuncId) {β : Type} (S : Rd β) (y : β) (l : List (Term)) (p : Term → Bool) (d : Term) (_hd : (yA).dflt = d) (hp : ∀ x ∈ l,qT Tryz.prog f [.agg (toL yA x),.one (.addr S y)] (ib (p x))) : qT Tryz.prog 148 [.one (.sl yA l),.one (.clo f (.addr S y))] (ii .i64 (ixOf p l)):=by
  obtain rfl:=_hd;refine qS (rs:=[4]) Tryz.func148 rfl rfl rfl teOk rfl ?_;refine qC ?_;refine qB ?_;refine qC ?_;refine qC ?_;refine qB ?_;intro l1_1
  try simp only [zds] at l1_1
  refine qN ?_;refine yE (fun (i : Nat)=>i ≤ l.length ∧ (l.take i).any p = false) (fun (i : Nat)=>[(0,.one (.sl yA l)),(1,.one (.clo f (.addr S y))),(7,ii .i64 l.length),(8,ii .i64 i)]) (fun (i : Nat)=>[]) 0 (fun (i : Nat)=>l.length - i) 0 (⟨Nat.zero_le _,rfl⟩) (qP ⟨rfl,rfl,rfl,rfl⟩ trivial rfl) ?_;intro i hI0;obtain ⟨hi,hn⟩:=hI0;refine qC ?_;refine qB ?_;refine qC ?_;refine qK rfl (fun h9=>?_) (fun h9=>?_)
  ·try simp only [decide_eq_true_eq] at h9
   try simp only [zds] at h9
   refine qM ?_;refine qC ?_;refine qN ?_;refine qC ?_;refine qB ?_;refine qC ?_;refine qB ?_;refine zai (by first|omega|assumption|decide|(simp only [zds];omega)|(simp <;> omega)) ?_;refine Or.inl ?_;refine zai (rfl) ?_;refine zei _ (zai (hp _ (yT (show i < l.length by omega) _)) ?_);refine qK rfl (fun h16=>?_) (fun h16=>?_)
   ·try simp only [zbq] at h16
    try simp only [Int.toNat_natCast,qI,qG,qF,qD] at h16
    refine qC ?_;refine qB ?_;refine qL ?_;exact yX (ixOf_at (yA).dflt (by omega) hn h16).symm
   ·try simp only [zbq] at h16
    try simp only [Int.toNat_natCast,qI,qG,qF,qD] at h16
    refine qM ?_;refine qB ?_;refine zai (by first|omega|assumption|decide|(simp only [zds];omega)|(simp <;> omega)) ?_;exact ⟨i + 1,⟨by omega,by rw [take_any l p (yA).dflt i (by omega),hn];exact h16⟩,by first|omega|(simp <;> omega),qP ⟨rfl,rfl,rfl,rfl⟩ trivial rfl⟩
  ·try simp only [decide_eq_false_iff_not,Int.not_lt] at h9
   try simp only [zds] at h9
   refine yI ?_;refine qC ?_;refine qB ?_;refine qL ?_;have e : i = l.length:=by omega
   subst e;rw [List.take_length] at hn;exact yX (ixOf_none hn).symm
theorem contains_T (f : FuncId) {β : Type} (S : Rd β) (y : β) (l : List (Term)) (p : Term → Bool) (d : Term) (hd : (yA).dflt = d) (hp : ∀ x ∈ l,qT Tryz.prog f [.agg (toL yA x),.one (.addr S y)] (ib (p x))) : qT Tryz.prog 105 [.one (.sl yA l),.one (.clo f (.addr S y))] (ib (l.any p)):=by
  refine qS (rs:=[4]) Tryz.func105 rfl rfl rfl teOk rfl ?_;refine qC ?_;refine qB ?_;refine qC ?_;refine qB ?_;refine Or.inl ?_;refine zai (rfl) ?_;refine zei _ (zai (index_T f S y l p d hd hp) ?_);refine qL ?_;exact ib_eq (ixOf_ge p l)
theorem index_R (f g : FuncId) {β : Type} (S : Rd β) (y : β) (l : List (List Term)) (p : (List Term) → Bool) (d : List Term) (_hd : (Rd.sl yA).dflt = d) (hp : ∀ x ∈ l,qT Tryz.prog f [.one (.sl yA x),.one (.ref (.clo g (.addr S y)))] (ib (p x))) : qT Tryz.prog 147 [.one (.sl (.sl yA) l),.one (.clo f (.ref (.clo g (.addr S y))))] (ii .i64 (ixOf p l)):=by
  obtain rfl:=_hd;refine qS (rs:=[4]) Tryz.func147 rfl rfl rfl teOk rfl ?_;refine qC ?_;refine qB ?_;refine qC ?_;refine qC ?_;refine qB ?_;intro l1_1
  try simp only [zds] at l1_1
  refine qN ?_;refine yE (fun (i : Nat)=>i ≤ l.length ∧ (l.take i).any p = false) (fun (i : Nat)=>[(0,.one (.sl (.sl yA) l)),(1,.one (.clo f (.ref (.clo g (.addr S y))))),(7,ii .i64 l.length),(8,ii .i64 i)]) (fun (i : Nat)=>[]) 0 (fun (i : Nat)=>l.length - i) 0 (⟨Nat.zero_le _,rfl⟩) (qP ⟨rfl,rfl,rfl,rfl⟩ trivial rfl) ?_;intro i hI0;obtain ⟨hi,hn⟩:=hI0;refine qC ?_;refine qB ?_;refine qC ?_;refine qK rfl (fun h9=>?_) (fun h9=>?_)
  ·try simp only [decide_eq_true_eq] at h9
   try simp only [zds] at h9
   refine qM ?_;refine qC ?_;refine qN ?_;refine qC ?_;refine qB ?_;refine qC ?_;refine qB ?_;refine zai (by first|omega|assumption|decide|(simp only [zds];omega)|(simp <;> omega)) ?_;refine Or.inl ?_;refine zai (rfl) ?_;refine zei _ (zai (hp _ (yT (show i < l.length by omega) _)) ?_);refine qK rfl (fun h16=>?_) (fun h16=>?_)
   ·try simp only [zbq] at h16
    try simp only [Int.toNat_natCast,qH] at h16
    refine qC ?_;refine qB ?_;refine qL ?_;exact yX (ixOf_at (Rd.sl yA).dflt (by omega) hn h16).symm
   ·try simp only [zbq] at h16
    try simp only [Int.toNat_natCast,qH] at h16
    refine qM ?_;refine qB ?_;refine zai (by first|omega|assumption|decide|(simp only [zds];omega)|(simp <;> omega)) ?_;exact ⟨i + 1,⟨by omega,by rw [take_any l p (Rd.sl yA).dflt i (by omega),hn];exact h16⟩,by first|omega|(simp <;> omega),qP ⟨rfl,rfl,rfl,rfl⟩ trivial rfl⟩
  ·try simp only [decide_eq_false_iff_not,Int.not_lt] at h9
   try simp only [zds] at h9
   refine yI ?_;refine qC ?_;refine qB ?_;refine qL ?_;have e : i = l.length:=by omega
   subst e;rw [List.take_length] at hn;exact yX (ixOf_none hn).symm
theorem contains_R (f g : FuncId) {β : Type} (S : Rd β) (y : β) (l : List (List Term)) (p : (List Term) → Bool) (d : List Term) (hd : (Rd.sl yA).dflt = d) (hp : ∀ x ∈ l,qT Tryz.prog f [.one (.sl yA x),.one (.ref (.clo g (.addr S y)))] (ib (p x))) : qT Tryz.prog 103 [.one (.sl (.sl yA) l),.one (.clo f (.ref (.clo g (.addr S y))))] (ib (l.any p)):=by
  refine qS (rs:=[4]) Tryz.func103 rfl rfl rfl teOk rfl ?_;refine qC ?_;refine qB ?_;refine qC ?_;refine qB ?_;refine Or.inl ?_;refine zai (rfl) ?_;refine zei _ (zai (index_R f g S y l p d hd hp) ?_);refine qL ?_;exact ib_eq (ixOf_ge p l)
theorem fails_c (t : Term) (l : List Fld) (hl : xH l) : qT Tryz.prog 101 [.agg (toL yA t),.one (.addr (.sl rFld) l)] (ib (!termMatches t l)):=by
  refine qS (rs:=[3]) Tryz.func101 rfl rfl rfl teOk rfl ?_;refine qC ?_;refine qB ?_;refine qC ?_;refine qB ?_;refine Or.inl ?_;refine zai (rfl) ?_;refine zei _ (zai (termMatches_c t l hl) ?_);refine qL ?_;rfl
theorem rowFails_c (r : List Term) (l : List Fld) (hl : xH l) : qT Tryz.prog 104 [.one (.sl yA r),.one (.ref (.clo 101 (.addr (.sl rFld) l)))] (ib (!(r.any fun t=>!termMatches t l))):=by
  refine qS (rs:=[3]) Tryz.func104 rfl rfl rfl teOk rfl ?_;refine qC ?_;refine qB ?_;refine qC ?_;refine qB ?_;refine Or.inl ?_;refine zai (rfl) ?_;refine zei _ (zai (contains_T _ (.sl rFld) l r (fun t=>!termMatches t l) _ rfl (fun x _=>fails_c x l hl)) ?_);refine qL ?_;rfl
def selMatches (s : List (List Term)) (l : List Fld) : Bool:=s.any fun r=>!(r.any fun t=>!termMatches t l)
theorem selMatches_c (s : List (List Term)) (l : List Fld) (hl : xH l) : qT Tryz.prog 60 [.one (.sl (.sl yA) s),.one (.sl rFld l)] (ib (selMatches s l)):=by
  refine qS (rs:=[4]) Tryz.func60 rfl rfl rfl teOk rfl ?_;refine qC ?_;refine qB ?_;refine qC ?_;refine qB ?_;refine qC ?_;refine qB ?_;refine Or.inl ?_;refine zai (rfl) ?_;refine zei _ (zai (contains_R 104 101 (.sl rFld) l s (fun r=>!(r.any fun t=>!termMatches t l)) _ rfl (fun x _=>rowFails_c x l hl)) ?_);refine qL ?_;rfl
end QQ
end Q
end Ab
end Go.Proofs.YtbfhpimmlehkcaaGreatDoor
namespace Go.Proofs.YtbfhpimmlehkcaaGreatDoor
open Go.RowKit
namespace Ab
set_option maxRecDepth 100000
namespace Q
namespace QQ
def sgn (c : UInt8) : Bool:=decide (0 ≤ Lib.indexByte [63,61,94,126,60] c)
def signL : List UInt8 → Int → Int
  | [],_=>-1
  | 92 :: r,n=>match r with
    | []=>-1
    | _ :: r=>signL r (n + 2)
  | c :: r,n=>if sgn c then n else signL r (n + 1)
end QQ
end Q
end Ab
end Go.Proofs.YtbfhpimmlehkcaaGreatDoor
namespace Go.Proofs.YtbfhpimmlehkcaaGreatDoor
open Go.RowKit
namespace Ab
set_option maxRecDepth 100000
namespace Q
namespace QQ
def unc (c : UInt8) : UInt8:=if 0 ≤ Lib.indexByte [92,115,110,98] c then [92,32,10,124].getD (Lib.indexByte [92,115,110,98] c).toNat 0 else c
def unescL : List UInt8 → List UInt8
  | []=>[]
  | 92 :: r=>match r with
    | []=>[92]
    | c :: r=>unc c :: unescL r
  | c :: r=>c :: unescL r
def escC (more : List UInt8) (c : UInt8) : List UInt8 :=
  if 0 ≤ Lib.indexByte [92,32,10,124] c then [92,[92,115,110,98].getD (Lib.indexByte [92,32,10,124] c).toNat 0]
  else if 0 ≤ Lib.indexByte more c then [92,c] else [c]
def escL (more l : List UInt8) : List UInt8:=l.flatMap (escC more)
def SG : List UInt8:=[63,61,94,126,60]
def moreOf (k : Bool) : List UInt8:=if k then [63,61,94,126,60,33] else []
def fine (k : Bool) (c : UInt8) : Bool:=match escC (moreOf k) c with
  | [x]=>decide (x = c) && !decide (x = 92) && !decide (x = 32) && !decide (x = 124) && (!k || (!sgn x && !decide (x = 33)))
  | [a,x]=>decide (a = 92) && decide (unc x = c) && !decide (x = 32) && !decide (x = 124)
  | _=>false
abbrev ls (s : ByteArray) : List UInt8:=s.data.toList
def signOf (rel : Int) : UInt8:=SG.getD (rel - 1).toNat 0
def termL (t : Term) : List UInt8:=(if t.1 then [33] else []) ++ escL (moreOf true) (ls t.2.1) ++ signOf t.2.2.1 :: escL (moreOf false) (ls t.2.2.2)
def rowL (r : List Term) : List UInt8:=if r.isEmpty then [97,108,108] else Lib.join (r.map termL) [32]
def selL (s : List (List Term)) : List UInt8:=if s.isEmpty then [110,111,110,101] else Lib.join (s.map rowL) [32,124,32]
def restOf (w : List UInt8) : List UInt8:=Lib.trimPrefix w [33]
def bytes (l : List UInt8) : ByteArray:=⟨l.toArray⟩
def termP (w : List UInt8) : Option Term :=
  if signL (restOf w) 0 < 0 then none else some (Lib.hasPrefix w [33],bytes (unescL ((restOf w).take (signL (restOf w) 0).toNat)),Lib.indexByte SG ((restOf w).getD (signL (restOf w) 0).toNat 0) + 1,bytes (unescL ((restOf w).drop ((signL (restOf w) 0).toNat + 1))))
def RelOk (t : Term) : Prop:=1 ≤ t.2.2.1 ∧ t.2.2.1 ≤ 5
def Clean (sep p : List UInt8) : Prop:=(∀ r j,j < p.length → Lib.occAt (p ++ sep ++ r) sep j = false) ∧ ∀ j,j ≤ p.length → Lib.occAt p sep j = false
def rdAll {α : Type} (f : List UInt8 → Option α) : List (List UInt8) → Option (List α)
  | []=>some []
  | w :: r=>match f w,rdAll f r with
    | some t,some l=>some (t :: l)
    | _,_=>none
def rowP (l : List UInt8) : Option (List Term):=if l = [97,108,108] then some [] else rdAll termP (Lib.split l [32])
def selP (l : List UInt8) : Option (List (List Term)):=if l = [110,111,110,101] then some [] else rdAll rowP (Lib.split l [32,124,32])
end QQ
end Q
end Ab
end Go.Proofs.YtbfhpimmlehkcaaGreatDoor
namespace Go.Proofs.YtbfhpimmlehkcaaGreatDoor
open Go.RowKit
namespace Ab
set_option maxRecDepth 100000
namespace Q
namespace QQ
end QQ
end Q
end Ab
end Go.Proofs.YtbfhpimmlehkcaaGreatDoor
namespace Go.Proofs.YtbfhpimmlehkcaaGreatDoor
open Go.RowKit
namespace Ab
set_option maxRecDepth 100000
namespace Q
namespace QQ
def tupT (o : Option Term) : A:=.tup [(true,toL yA (o.getD (false,ByteArray.empty,0,ByteArray.empty))),(false,[.lit (.bool o.isSome)])]
def tupR (o : Option (List Term)) : A:=.tup [(false,[.sl yA (o.getD [])]),(false,[.lit (.bool o.isSome)])]
end QQ
end Q
end Ab
end Go.Proofs.YtbfhpimmlehkcaaGreatDoor
namespace Go.Proofs.YtbfhpimmlehkcaaGreatDoor
open Go.RowKit
namespace Ab
set_option maxRecDepth 100000
namespace Q
namespace QQ
def blankC (c : UInt8) : Bool:=decide (c = 32) || decide (c = 9)
def blankL (l : List UInt8) : Bool:=decide (1 ≤ l.length) && blankC (l.getD 0 0)
def keyOk (l : List UInt8) : Bool:=(((((decide (1 ≤ l.length) && decide (l.length ≤ 32)) && !blankC (l.getD 0 0)) && !decide (l.getD 0 0 = 35)) && !decide (58 ∈ l)) && !decide (10 ∈ l))
end QQ
end Q
end Ab
end Go.Proofs.YtbfhpimmlehkcaaGreatDoor
namespace Go.Proofs.YtbfhpimmlehkcaaGreatDoor
open Go.RowKit
namespace Ab
set_option maxRecDepth 100000
namespace Q
namespace QQ
def goodT (t : Term) : Bool:=(((keyOk t.2.1.data.toList && decide (1 ≤ t.2.2.1)) && decide (t.2.2.1 ≤ 5)) && (!decide (t.2.2.1 = 1) || decide (t.2.2.2 = ⟨#[]⟩)))
def goodR (r : List Term) : Bool:=decide (r.length ≤ 20) && r.all goodT
def goodS (s : List (List Term)) : Bool:=decide (s.length ≤ 20) && s.all goodR
def TxtOk (t : Term) : Prop:=t.2.1.size ≤ 1000000 ∧ t.2.2.2.size ≤ 1000000
def TxtsOk (s : List (List Term)) : Prop:=∀ r ∈ s,∀ t ∈ r,TxtOk t
end QQ
end Q
end Ab
end Go.Proofs.YtbfhpimmlehkcaaGreatDoor
namespace Go.Proofs.YtbfhpimmlehkcaaGreatDoor
open Go.RowKit
namespace Ab
set_option maxRecDepth 100000
namespace Q
namespace QQ
def TermsOk (r : List Term) : Prop:=r.length ≤ 20 ∧ ∀ t ∈ r,TxtOk t ∧ RelOk t
def errForm : C:=.lit (.iface 118 (.int .i64 2))
def printA (s : List (List Term)) : A:=if goodS s then .tup [(false,[.lit (.string (bytes (selL s)))]),(false,[.lit .nilIface])] else .tup [(false,[.lit (.string ⟨#[]⟩)]),(false,[errForm])]
end QQ
end Q
end Ab
end Go.Proofs.YtbfhpimmlehkcaaGreatDoor
namespace Go.Proofs.YtbfhpimmlehkcaaGreatDoor
open Go.RowKit
namespace Ab
set_option maxRecDepth 100000
namespace Q
namespace QQ
def parseL (l : List UInt8) : Option (List (List Term)):=match selP l with
  | some s=>if goodS s && decide (selL s = l) then some s else none
  | none=>none
def parseA (o : Option (List (List Term))) : A:=match o with
  | some s=>.tup [(false,[.sl (.sl yA) s]),(false,[.lit .nilIface])]
  | none=>.tup [(false,[.sl (.sl yA) []]),(false,[errForm])]
end QQ
end Q
end Ab
end Go.Proofs.YtbfhpimmlehkcaaGreatDoor
namespace Go.Proofs.YtbfhpimmlehkcaaGreatDoor
open Go.RowKit
namespace Ab
set_option maxRecDepth 100000
namespace Q
namespace QQ
def signC (c : UInt8) : Bool:=((((decide (c = 33) || decide (c = 63)) || decide (c = 61)) || decide (c = 94)) || decide (c = 126)) || decide (c = 60)
def escX (k : Bool) (c : UInt8) : List UInt8:=if c = 92 then [92,92] else if c = 32 then [92,115] else if c = 10 then [92,110] else if c = 124 then [92,98] else if (k && signC c) = true then [92,c] else [c]
def rowTo (r : List Term) (k : Nat) : List UInt8:=if r.isEmpty then [97,108,108] else Lib.join ((r.map termL).take k) [32]
def selTo (s : List (List Term)) (i : Nat) : List UInt8:=Lib.join ((s.map rowL).take i) [32,124,32]
end QQ
end Q
end Ab
end Go.Proofs.YtbfhpimmlehkcaaGreatDoor
namespace Go.Proofs.YtbfhpimmlehkcaaGreatDoor
open Go.RowKit
namespace Ab
set_option maxRecDepth 100000
namespace Q
namespace QQ
def readL : List UInt8 → Option (List UInt8)
  | []=>some []
  | 92 :: r=>match r with
    | []=>none
    | c :: r=>(readL r).map (unc c :: ·)
  | c :: r=>(readL r).map (c :: ·)
def wordV (w : List UInt8) : Term × Bool :=
  if signL (restOf w) 0 < 0 then (((false,ByteArray.empty,0,ByteArray.empty) : Term),false) else
    ((Lib.hasPrefix w [33],bytes ((readL ((restOf w).take (signL (restOf w) 0).toNat)).getD []),Lib.indexByte SG ((restOf w).getD (signL (restOf w) 0).toNat 0) + 1,bytes ((readL ((restOf w).drop ((signL (restOf w) 0).toNat + 1))).getD [])),
     (readL ((restOf w).take (signL (restOf w) 0).toNat)).isSome && (readL ((restOf w).drop ((signL (restOf w) 0).toNat + 1))).isSome)
def stepW (s : List (List Term)) (w : List UInt8) : Option (List (List Term)) :=
  if w = [124] then some (s ++ [[]]) else if w = [97,108,108] then some s else if (wordV w).2 then some (s.set (s.length - 1) (s.getD (s.length - 1) [] ++ [(wordV w).1])) else none
def runP (s : List (List Term)) (w : List UInt8) : List UInt8 → Option (List (List Term))
  | []=>stepW s w
  | c :: r=>if c = 32 then (match stepW s w with|some s'=>runP s' [] r|none=>none) else runP s (w ++ [c]) r
def refParse (l : List UInt8) : Option (List (List Term)):=if l = [110,111,110,101] then some [] else match runP [[]] [] l with
  | some s=>if goodS s && decide (selL s = l) then some s else none
  | none=>none
def foldT (s : List (List Term)) : List (List UInt8) → Option (List (List Term))
  | []=>some s
  | w :: r=>match stepW s w with
    | some s'=>foldT s' r
    | none=>none
def tokR (r : List Term) : List (List UInt8):=if r.isEmpty then [[97,108,108]] else r.map termL
def toks : List (List Term) → List (List UInt8)
  | []=>[]
  | r :: s=>match s with
    | []=>tokR r
    | _ :: _=>tokR r ++ [124] :: toks s
end QQ
end Q
end Ab
end Go.Proofs.YtbfhpimmlehkcaaGreatDoor
namespace Go.Proofs.YtbfhpimmlehkcaaGreatDoor
open Go.RowKit
namespace Ab
set_option maxRecDepth 100000
namespace Q
namespace QQ
def readA (o : Option (List UInt8)) : A:=.tup [(false,[.lit (.string (bytes (o.getD [])))]),(false,[.lit (.bool o.isSome)])]
def uncX (c : UInt8) : UInt8:=if c = 115 then 32 else if c = 110 then 10 else if c = 98 then 124 else c
def wordA (v : Term × Bool) : A:=.tup [(true,toL yA v.1),(false,[.lit (.bool v.2)])]
end QQ
end Q
end Ab
end Go.Proofs.YtbfhpimmlehkcaaGreatDoor
namespace Go.Proofs.YtbfhpimmlehkcaaGreatDoor
open Go.RowKit
namespace Ab
set_option maxRecDepth 100000
namespace Q
namespace QQ
def refParseA (o : Option (List (List Term))) : A:=.tup [(false,[.sl (.sl yA) (o.getD [])]),(false,[.lit (.bool o.isSome)])]
structure PInv (l : List UInt8) (i : Nat) (s : List (List Term)) (w : List UInt8) : Prop where
  b0 : i ≤ l.length + 1
  s1 : 1 ≤ s.length
  s2 : s.length ≤ i + 1
  wl : w.length ≤ i
  rl : ∀ r ∈ s,r.length ≤ i
  tx : TxtsOk s
  run : i ≤ l.length → runP [[]] [] l = runP s w (l.drop i)
  fin : i = l.length + 1 → runP [[]] [] l = some s
end QQ
end Q
end Ab
end Go.Proofs.YtbfhpimmlehkcaaGreatDoor
namespace Go.Proofs.YtbfhpimmlehkcaaGreatDoor
open Go.RowKit
namespace Ab
set_option maxRecDepth 100000
namespace Q
namespace QQ
def bsOf (l : List UInt8) : ByteArray:=bytes l
def aliveS : List (List Term):=[[(false,⟨#[65]⟩,2,⟨#[120]⟩),(true,⟨#[66]⟩,1,⟨#[]⟩)],[(false,⟨#[67]⟩,4,⟨#[121]⟩)]]
end QQ
end Q
end Ab
end Go.Proofs.YtbfhpimmlehkcaaGreatDoor
namespace Go.Proofs.YtbfhpimmlehkcaaGreatDoor
open Go.RowKit
namespace Ab
set_option maxRecDepth 100000
namespace Q
def idsL (p : List Fld → Bool) (l : List Stz) : List Int:=(l.filter fun x=>p x.2).map (·.1)
theorem idsL_snoc {p : List Fld → Bool} {l : List Stz} {i : Nat} (h : i < l.length) : idsL p (l.take (i + 1)) = idsL p (l.take i) ++ if p (l.getD i ((0 : Int),([] : List Fld))).2 then [(l.getD i ((0 : Int),([] : List Fld))).1] else []:=by
  unfold idsL;rw [← yO ((0 : Int),([] : List Fld)) h,List.filter_append,List.map_append]
  generalize l.getD i ((0 : Int),([] : List Fld)) = x
  cases hk : p x.2
  · simp [hk]
  · simp [hk]
theorem idsL_le (p : List Fld → Bool) (l : List Stz) : (idsL p l).length ≤ l.length:=by
  unfold idsL;rw [List.length_map];exact List.length_filter_le _ _
theorem stz_small {es : List Ent} (h : ∀ e ∈ es,SmallF e.1.2.2 ∧ e.1.2.2.length ≤ 40) : ∀ x ∈ stzL es,xH x.2:=by
  intro x hx;obtain ⟨e,he,rfl⟩:=List.mem_map.1 hx;have:=h e (List.mem_filter.1 he).1;exact fldsOk_of this.1 this.2
theorem find_c {k : Nat} (s : List (List Term)) (es : List Ent) (n m : Int) (hl : es.length ≤ 1000000) (hf : ∀ e ∈ es,SmallF e.1.2.2 ∧ e.1.2.2.length ≤ 40) : qT Tryz.prog 13 [.one (.sl (.sl yA) s),.one (.adk k (rLst k) (es,n,m))] (.one (.sl (.int .i64) (idsL (QQ.selMatches s) (stzL es)))):=by
  have hsl:=stzL_le es;have hsm:=stz_small hf;refine qS (rs:=[4]) Tryz.func13 rfl rfl rfl teOk rfl ?_;refine qC ?_;refine qB ?_;refine qC ?_;refine qB ?_;refine qC ?_;refine qC ?_;refine acode_nilvec 5 3 (.int .i64) rfl ?_;refine qB ?_;refine Or.inl ?_;refine zai (rfl) ?_;refine zei _ (zai (stanzasL_c es n m hl (fun e he=>Nat.le_trans (hf e he).2 (by decide))) ?_);intro l2_2
  try simp only [zds] at l2_2
  refine qN ?_;refine yE (fun (i : Nat)=>i ≤ (stzL es).length) (fun (i : Nat)=>[(0,.one (.sl (.sl yA) s)),(5,.one (.vec 0)),(9,.one (.sl rStz (stzL es))),(10,ii .i64 (stzL es).length),(11,ii .i64 i)]) (fun (i : Nat)=>[(0,.vec 3 (.int .i64) (idsL (QQ.selMatches s) ((stzL es).take i)))]) 1 (fun (i : Nat)=>(stzL es).length - i) 0 (Nat.zero_le _) (qP ⟨rfl,rfl,rfl,rfl,rfl⟩ rfl rfl) ?_;intro i hI0;refine qC ?_;refine qB ?_;refine qC ?_;refine qK rfl (fun h12=>?_) (fun h12=>?_)
  ·try simp only [decide_eq_true_eq] at h12
   try simp only [zds] at h12
   have hil : i < (stzL es).length:=(by omega);have hsn:=idsL_snoc (p:=QQ.selMatches s) hil;have hil2:=idsL_le (QQ.selMatches s) ((stzL es).take i);rw [List.length_take] at hil2;refine qM ?_;refine qC ?_;refine qN ?_;refine qC ?_;refine qB ?_;refine zai (by first|omega|assumption|decide|(simp only [zds];omega)|(simp <;> omega)) ?_;refine qC ?_;refine qB ?_;refine Or.inl ?_;refine zai (rfl) ?_;refine zei _ (zai (QQ.selMatches_c s _ (hsm _ (yT hil ((0 : Int),([] : List Fld))))) ?_);refine qK rfl (fun h18=>?_) (fun h18=>?_)
   ·try simp only [zbq] at h18
    try simp only [Int.toNat_natCast,qH,qI,qF] at h18
    rw [h18,if_pos rfl] at hsn;refine qB ?_;refine zai (by exact qQ (show (idsL (QQ.selMatches s) ((stzL es).take i)).length + 1 ≤ 1000000000 by omega) (by decide)) ?_;refine qB ?_;refine zai (by first|omega|assumption|decide|(simp only [zds];omega)|(simp <;> omega)) ?_;exact ⟨i + 1,by omega,by first|omega|(simp <;> omega),qP ⟨rfl,rfl,rfl,rfl,(yX (by omega))⟩ (qY (by rw [hsn];try exact rfl)) rfl⟩
   ·try simp only [zbq] at h18
    try simp only [Int.toNat_natCast,qH,qI,qF] at h18
    rw [h18,if_neg Bool.false_ne_true,List.append_nil] at hsn;refine qM ?_;refine qB ?_;refine zai (by first|omega|assumption|decide|(simp only [zds];omega)|(simp <;> omega)) ?_;exact ⟨i + 1,by omega,by first|omega|(simp <;> omega),qP ⟨rfl,rfl,rfl,rfl,(yX (by omega))⟩ (qY (by rw [hsn];try exact rfl)) rfl⟩
  ·try simp only [decide_eq_false_iff_not,Int.not_lt] at h12
   try simp only [zds] at h12
   refine yI ?_;refine qC ?_;refine qB ?_;refine qL ?_;rw [List.take_of_length_le (by omega)];exact rfl
end Q
end Ab
end Go.Proofs.YtbfhpimmlehkcaaGreatDoor
namespace Go.Proofs.YtbfhpimmlehkcaaGreatDoor
open Go.RowKit
namespace Ab
set_option maxRecDepth 100000
namespace Q
abbrev rSel : Rd (List (List Term)):=.sl (.sl yA)
abbrev Crs:=List (List Term) × List Stz × Int
abbrev rCur : Rd Crs:=.st rSel (.st (.sl rStz) (.int .i64))
def crsO (s : List (List Term)) (ks : List Stz) (p : Int) : Obs:=[(0,.box 116 [.sl (.sl yA) s,.sl rStz ks,.lit (.int .i64 p)])]
theorem cloneT_c {k : Nat} (l : List Term) (hl : l.length ≤ 1000000) : qT Tryz.prog 98 [.one (.slk k yA l)] (.one (.sl yA l)):=by
  refine qS (rs:=[2]) Tryz.func98 rfl rfl rfl teOk rfl ?_;refine qC ?_;refine qB ?_;refine qC ?_;refine qC ?_;refine acode_isnil (q:=k) [_] _ (R:=yA) (xs:=l) rfl rfl rfl rfl (e:=59) rfl rfl ?_;refine ⟨rfl,fun b hb=>?_⟩;refine qK rfl (fun h4=>?_) (fun h4=>?_)
  ·have hl0:=hb h4;subst hl0;refine qC ?_;refine qB ?_;refine acode_nilvec 2 59 yA rfl ?_;refine qL ?_;rfl
  ·refine qM ?_;refine qC ?_;refine qB ?_;refine zai (by first|exact qQ (show l.length ≤ 1000000000 by omega) (by decide)|exact qQ (show 0 + l.length ≤ 1000000000 by omega) (by decide)) ?_;refine qL ?_;rfl
theorem copiedS_c {κ : Nat} (s : List (List Term)) (hl : s.length ≤ 1000000) (hf : ∀ r ∈ s,r.length ≤ 1000000) : qT Tryz.prog 58 [.one (.slk κ (.sl yA) s)] (.one (.sl (.sl yA) s)):=by
  refine qS (rs:=[2]) Tryz.func58 rfl rfl rfl teOk rfl ?_;refine qC ?_;refine qB ?_;refine qC ?_;refine qB ?_;refine qC ?_;refine qC ?_;refine acode_nilvec 3 57 (.sl yA) rfl ?_;refine qB ?_;intro l2_1
  try simp only [zds] at l2_1
  refine qN ?_;refine yE (fun (i : Nat)=>i ≤ s.length) (fun (i : Nat)=>[(3,.one (.vec 0)),(6,.one (.slk κ (.sl yA) s)),(7,ii .i64 s.length),(8,ii .i64 i)]) (fun (i : Nat)=>[(0,.vec 57 (.sl yA) (s.take i))]) 1 (fun (i : Nat)=>s.length - i) 0 (Nat.zero_le _) (qP ⟨rfl,rfl,rfl,rfl⟩ rfl rfl) ?_;intro i hI0;refine qC ?_;refine qB ?_;refine qC ?_;refine qK rfl (fun h9=>?_) (fun h9=>?_)
  ·try simp only [decide_eq_true_eq] at h9
   try simp only [zds] at h9
   have hil : i < s.length:=(by omega);refine qM ?_;refine qC ?_;refine qN ?_;refine qC ?_;refine qB ?_;refine zai (by first|omega|assumption|decide|(simp only [zds];omega)|(simp <;> omega)) ?_;refine qB ?_;refine Or.inl ?_;refine zai (rfl) ?_;refine zei _ (zai (cloneT_c (s.getD i ([] : List Term)) (hf _ (yT hil ([] : List Term)))) ?_);refine zai (by exact qQ (show (s.take i).length + 1 ≤ 1000000000 by rw [List.length_take];omega) (by decide)) ?_;refine qB ?_;refine zai (by first|omega|assumption|decide|(simp only [zds];omega)|(simp <;> omega)) ?_;exact ⟨i + 1,by omega,by first|omega|(simp <;> omega),qP ⟨rfl,rfl,rfl,(yX (by omega))⟩ (qY (yO ([] : List Term) hil)) rfl⟩
  ·try simp only [decide_eq_false_iff_not,Int.not_lt] at h9
   try simp only [zds] at h9
   refine yI ?_;refine qC ?_;refine qB ?_;refine qL ?_;rw [List.take_of_length_le (by omega)];exact rfl
theorem stanzasL_o {k : Nat} (es : List Ent) (n m : Int) (hl : es.length ≤ 1000000) (hf : ∀ e ∈ es,e.1.2.2.length ≤ 1000000) : qZ Tryz.prog 51 [.one (.adk k (rLst k) (es,n,m))] [] 0 (.one (.vec 1)) [(1,.vec 42 rStz (stzL es))] 2:=by
  have hll:=live_len es;refine qW (rs:=[2]) Tryz.func51 rfl rfl rfl teOk (by decide) rfl ?_;refine qC ?_;refine qB ?_;refine qC ?_;refine qB ?_;refine qC ?_;refine qC ?_;refine qB ?_;refine Or.inl ?_;refine zai (rfl) ?_;refine zei _ (zai (all_c (es,n,m)) ?_);refine qN ?_;refine yG 0 0 42 rStz rfl rfl rfl ?_;refine acode_range (caps:=[.one (.ref (.adk k (rLst k) (es,n,m)))]) (xs:=itEs es) [(3,.one (.own 0 0)),(6,.one (.clo 108 (.ref (.adk k (rLst k) (es,n,m)))))] 2 (fun st j (i : Nat)=>st = false ∧ i = j) (fun i=>[(0,.box 38 [.vec 1]),(1,.vec 42 rStz (stT es i))]) (fun _=>.ret) 0 rfl rfl (all_iter es n m) (qP ⟨rfl,rfl⟩ ⟨rfl,rfl⟩ rfl) ⟨rfl,rfl⟩ (fun j hj=>by simp [itEs]) rfl rfl rfl (fun _ _ _=>rfl) rfl ?_ ?_ ?_
  ·intro j i hk hp;obtain ⟨_,rfl⟩:=hp;obtain ⟨e,he,hg,hi,hx⟩:=itEs_get es hk;rw [hx];have hsn:=stT_snoc hi;rw [hg] at hsn;have hsl:=@stT_len es i;refine qB ?_;refine qN ?_;refine acode_ord rfl ?_;refine qJ 1 rfl rfl rfl (by kernel_rfl) ?_;refine qJ 3 rfl rfl rfl (by kernel_rfl) ?_;refine qJ 4 rfl rfl rfl (by kernel_rfl) ?_;refine qE [0,2,5] (by kernel_rfl) rfl ?_;refine zai ?_ ?_
   ·refine qE [2,5] (by kernel_rfl) rfl ?_;refine zai ?_ ?_
    ·refine qE [5] (by kernel_rfl) rfl ?_;refine qE [6] (by kernel_rfl) rfl ?_;refine Or.inl ?_;refine zai (rfl) ?_;refine zei _ (zai (yS e.1.2.2 (hf e he)) ?_);refine qE [7] (by kernel_rfl) rfl ?_;refine qE [8] (by kernel_rfl) rfl ?_;refine qE [9] (by kernel_rfl) rfl ?_;refine zai (by exact qQ (show (stT es i).length + 1 ≤ 1000000000 by omega) (by decide)) ?_;refine qE [10] (by kernel_rfl) rfl ?_;refine qO (by kernel_rfl) ?_;exact ⟨i + 1,⟨rfl,rfl⟩,qP trivial ⟨rfl,qY (by rw [hsn];exact rfl)⟩ rfl⟩
    ·refine qE [2,6] (by kernel_rfl) rfl ?_;refine zai ?_ ?_
     ·refine qE [6] (by kernel_rfl) rfl ?_;refine Or.inl ?_;refine zai (rfl) ?_;refine zei _ (zai (yS e.1.2.2 (hf e he)) ?_);refine qE [7] (by kernel_rfl) rfl ?_;refine qE [8] (by kernel_rfl) rfl ?_;refine qE [9] (by kernel_rfl) rfl ?_;refine zai (by exact qQ (show (stT es i).length + 1 ≤ 1000000000 by omega) (by decide)) ?_;refine qE [10] (by kernel_rfl) rfl ?_;refine qO (by kernel_rfl) ?_;exact ⟨i + 1,⟨rfl,rfl⟩,qP trivial ⟨rfl,qY (by rw [hsn];exact rfl)⟩ rfl⟩
     ·refine Or.inl ?_;refine zai (rfl) ?_;refine zei _ (zai (yS e.1.2.2 (hf e he)) ?_);refine qE [2] (by kernel_rfl) rfl ?_;refine qE [7] (by kernel_rfl) rfl ?_;refine qE [8] (by kernel_rfl) rfl ?_;refine qE [9] (by kernel_rfl) rfl ?_;refine zai (by exact qQ (show (stT es i).length + 1 ≤ 1000000000 by omega) (by decide)) ?_;refine qE [10] (by kernel_rfl) rfl ?_;refine qO (by kernel_rfl) ?_;exact ⟨i + 1,⟨rfl,rfl⟩,qP trivial ⟨rfl,qY (by rw [hsn];exact rfl)⟩ rfl⟩
   refine zai ?_ ?_
   ·refine qE [0,5] (by kernel_rfl) rfl ?_;refine zai ?_ ?_
    ·refine qE [5] (by kernel_rfl) rfl ?_;refine qE [6] (by kernel_rfl) rfl ?_;refine Or.inl ?_;refine zai (rfl) ?_;refine zei _ (zai (yS e.1.2.2 (hf e he)) ?_);refine qE [7] (by kernel_rfl) rfl ?_;refine qE [8] (by kernel_rfl) rfl ?_;refine qE [9] (by kernel_rfl) rfl ?_;refine zai (by exact qQ (show (stT es i).length + 1 ≤ 1000000000 by omega) (by decide)) ?_;refine qE [10] (by kernel_rfl) rfl ?_;refine qO (by kernel_rfl) ?_;exact ⟨i + 1,⟨rfl,rfl⟩,qP trivial ⟨rfl,qY (by rw [hsn];exact rfl)⟩ rfl⟩
    ·refine qE [0,6] (by kernel_rfl) rfl ?_;refine zai ?_ ?_
     ·refine qE [6] (by kernel_rfl) rfl ?_;refine Or.inl ?_;refine zai (rfl) ?_;refine zei _ (zai (yS e.1.2.2 (hf e he)) ?_);refine qE [7] (by kernel_rfl) rfl ?_;refine qE [8] (by kernel_rfl) rfl ?_;refine qE [9] (by kernel_rfl) rfl ?_;refine zai (by exact qQ (show (stT es i).length + 1 ≤ 1000000000 by omega) (by decide)) ?_;refine qE [10] (by kernel_rfl) rfl ?_;refine qO (by kernel_rfl) ?_;exact ⟨i + 1,⟨rfl,rfl⟩,qP trivial ⟨rfl,qY (by rw [hsn];exact rfl)⟩ rfl⟩
     ·refine Or.inl ?_;refine zai (rfl) ?_;refine zei _ (zai (yS e.1.2.2 (hf e he)) ?_);refine qE [0,7] (by kernel_rfl) rfl ?_;refine zai ?_ ?_
      ·refine qE [7] (by kernel_rfl) rfl ?_;refine qE [8] (by kernel_rfl) rfl ?_;refine qE [9] (by kernel_rfl) rfl ?_;refine zai (by exact qQ (show (stT es i).length + 1 ≤ 1000000000 by omega) (by decide)) ?_;refine qE [10] (by kernel_rfl) rfl ?_;refine qO (by kernel_rfl) ?_;exact ⟨i + 1,⟨rfl,rfl⟩,qP trivial ⟨rfl,qY (by rw [hsn];exact rfl)⟩ rfl⟩
      ·refine qE [0,8] (by kernel_rfl) rfl ?_;refine zai ?_ ?_
       ·refine qE [8] (by kernel_rfl) rfl ?_;refine qE [9] (by kernel_rfl) rfl ?_;refine zai (by exact qQ (show (stT es i).length + 1 ≤ 1000000000 by omega) (by decide)) ?_;refine qE [10] (by kernel_rfl) rfl ?_;refine qO (by kernel_rfl) ?_;exact ⟨i + 1,⟨rfl,rfl⟩,qP trivial ⟨rfl,qY (by rw [hsn];exact rfl)⟩ rfl⟩
       ·refine qE [0] (by kernel_rfl) rfl ?_;refine qE [9] (by kernel_rfl) rfl ?_;refine zai (by exact qQ (show (stT es i).length + 1 ≤ 1000000000 by omega) (by decide)) ?_;refine qE [10] (by kernel_rfl) rfl ?_;refine qO (by kernel_rfl) ?_;exact ⟨i + 1,⟨rfl,rfl⟩,qP trivial ⟨rfl,qY (by rw [hsn];exact rfl)⟩ rfl⟩
   ·refine qE [0,2,6] (by kernel_rfl) rfl ?_;refine zai ?_ ?_
    ·refine qE [2,6] (by kernel_rfl) rfl ?_;refine zai ?_ ?_
     ·refine qE [6] (by kernel_rfl) rfl ?_;refine Or.inl ?_;refine zai (rfl) ?_;refine zei _ (zai (yS e.1.2.2 (hf e he)) ?_);refine qE [7] (by kernel_rfl) rfl ?_;refine qE [8] (by kernel_rfl) rfl ?_;refine qE [9] (by kernel_rfl) rfl ?_;refine zai (by exact qQ (show (stT es i).length + 1 ≤ 1000000000 by omega) (by decide)) ?_;refine qE [10] (by kernel_rfl) rfl ?_;refine qO (by kernel_rfl) ?_;exact ⟨i + 1,⟨rfl,rfl⟩,qP trivial ⟨rfl,qY (by rw [hsn];exact rfl)⟩ rfl⟩
     ·refine Or.inl ?_;refine zai (rfl) ?_;refine zei _ (zai (yS e.1.2.2 (hf e he)) ?_);refine qE [2] (by kernel_rfl) rfl ?_;refine qE [7] (by kernel_rfl) rfl ?_;refine qE [8] (by kernel_rfl) rfl ?_;refine qE [9] (by kernel_rfl) rfl ?_;refine zai (by exact qQ (show (stT es i).length + 1 ≤ 1000000000 by omega) (by decide)) ?_;refine qE [10] (by kernel_rfl) rfl ?_;refine qO (by kernel_rfl) ?_;exact ⟨i + 1,⟨rfl,rfl⟩,qP trivial ⟨rfl,qY (by rw [hsn];exact rfl)⟩ rfl⟩
    refine zai ?_ ?_
    ·refine qE [0,6] (by kernel_rfl) rfl ?_;refine zai ?_ ?_
     ·refine qE [6] (by kernel_rfl) rfl ?_;refine Or.inl ?_;refine zai (rfl) ?_;refine zei _ (zai (yS e.1.2.2 (hf e he)) ?_);refine qE [7] (by kernel_rfl) rfl ?_;refine qE [8] (by kernel_rfl) rfl ?_;refine qE [9] (by kernel_rfl) rfl ?_;refine zai (by exact qQ (show (stT es i).length + 1 ≤ 1000000000 by omega) (by decide)) ?_;refine qE [10] (by kernel_rfl) rfl ?_;refine qO (by kernel_rfl) ?_;exact ⟨i + 1,⟨rfl,rfl⟩,qP trivial ⟨rfl,qY (by rw [hsn];exact rfl)⟩ rfl⟩
     ·refine Or.inl ?_;refine zai (rfl) ?_;refine zei _ (zai (yS e.1.2.2 (hf e he)) ?_);refine qE [0,7] (by kernel_rfl) rfl ?_;refine zai ?_ ?_
      ·refine qE [7] (by kernel_rfl) rfl ?_;refine qE [8] (by kernel_rfl) rfl ?_;refine qE [9] (by kernel_rfl) rfl ?_;refine zai (by exact qQ (show (stT es i).length + 1 ≤ 1000000000 by omega) (by decide)) ?_;refine qE [10] (by kernel_rfl) rfl ?_;refine qO (by kernel_rfl) ?_;exact ⟨i + 1,⟨rfl,rfl⟩,qP trivial ⟨rfl,qY (by rw [hsn];exact rfl)⟩ rfl⟩
      ·refine qE [0,8] (by kernel_rfl) rfl ?_;refine zai ?_ ?_
       ·refine qE [8] (by kernel_rfl) rfl ?_;refine qE [9] (by kernel_rfl) rfl ?_;refine zai (by exact qQ (show (stT es i).length + 1 ≤ 1000000000 by omega) (by decide)) ?_;refine qE [10] (by kernel_rfl) rfl ?_;refine qO (by kernel_rfl) ?_;exact ⟨i + 1,⟨rfl,rfl⟩,qP trivial ⟨rfl,qY (by rw [hsn];exact rfl)⟩ rfl⟩
       ·refine qE [0] (by kernel_rfl) rfl ?_;refine qE [9] (by kernel_rfl) rfl ?_;refine zai (by exact qQ (show (stT es i).length + 1 ≤ 1000000000 by omega) (by decide)) ?_;refine qE [10] (by kernel_rfl) rfl ?_;refine qO (by kernel_rfl) ?_;exact ⟨i + 1,⟨rfl,rfl⟩,qP trivial ⟨rfl,qY (by rw [hsn];exact rfl)⟩ rfl⟩
    ·refine Or.inl ?_;refine zai (rfl) ?_;refine zei _ (zai (yS e.1.2.2 (hf e he)) ?_);refine qE [0,2] (by kernel_rfl) rfl ?_;refine zai ?_ ?_
     ·refine qE [2] (by kernel_rfl) rfl ?_;refine qE [7] (by kernel_rfl) rfl ?_;refine qE [8] (by kernel_rfl) rfl ?_;refine qE [9] (by kernel_rfl) rfl ?_;refine zai (by exact qQ (show (stT es i).length + 1 ≤ 1000000000 by omega) (by decide)) ?_;refine qE [10] (by kernel_rfl) rfl ?_;refine qO (by kernel_rfl) ?_;exact ⟨i + 1,⟨rfl,rfl⟩,qP trivial ⟨rfl,qY (by rw [hsn];exact rfl)⟩ rfl⟩
     ·refine qE [0,7] (by kernel_rfl) rfl ?_;refine zai ?_ ?_
      ·refine qE [7] (by kernel_rfl) rfl ?_;refine qE [8] (by kernel_rfl) rfl ?_;refine qE [9] (by kernel_rfl) rfl ?_;refine zai (by exact qQ (show (stT es i).length + 1 ≤ 1000000000 by omega) (by decide)) ?_;refine qE [10] (by kernel_rfl) rfl ?_;refine qO (by kernel_rfl) ?_;exact ⟨i + 1,⟨rfl,rfl⟩,qP trivial ⟨rfl,qY (by rw [hsn];exact rfl)⟩ rfl⟩
      ·refine qE [0,8] (by kernel_rfl) rfl ?_;refine zai ?_ ?_
       ·refine qE [8] (by kernel_rfl) rfl ?_;refine qE [9] (by kernel_rfl) rfl ?_;refine zai (by exact qQ (show (stT es i).length + 1 ≤ 1000000000 by omega) (by decide)) ?_;refine qE [10] (by kernel_rfl) rfl ?_;refine qO (by kernel_rfl) ?_;exact ⟨i + 1,⟨rfl,rfl⟩,qP trivial ⟨rfl,qY (by rw [hsn];exact rfl)⟩ rfl⟩
       ·refine qE [0] (by kernel_rfl) rfl ?_;refine qE [9] (by kernel_rfl) rfl ?_;refine zai (by exact qQ (show (stT es i).length + 1 ≤ 1000000000 by omega) (by decide)) ?_;refine qE [10] (by kernel_rfl) rfl ?_;refine qO (by kernel_rfl) ?_;exact ⟨i + 1,⟨rfl,rfl⟩,qP trivial ⟨rfl,qY (by rw [hsn];exact rfl)⟩ rfl⟩
  ·intro i hp;obtain ⟨_,rfl⟩:=hp;refine qC ?_;refine qB ?_;refine qL ?_;rw [show stT es (itEs es).length = stzL es from by unfold stT stzL;rw [itEs_len,List.take_length]];exact ⟨rfl,rfl,rfl⟩
  ·intro j i hp;exact absurd hp.1 (by decide)
def missS (s : List (List Term)) (x : Stz) : Bool:=!(QQ.selMatches s x.2)
theorem found1_c {κ : Nat} (s : List (List Term)) (x : Stz) (hx : xH x.2) : qT Tryz.prog 100 [.agg (toL rStz x),.one (.adk κ rSel s)] (ib (missS s x)):=by
  refine qS (rs:=[3]) Tryz.func100 rfl rfl rfl teOk rfl ?_;refine qC ?_;refine qB ?_;refine qC ?_;refine qB ?_;refine Or.inl ?_;refine zai (rfl) ?_;refine zei _ (zai (QQ.selMatches_c s x.2 hx) ?_);refine qL ?_;rfl
def fndS (s : List (List Term)) (es : List Ent) : List Stz:=keepF (missS s) (stzL es)
theorem stz_flds {es : List Ent} (h : ∀ e ∈ es,xH e.1.2.2) : ∀ x ∈ stzL es,xH x.2:=by
  intro x hx;obtain ⟨e,he,rfl⟩:=List.mem_map.1 hx;exact h e (List.mem_filter.1 he).1
theorem found_c {k : Nat} (s : List (List Term)) (es : List Ent) (n m : Int) (hl : es.length ≤ 1000000) (hf : ∀ e ∈ es,xH e.1.2.2) : qT Tryz.prog 59 [.one (.adk k (rLst k) (es,n,m)),.one (.sl (.sl yA) s)] (.one (.sl rStz (fndS s es))):=by
  have hsl:=stzL_le es;have hst:=stz_flds hf;have hso:=stanzasL_o (k:=k) es n m hl (fun e he=>Nat.le_trans (hf e he).1 (by decide));have hdl:=(deleteS_o 100 (κ:=1) rSel s (stzL es) (missS s) (fun x hx=>found1_c s x (hst x hx)) (by omega)).x;refine qS (rs:=[4]) Tryz.func59 rfl rfl rfl teOk rfl ?_;refine qC ?_;refine qB ?_;refine qC ?_;refine qB ?_;refine Or.inr (Or.inl (zei [] (zei [] (zei _ (zei _ (zei _ (zei _ (zei _ (zai (hso) (zai rfl (zai True.intro (zai rfl ?_))))))))))));refine Or.inr (Or.inr (Or.inr (zei [2] (zei [] (zei _ (zei _ (zei _ (zei _ (zei _ (zai (hdl) (zai rfl (zai (zai (zai rfl rfl) True.intro) (zai rfl ?_)))))))))))));refine qL ?_;rfl
theorem new_o {k κ : Nat} (s : List (List Term)) (es : List Ent) (n m : Int) (hl : es.length ≤ 1000000) (hf : ∀ e ∈ es,xH e.1.2.2) (hs : s.length ≤ 1000000) (hsr : ∀ r ∈ s,r.length ≤ 1000000) : qZ Tryz.prog 11 [.one (.adk k (rLst k) (es,n,m)),.one (.slk κ (.sl yA) s)] [] 0 (.one (.own 0 0)) (crsO s (fndS s es) 0) 1:=by
  refine qW (rs:=[4]) Tryz.func11 rfl rfl rfl teOk (by decide) rfl ?_;refine qC ?_;refine qB ?_;refine qC ?_;refine qB ?_;refine Or.inl ?_;refine zai (rfl) ?_;refine zei _ (zai (copiedS_c s hs hsr) ?_);refine qC ?_;refine qB ?_;refine Or.inl ?_;refine zai (rfl) ?_;refine zei _ (zai (found_c s es n m hl hf) ?_);refine qL ?_;exact ⟨rfl,rfl,rfl⟩
theorem curLen_c {k : Nat} (s : List (List Term)) (ks : List Stz) (p : Int) : qT Tryz.prog 16 [.one (.adk k rCur (s,ks,p))] (ii .i64 ks.length):=by
  refine qS (rs:=[2]) Tryz.func16 rfl rfl rfl teOk rfl ?_;refine qC ?_;refine qB ?_;refine qC ?_;refine qC ?_;refine qB ?_;refine qK rfl (fun h4=>?_) (fun h4=>?_)
  ·try simp only [zbq] at h4
   try simp only [zds] at h4
   simp at h4
  ·skip
   refine qM ?_;refine qC ?_;refine qB ?_;intro l3_4;refine qL ?_;rfl
theorem curPlace_c {k : Nat} (s : List (List Term)) (ks : List Stz) (p : Int) : qT Tryz.prog 15 [.one (.adk k rCur (s,ks,p))] (ii .i64 p):=by
  refine qS (rs:=[2]) Tryz.func15 rfl rfl rfl teOk rfl ?_;refine qC ?_;refine qB ?_;refine qC ?_;refine qC ?_;refine qB ?_;refine qK rfl (fun h4=>?_) (fun h4=>?_)
  ·try simp only [zbq] at h4
   try simp only [zds] at h4
   simp at h4
  ·skip
   refine qM ?_;refine qC ?_;refine qB ?_;refine qL ?_;rfl
def skipR (p len n : Int) : Int:=if 0 - p < (if len - p < n then len - p else n) then (if len - p < n then len - p else n) else 0 - p
theorem skip_o (s : List (List Term)) (ks : List Stz) (p n r : Int) (hr : skipR p ks.length n = r) (hp : 0 ≤ p ∧ p ≤ ks.length) (hl : ks.length ≤ 1000000) (hn : -9223372036854775808 ≤ n ∧ n ≤ 9223372036854775807) : qZ Tryz.prog 12 [.one (.own 0 0),ii .i64 n] (crsO s ks p) 1 (ii .i64 r) (crsO s ks (p + r)) 1:=by
  subst hr;refine qW (rs:=[4]) Tryz.func12 rfl rfl rfl teOk (by decide) rfl ?_;refine qC ?_;refine qB ?_;refine qC ?_;refine qC ?_;refine qB ?_;refine qK rfl (fun h6=>?_) (fun h6=>?_)
  ·try simp only [zbq] at h6
   try simp only [zds] at h6
   simp at h6
  ·skip
   refine qM ?_;refine qC ?_;refine acode_draw rfl (by kernel_rfl) ?_;refine zai (by first|omega|assumption|decide|(simp only [zds];omega)|(simp <;> omega)) ?_;refine zai (by first|omega|assumption|decide|(simp only [zds];omega)|(simp <;> omega)) ?_;have hb : -1000000 ≤ skipR p ks.length n ∧ skipR p ks.length n ≤ 1000000:=(by unfold skipR;split <;> split <;> omega);refine qC ?_;refine qB ?_;refine zai (by first|omega|assumption|decide|(simp only [zds];omega)|(simp <;> omega)) ?_;refine qC ?_;refine qB ?_;refine qL ?_;exact ⟨rfl,rfl,rfl⟩
theorem curAt_c {k : Nat} (s : List (List Term)) (ks : List Stz) (p : Int) (i : Nat) (hi : i < ks.length) (hf : ∀ x ∈ ks,xH x.2) : qT Tryz.prog 67 [.one (.adk k rCur (s,ks,p)),ii .i64 i] (.agg (toL rStz (ks.getD i ((0 : Int),([] : List Fld))))):=by
  have hfi:=(hf _ (yT hi ((0 : Int),([] : List Fld)))).1;refine acall_ofc (rs:=[.cell 4 42]) Tryz.func67 rfl rfl rfl teOk rfl ?_;refine qC ?_;refine qB ?_;refine qC ?_;refine qB ?_;refine zai (by first|omega|assumption|decide|(simp only [];omega)|(simp <;> omega)) ?_;refine qC ?_;refine qB ?_;refine Or.inl ?_;refine zai (rfl) ?_;refine zei _ (zai (yS (ks.getD i ((0 : Int),([] : List Fld))).2 (by omega)) ?_);refine qC ?_;refine qB ?_;refine qL ?_;exact rfl
theorem next_yes (s : List (List Term)) (ks : List Stz) (p : Nat) (hp : p < ks.length) (hl : ks.length ≤ 1000000) (hf : ∀ x ∈ ks,xH x.2) : qZ Tryz.prog 27 [.one (.own 0 0)] (crsO s ks p) 1 (.tup [(true,toL rStz (ks.getD p ((0 : Int),([] : List Fld)))),(false,[.lit (.bool true)])]) (crsO s ks ((p : Int) + 1)) 1:=by
  have hsk:=skip_o s ks p 1 1 (by unfold skipR;split <;> split <;> omega) (by omega) hl (by omega);have hat:=curAt_c (k:=1) s ks ((p : Int) + 1) p hp hf;refine acallo_ofc (t:=2) (ty:=42) (u:=3) Tryz.func27 rfl rfl rfl teOk rfl rfl ?_;refine qC ?_;refine qB ?_;refine qC ?_;refine qC ?_;refine qB ?_;refine Or.inr (Or.inl (zei [] (zei [0] (zei _ (zei _ (zei _ (zei _ (zei _ (zai (hsk) (zai rfl (zai (zai (zai rfl rfl) True.intro) (zai rfl ?_))))))))))));refine qK rfl (fun h6=>?_) (fun h6=>?_)
  ·try simp only [decide_eq_true_eq] at h6
   try simp only [zds] at h6
   simp at h6
  ·try simp only [decide_eq_false_iff_not] at h6
   try simp only [zds] at h6
   refine qM ?_;refine qC ?_;refine qB ?_;refine zai (by first|omega|assumption|decide|(simp only [zds];omega)|(simp <;> omega)) ?_;refine Or.inr (Or.inr (Or.inl ?_));refine zai rfl ?_;refine zei _ (zai ((by rw [show (p : Int) + 1 - 1 = (p : Int) by omega];exact hat)) ?_);refine qL ?_;exact ⟨rfl,rfl,rfl⟩
def isId (id : Int) (x : Stz) : Bool:=decide (x.1 = id)
theorem index1_c {κ : Nat} (id : Int) (x : Stz) : qT Tryz.prog 118 [.agg (toL rStz x),.one (.adk κ (.int .i64) id)] (ib (isId id x)):=by
  refine qS (rs:=[3]) Tryz.func118 rfl rfl rfl teOk rfl ?_;refine qC ?_;refine qB ?_;refine qC ?_;refine qB ?_;refine qL ?_;rfl
theorem curIndex_c {k : Nat} (s : List (List Term)) (ks : List Stz) (p id : Int) : qT Tryz.prog 69 [.one (.adk k rCur (s,ks,p)),ii .i64 id] (ii .i64 (ixOf (isId id) ks)):=by
  refine qS (rs:=[4]) Tryz.func69 rfl rfl rfl teOk rfl ?_;refine qC ?_;refine qB ?_;refine qC ?_;refine qB ?_;refine Or.inl ?_;refine zai (rfl) ?_;refine zei _ (zai (indexS_c _ (κ:=0) (.int .i64) id ks (isId id) (fun x _=>index1_c id x)) ?_);refine qL ?_;rfl
theorem seek_no (s : List (List Term)) (ks : List Stz) (p id : Int) (h : ixOf (isId id) ks < 0) : qZ Tryz.prog 30 [.one (.own 0 0),ii .i64 id] (crsO s ks p) 1 (ib false) (crsO s ks p) 1:=by
  refine qW (rs:=[4]) Tryz.func30 rfl rfl rfl teOk (by decide) rfl ?_;refine qC ?_;refine qB ?_;refine qC ?_;refine qC ?_;refine qB ?_;refine qK rfl (fun h7=>?_) (fun h7=>?_)
  ·try simp only [zbq] at h7
   try simp only [zds] at h7
   simp at h7
  ·skip
   refine qM ?_;refine qC ?_;refine qB ?_;refine Or.inr (Or.inr (Or.inl ?_));refine zai rfl ?_;refine zei _ (zai (curIndex_c (k:=1) s ks p id) ?_);refine qC ?_;refine qC ?_;refine qB ?_;refine qK rfl (fun h12=>?_) (fun h12=>?_)
   ·try simp only [decide_eq_true_eq] at h12
    try simp only [zds] at h12
    refine qC ?_;refine qB ?_;refine qL ?_;exact ⟨rfl,rfl,rfl⟩
   ·try simp only [decide_eq_false_iff_not,Int.not_lt] at h12
    try simp only [zds] at h12
    omega
theorem seek_yes (s : List (List Term)) (ks : List Stz) (p id q : Int) (h : ixOf (isId id) ks = q) (hq : 0 ≤ q) : qZ Tryz.prog 30 [.one (.own 0 0),ii .i64 id] (crsO s ks p) 1 (ib true) (crsO s ks q) 1:=by
  subst h;refine qW (rs:=[4]) Tryz.func30 rfl rfl rfl teOk (by decide) rfl ?_;refine qC ?_;refine qB ?_;refine qC ?_;refine qC ?_;refine qB ?_;refine qK rfl (fun h7=>?_) (fun h7=>?_)
  ·try simp only [zbq] at h7
   try simp only [zds] at h7
   simp at h7
  ·skip
   refine qM ?_;refine qC ?_;refine qB ?_;refine Or.inr (Or.inr (Or.inl ?_));refine zai rfl ?_;refine zei _ (zai (curIndex_c (k:=1) s ks p id) ?_);refine qC ?_;refine qC ?_;refine qB ?_;refine qK rfl (fun h12=>?_) (fun h12=>?_)
   ·try simp only [decide_eq_true_eq] at h12
    try simp only [zds] at h12
    omega
   ·try simp only [decide_eq_false_iff_not,Int.not_lt] at h12
    try simp only [zds] at h12
    refine qM ?_;refine qC ?_;refine qB ?_;refine qC ?_;refine qB ?_;refine qL ?_;exact ⟨rfl,rfl,rfl⟩
def movP (ks : List Stz) : List Stz → Int
  | []=>ks.length
  | x :: r=>if ixOf (isId x.1) ks < 0 then movP ks r else ixOf (isId x.1) ks
theorem movP_skip (ks : List Stz) : ∀ (l : List Stz) (i : Nat),i ≤ l.length → (∀ x ∈ l.take i,ixOf (isId x.1) ks < 0) → movP ks l = movP ks (l.drop i)
  | _,0,_,_=>rfl
  | [],i + 1,h,_=>by simp at h
  | x :: r,i + 1,h,hx=>by
    have h0:=hx x (by simp);show (if ixOf (isId x.1) ks < 0 then movP ks r else _) = movP ks (r.drop i);rw [if_pos h0];exact movP_skip ks r i (by simpa using h) (fun y hy=>hx y (by simp [hy]))
theorem movP_hit (ks l : List Stz) (i : Nat) (hi : i < l.length) (h : ∀ x ∈ l.take i,ixOf (isId x.1) ks < 0) (hx : ¬ ixOf (isId (l.getD i ((0 : Int),([] : List Fld))).1) ks < 0) : movP ks l = ixOf (isId (l.getD i ((0 : Int),([] : List Fld))).1) ks:=by
  rw [movP_skip ks l i (by omega) h,List.drop_eq_getElem_cons hi,getD_get hi ((0 : Int),([] : List Fld))];show (if _ < 0 then _ else _) = _;rw [if_neg hx]
theorem move_o {k : Nat} (s : List (List Term)) (ks : List Stz) (p : Nat) (hp : p ≤ ks.length) (es : List Ent) (n m : Int) (hl : es.length ≤ 1000000) (hf : ∀ e ∈ es,xH e.1.2.2) (hk : ks.length ≤ 1000000) : qZ Tryz.prog 14 [.one (.own 0 0),.one (.adk k (rLst k) (es,n,m))] (crsO s ks p) 1 (.tup []) (crsO s (fndS s es) (movP (fndS s es) (ks.drop p))) 1:=by
  have hfd:=found_c (k:=k) s es n m hl hf;refine qW (rs:=[]) Tryz.func14 rfl rfl rfl teOk (by decide) rfl ?_;refine qC ?_;refine qC ?_;refine qB ?_;refine qK rfl (fun h8=>?_) (fun h8=>?_)
  ·try simp only [zbq] at h8
   try simp only [zds] at h8
   simp at h8
  ·skip
   refine qM ?_;refine qC ?_;refine acode_draw rfl (by kernel_rfl) ?_;refine zai (by first|omega|assumption|decide|(simp only [zds];omega)|(simp <;> omega)) ?_;refine qC ?_;refine qB ?_;refine Or.inl ?_;refine zai (rfl) ?_;refine zei _ (zai (hfd) ?_);refine qC ?_;refine qB ?_;intro l3_5
   try simp only [zds] at l3_5
   refine qC ?_;refine qB ?_;intro l4_1
   try simp only [Int.toNat_natCast] at l4_1
   refine qN ?_;refine yE (fun (i : Nat)=>i ≤ (ks.drop p).length ∧ ∀ x ∈ (ks.drop p).take i,ixOf (isId x.1) (fndS s es) < 0) (fun (i : Nat)=>[(0,.one (.own 0 0)),(35,.one (.sl rStz (ks.drop p))),(36,ii .i64 (ks.drop p).length),(37,ii .i64 i)]) (fun (i : Nat)=>[(0,.box 116 [.sl (.sl yA) s,.sl rStz (fndS s es),.lit (.int .i64 (fndS s es).length)])]) 1 (fun (i : Nat)=>(ks.drop p).length - i) 0 (⟨Nat.zero_le _,by simp⟩) (qP ⟨rfl,rfl,rfl,rfl⟩ rfl rfl) ?_;intro i hI0;obtain ⟨hi,hall⟩:=hI0;refine qC ?_;refine qB ?_;refine qC ?_;refine qK rfl (fun h38=>?_) (fun h38=>?_)
   ·try simp only [decide_eq_true_eq] at h38
    try simp only [zds] at h38
    have hil : i < (ks.drop p).length:=(by omega);have hts:=yO ((0 : Int),([] : List Fld)) hil;refine qM ?_;refine qC ?_;refine qN ?_;refine qC ?_;refine qB ?_;refine zai (by first|omega|assumption|decide|(simp only [zds];omega)|(simp <;> omega)) ?_;refine qC ?_;rcases Int.lt_or_le (ixOf (isId ((ks.drop p).getD i ((0 : Int),([] : List Fld))).1) (fndS s es)) 0 with hx|hx
    ·refine qB ?_;refine Or.inr (Or.inl (zei [] (zei [0] (zei _ (zei _ (zei _ (zei _ (zei _ (zai (seek_no s (fndS s es) (fndS s es).length ((ks.drop p).getD i ((0 : Int),([] : List Fld))).1 hx) (zai rfl (zai (zai (zai rfl rfl) True.intro) (zai rfl ?_))))))))))));refine qK rfl (fun h44=>?_) (fun h44=>?_)
     ·try simp only [zbq] at h44
      try simp only [zds] at h44
      simp at h44
     ·skip
      refine qM ?_;refine qB ?_;refine zai (by first|omega|assumption|decide|(simp only [zds];omega)|(simp <;> omega)) ?_;exact ⟨i + 1,⟨by omega,by rw [← hts];intro x hx2;rcases List.mem_append.1 hx2 with h|h;exact hall x h;rw [List.mem_singleton.1 h];exact hx⟩,by first|omega|(simp <;> omega),qP ⟨rfl,rfl,rfl,(yX (by omega))⟩ rfl rfl⟩
    ·refine qB ?_;refine Or.inr (Or.inl (zei [] (zei [0] (zei _ (zei _ (zei _ (zei _ (zei _ (zai (seek_yes s (fndS s es) (fndS s es).length ((ks.drop p).getD i ((0 : Int),([] : List Fld))).1 _ rfl hx) (zai rfl (zai (zai (zai rfl rfl) True.intro) (zai rfl ?_))))))))))));refine qK rfl (fun h44=>?_) (fun h44=>?_)
     ·skip
      skip
      refine qL ?_;rw [movP_hit _ _ i hil hall (by omega)];exact ⟨rfl,rfl,rfl⟩
     ·try simp only [zbq] at h44
      try simp only [zds] at h44
      simp at h44
   ·try simp only [decide_eq_false_iff_not,Int.not_lt] at h38
    try simp only [zds] at h38
    refine yI ?_;rw [movP_skip _ _ i hi hall,show (ks.drop p).drop i = [] from List.drop_of_length_le (by omega)];exact ⟨rfl,rfl,rfl⟩
end Q
end Ab
end Go.Proofs.YtbfhpimmlehkcaaGreatDoor
namespace Go.Proofs.YtbfhpimmlehkcaaGreatDoor
open Go.RowKit
namespace Ab
set_option maxRecDepth 100000
namespace Q
theorem numI_mem : ∀ (l : List Itm) (n : Int) (e : Ent),e ∈ numI n l → e.1 ∈ l
  | [],_,_,h=>by cases h
  | x :: r,n,e,h=>by
    unfold numI at h;split at h
    · rcases List.mem_cons.1 h with h|h
      · rw [h];exact List.mem_cons_self
      · exact List.mem_cons_of_mem _ (numI_mem r _ e h)
    · rcases List.mem_cons.1 h with h|h
      · rw [h];exact List.mem_cons_self
      · exact List.mem_cons_of_mem _ (numI_mem r _ e h)
theorem num_small {s : ByteArray} {l : List Itm} (hp : parseS s = .inr l) : ∀ e ∈ numI 1 l,SmallF e.1.2.2 ∧ e.1.2.2.length ≤ 40:=fun e he=>items_small hp _ (numI_mem l 1 e he)
end Q
end Ab
end Go.Proofs.YtbfhpimmlehkcaaGreatDoor
namespace Go.Proofs.YtbfhpimmlehkcaaGreatDoor
open Go.RowKit
namespace Ab
set_option maxRecDepth 100000
namespace Q
def oldB (first : Int) (T : List Bool) (e : Ent) : Bool:=decide (0 < e.2) && (decide (e.2 < first) && !(T.getD e.2.toNat false))
def touch (first : Int) (T : List Bool) (e : Edt) : List Bool:=if ((e.1 = 1 ∨ e.1 = 2) ∧ 0 < e.2.1) ∧ e.2.1 < first then T.set e.2.1.toNat true else T
theorem touch_len (first : Int) (T : List Bool) (e : Edt) : (touch first T e).length = T.length:=by
  unfold touch;split
  · exact List.length_set
  · rfl
theorem set_true {T : List Bool} {i j : Nat} (h : T.getD j false = true) : (T.set i true).getD j false = true:=by
  rw [List.getD_eq_getElem?_getD,List.getElem?_set];split
  · rename_i e;subst e;split
    · rfl
    · rename_i hn;rw [List.getD_eq_getElem?_getD,List.getElem?_eq_none (by omega)] at h;cases h
  · rwa [← List.getD_eq_getElem?_getD]
theorem touch_old {first : Int} {T : List Bool} {e : Edt} {x : Ent} (h : oldB first (touch first T e) x = true) : oldB first T x = true:=by
  unfold oldB at *;simp only [Bool.and_eq_true,Bool.not_eq_true'] at *;refine ⟨h.1,h.2.1,?_⟩;cases e2 : T.getD x.2.toNat false with
  | false=>rfl
  | true =>
    have h3:=h.2.2;unfold touch at h3;split at h3
    · rw [set_true e2] at h3;cases h3
    · rw [e2] at h3;cases h3
theorem set_self {T : List Bool} {i : Nat} (h : i < T.length) : (T.set i true).getD i false = true:=by
  rw [List.getD_eq_getElem?_getD,List.getElem?_set_self h];rfl
theorem touch_not {first : Int} {T : List Bool} {e : Edt} (hT : T.length = first.toNat) (hk : e.1 = 1 ∨ e.1 = 2) {x : Ent} (hx : x.2 = e.2.1) : oldB first (touch first T e) x = false:=by
  unfold oldB
  by_cases h0 : 0 < x.2
  · by_cases h1 : x.2 < first
    · have : touch first T e = T.set e.2.1.toNat true:=if_pos ⟨⟨hk,by omega⟩,by omega⟩
      rw [this,← hx,set_self (by omega)];simp
    · simp [h1]
  · simp [h0]
theorem filter_sub {α : Type} {p q : α → Bool} (h : ∀ x,q x = true → p x = true) {a b : List α} (he : a.filter p = b.filter p) : a.filter q = b.filter q:=by
  have e : ∀ l : List α,l.filter q = (l.filter p).filter q:=fun l=>by
    rw [List.filter_filter];refine List.filter_congr fun x _=>?_
    cases hq : q x with
    | false=>rfl
    | true=>rw [h x hq];rfl
  rw [e a,e b,he]
theorem filter_repl {p : Ent → Bool} {es : List Ent} {i : Nat} {x : Itm} (h : i < es.length) (h1 : p (es.getD i (((0 : Int),ByteArray.empty,([] : List Fld)),(0 : Int))) = false) (h2 : p (x,(es.getD i (((0 : Int),ByteArray.empty,([] : List Fld)),(0 : Int))).2) = false) : (replE es i x).filter p = es.filter p:=by
  have e1 : replE es i x = es.take i ++ (x,(es.getD i (((0 : Int),ByteArray.empty,([] : List Fld)),(0 : Int))).2) :: es.drop (i + 1):=List.set_eq_take_append_cons_drop .. |>.trans (if_pos h)
  have e2:=congrArg (fun l=>l.filter p) (del_split h);simp only [List.filter_append,List.filter_cons,h1] at e2;rw [e1,List.filter_append,List.filter_cons,h2];exact e2.symm
theorem filter_del {p : Ent → Bool} {es : List Ent} {i : Nat} (h : i < es.length) (h1 : p (es.getD i (((0 : Int),ByteArray.empty,([] : List Fld)),(0 : Int))) = false) : (delE es i).filter p = es.filter p:=by
  have e2:=congrArg (fun l=>l.filter p) (del_split h);simp only [List.filter_append,List.filter_cons,h1] at e2;unfold delE;rw [List.filter_append];exact e2.symm
theorem filter_ins {p : Ent → Bool} {es : List Ent} {i : Nat} {x : Ent} (h1 : p x = false) : (insE es i x).filter p = es.filter p:=by
  unfold insE;rw [List.filter_append,List.filter_cons,h1]
  conv=>rhs;rw [← List.take_append_drop i es,List.filter_append]
  rfl
structure VI (L0 L : Lst) (T : List Bool) : Prop where
  len : T.length = L0.2.1.toNat
  old : L.1.filter (oldB L0.2.1 T) = L0.1.filter (oldB L0.2.1 T)
  nx : L0.2.1 ≤ L.2.1
theorem VI.step {L0 L : Lst} {T : List Bool} {e : Edt} (h : VI L0 L T) : VI L0 (doL L e) (touch L0.2.1 T e):=by
  have h1 : L.1.filter (oldB L0.2.1 (touch L0.2.1 T e)) = L0.1.filter (oldB L0.2.1 (touch L0.2.1 T e)):=filter_sub (fun x hx=>touch_old hx) h.old;have hl : (touch L0.2.1 T e).length = L0.2.1.toNat:=(touch_len _ _ _).trans h.len;have hat : ∀ id,¬ atE L.1 id < 0 → ∃ i : Nat,i < L.1.length ∧ atE L.1 id = i ∧ (L.1.getD i (((0 : Int),ByteArray.empty,([] : List Fld)),(0 : Int))).2 = id:=fun id hn=>by
    rcases at_cases L.1 id with ⟨h1,_⟩|⟨i,h1,h2,h3,h4,_⟩
    · omega
    · exact ⟨i,h1,h2,h4⟩
  unfold doL;split
  · rename_i hk;split
    · exact ⟨hl,h1,h.nx⟩
    · rename_i hn;obtain ⟨i,hi,he,hid⟩:=hat _ hn;rw [he,Int.toNat_natCast];split
      · exact ⟨hl,h1,h.nx⟩
      · exact ⟨hl,(filter_repl (x:=itmOf e.2.2) hi (touch_not h.len (.inl hk) hid) (touch_not (x:=(itmOf e.2.2,(L.1.getD i (((0 : Int),ByteArray.empty,([] : List Fld)),(0 : Int))).2)) h.len (.inl hk) hid)).trans h1,h.nx⟩
  · split
    · rename_i hk;split
      · exact ⟨hl,h1,h.nx⟩
      · rename_i hn;obtain ⟨i,hi,he,hid⟩:=hat _ hn;rw [he,Int.toNat_natCast];exact ⟨hl,(filter_del hi (touch_not h.len (.inr hk) hid)).trans h1,h.nx⟩
    · have hnx:=h.nx;split
      · exact ⟨hl,h1,h.nx⟩
      · split
        · exact ⟨hl,h1,h.nx⟩
        · split
          · exact ⟨hl,h1,h.nx⟩
          · refine ⟨hl,(filter_ins ?_).trans h1,by show L0.2.1 ≤ L.2.1 + 1;omega⟩;unfold oldB;rw [decide_eq_false (show ¬ (itmOf e.2.2,L.2.1).2 < L0.2.1 by simp only;omega)];simp
theorem ids_sorted (l : List Itm) : (ofT l).1.Pairwise (fun x y=>0 < x.2 → 0 < y.2 → x.2 < y.2):=by
  obtain ⟨h1,_⟩:=ids_num l 1 (Int.le_refl _);have h2 : (nmsL (ofT l).1).Pairwise (· < ·):=by
    rw [show nmsL (ofT l).1 = _ from h1];refine List.Pairwise.map _ ?_ List.pairwise_lt_range;intro a b hab;omega
  unfold nmsL at h2;rw [List.pairwise_filter,List.pairwise_map] at h2;refine h2.imp fun {x y} h hx hy=>h (decide_eq_true hx) (decide_eq_true hy)
theorem VI.mono {l : List Itm} {M : Lst} {T : List Bool} (h : VI (ofT l) M T) {p q : Nat} (hp : p < M.1.length) (hq : q < M.1.length) (h1 : oldB (ofT l).2.1 T (M.1.getD p (((0 : Int),ByteArray.empty,([] : List Fld)),(0 : Int))) = true) (h2 : oldB (ofT l).2.1 T (M.1.getD q (((0 : Int),ByteArray.empty,([] : List Fld)),(0 : Int))) = true) (hlt : (M.1.getD p (((0 : Int),ByteArray.empty,([] : List Fld)),(0 : Int))).2 < (M.1.getD q (((0 : Int),ByteArray.empty,([] : List Fld)),(0 : Int))).2) : p < q:=by
  have h3 : ((ofT l).1.filter (oldB (ofT l).2.1 T)).Pairwise (fun x y=>x.2 < y.2):=by
    rw [List.pairwise_filter];refine (ids_sorted l).imp fun {x y} h hx hy=>h ?_ ?_
    · unfold oldB at hx;simp only [Bool.and_eq_true,decide_eq_true_eq] at hx;exact hx.1
    · unfold oldB at hy;simp only [Bool.and_eq_true,decide_eq_true_eq] at hy;exact hy.1
  rw [← h.old,List.pairwise_filter] at h3;rw [← getD_get hp (((0 : Int),ByteArray.empty,([] : List Fld)),(0 : Int))] at h1 hlt;rw [← getD_get hq (((0 : Int),ByteArray.empty,([] : List Fld)),(0 : Int))] at h2 hlt;rcases Nat.lt_trichotomy p q with e|e|e
  · exact e
  · subst e;omega
  · have:=List.pairwise_iff_getElem.1 h3 q p hq hp e h2 h1;omega
def rawsO (es : List Ent) : List ByteArray:=es.map (·.1.2.1)
structure AtI (l : List Itm) (M : Lst) (T : List Bool) (at_ id : Nat) : Prop where
  le : at_ ≤ M.1.length
  one : 1 ≤ id
  top : (id : Int) ≤ (ofT l).2.1
  ahead : ∀ (p : Nat),p < M.1.length → oldB (ofT l).2.1 T (M.1.getD p (((0 : Int),ByteArray.empty,([] : List Fld)),(0 : Int))) = true → (id : Int) ≤ (M.1.getD p (((0 : Int),ByteArray.empty,([] : List Fld)),(0 : Int))).2 → at_ ≤ p
theorem AtI.skip {l : List Itm} {M : Lst} {T : List Bool} {at_ id : Nat} (h : AtI l M T at_ id) (hid : (id : Int) < (ofT l).2.1) : AtI l M T at_ (id + 1) :=
  ⟨h.le,by omega,by omega,fun p h1 h2 h3=>h.ahead p h1 h2 (by omega)⟩
end Q
end Ab
end Go.Proofs.YtbfhpimmlehkcaaGreatDoor
namespace Go.Proofs.YtbfhpimmlehkcaaGreatDoor
open Go.RowKit
namespace Ab
set_option maxRecDepth 100000
namespace Q
open QQ in
theorem program9_c (s : List (List Term)) (hs : QQ.SelOk s) : qT Tryz.prog 24 [.one (.sl (.sl yA) s)] (.one (.sl (.sl yA) s)):=by
  refine qS (rs:=[2]) Tryz.func24 rfl rfl rfl teOk rfl ?_;refine qC ?_;refine qB ?_;refine qC ?_;refine qB ?_;refine qC ?_;refine qC ?_;refine qB ?_;intro l2_1
  try simp only [zds] at l2_1
  refine qN ?_;refine yE (fun (i : Nat)=>i ≤ s.length) (fun (i : Nat)=>[(3,.one (.vec 0)),(10,.one (.sl (.sl yA) s)),(11,ii .i64 s.length),(12,ii .i64 i)]) (fun (i : Nat)=>[(0,.vec 57 (.sl yA) (s.take i))]) 1 (fun (i : Nat)=>s.length - i) 0 (Nat.zero_le _) (qP ⟨rfl,rfl,rfl,rfl⟩ rfl rfl) ?_;intro i hI0;refine qC ?_;refine qB ?_;refine qC ?_;refine qK rfl (fun h13=>?_) (fun h13=>?_)
  ·try simp only [decide_eq_true_eq] at h13
   try simp only [zds] at h13
   have hr:=hs.2 _ (yT (show i < s.length by omega) []);have hs1:=hs.1;refine qM ?_;refine qC ?_;refine qN ?_;refine qC ?_;refine qB ?_;refine zai (by first|omega|assumption|decide|(simp only [zds];omega)|(simp <;> omega)) ?_;refine qC ?_;refine qB ?_;refine qC ?_;refine qC ?_;refine qB ?_;intro l6_1
   try simp only [Int.toNat_natCast,qH] at l6_1
   refine qN ?_;refine yE (fun (j : Nat)=>j ≤ (s.getD i []).length) (fun (j : Nat)=>[(3,.one (.vec 0)),(10,.one (.sl (.sl yA) s)),(11,ii .i64 s.length),(12,ii .i64 i),(6,.one (.vec 1)),(17,.one (.sl yA (s.getD i []))),(18,ii .i64 (s.getD i []).length),(19,ii .i64 j)]) (fun (j : Nat)=>[(0,.vec 57 (.sl yA) (s.take i)),(1,.vec 59 yA ((s.getD i []).take j))]) 2 (fun (j : Nat)=>(s.getD i []).length - j) 0 (Nat.zero_le _) (qP ⟨rfl,rfl,rfl,rfl,rfl,rfl,rfl,rfl⟩ ⟨rfl,rfl⟩ rfl) ?_;intro j hI2;refine qC ?_;refine qB ?_;refine qC ?_;refine qK rfl (fun h20=>?_) (fun h20=>?_)
   ·try simp only [decide_eq_true_eq] at h20
    try simp only [zds] at h20
    refine qM ?_;refine qC ?_;refine qN ?_;refine qC ?_;refine qB ?_;refine zai (by first|omega|assumption|decide|(simp only [zds];omega)|(simp <;> omega)) ?_;refine qB ?_;refine zai (by show (((s.getD i []).take j).length + 1) * 48 ≤ 140737488355328;rw [List.length_take];omega) ?_;refine qB ?_;refine zai (by first|omega|assumption|decide|(simp only [zds];omega)|(simp <;> omega)) ?_;exact ⟨j + 1,by omega,by first|omega|(simp <;> omega),qP ⟨rfl,rfl,rfl,rfl,rfl,rfl,rfl,rfl⟩ ⟨rfl,(qY (yO (false,ByteArray.empty,(0 : Int),ByteArray.empty) (by omega)))⟩ rfl⟩
   ·try simp only [decide_eq_false_iff_not,Int.not_lt] at h20
    try simp only [zds] at h20
    refine yI ?_;have e2 : j = (s.getD i []).length:=by omega
    subst e2;refine qB ?_;refine zai (by show ((s.take i).length + 1) * 24 ≤ 140737488355328;rw [List.length_take];omega) ?_;refine qB ?_;refine zai (by first|omega|assumption|decide|(simp only [zds];omega)|(simp <;> omega)) ?_;exact ⟨i + 1,by omega,by first|omega|(simp <;> omega),qP ⟨rfl,rfl,rfl,rfl⟩ (qY ((congrArg (s.take i ++ [·]) (List.take_length)).trans (yO [] (by omega)))) rfl⟩
  ·try simp only [decide_eq_false_iff_not,Int.not_lt] at h13
   try simp only [zds] at h13
   refine yI ?_;refine qC ?_;refine qB ?_;refine qL ?_;refine sl_eq ?_;have e : i = s.length:=by omega
   subst e;exact List.take_length
def bigR9 (r : List Term) : Bool:=decide (8 < r.length) || r.any QQ.bigT
def big9 (t : ByteArray) (s : List (List Term)) : Bool:=decide (2000 < t.size) || (decide (8 < s.length) || s.any bigR9)
def al9T : List Itm:=[(3,⟨#[65,58,32,49,10]⟩,[(⟨#[65]⟩,⟨#[49]⟩)]),(1,⟨#[10]⟩,[]),(3,⟨#[65,58,32,50,10]⟩,[(⟨#[65]⟩,⟨#[50]⟩)]),(1,⟨#[10]⟩,[]),(3,⟨#[65,58,32,51,10]⟩,[(⟨#[65]⟩,⟨#[51]⟩)])]
theorem al9_parse : parseS ⟨#[65,58,32,49,10,10,65,58,32,50,10,10,65,58,32,51,10]⟩ = .inr al9T:=by decide +kernel
def al9E : List Ent:=numI 1 al9T
def al9S : List Stz:=[(1,[(⟨#[65]⟩,⟨#[49]⟩)]),(2,[(⟨#[65]⟩,⟨#[50]⟩)]),(3,[(⟨#[65]⟩,⟨#[51]⟩)])]
def al9D : List Ent:=delE al9E 2
def al9R : List Stz:=[(1,[(⟨#[65]⟩,⟨#[49]⟩)]),(3,[(⟨#[65]⟩,⟨#[51]⟩)])]
theorem al9_flds : ∀ e ∈ al9E,xH e.1.2.2:=fun e he=>fldsOk_of (num_small al9_parse e he).1 (num_small al9_parse e he).2
theorem al9_sf : ∀ x ∈ al9S,xH x.2:=by
  intro x hx;have:=stz_flds al9_flds x;rw [show stzL al9E = al9S from by decide +kernel] at this;exact this hx
theorem al9_rf : ∀ x ∈ al9R,xH x.2:=fun x hx=>al9_sf x (by
  unfold al9R at hx;unfold al9S;simp only [List.mem_cons,List.not_mem_nil,or_false] at hx ⊢;rcases hx with rfl|rfl <;> simp)
theorem alive9_c : qT Tryz.prog 9 [] (ib true):=by
  have hof:=of_ok _ (by decide) al9_parse;rw [show ofT al9T = (al9E,4,3) from rfl] at hof;have hnw:=(new_o (k:=1) (κ:=1) [[]] al9E 4 3 (by decide) al9_flds (by decide) (by simp)).x;rw [show fndS [[]] al9E = al9S from by decide +kernel] at hnw;have hn1:=next_yes [[]] al9S 0 (by decide) (by decide) al9_sf;have hdl:=lDel_ok al9E 4 3 2 2 (by decide) (by decide +kernel) ⟨by decide,by decide⟩ (by decide);have hmv:=(move_o (k:=1) [[]] al9S 1 (by decide) al9D 4 2 (by decide) (fun e he=>al9_flds e (mem_del he)) (by decide)).x;rw [show fndS [[]] al9D = al9R from by decide +kernel,show movP al9R (al9S.drop 1) = ((1 : Nat) : Int) from by decide +kernel] at hmv;have hn2:=next_yes [[]] al9R 1 (by decide) (by decide) al9_rf;refine qS (rs:=[0]) Tryz.func9 rfl rfl rfl teOk rfl ?_;refine qC ?_;refine qB ?_;refine qC ?_;refine qB ?_;refine Or.inr (Or.inl (zei [] (zei [] (zei _ (zei _ (zei _ (zei _ (zei _ (zai (hof) (zai rfl (zai True.intro (zai rfl ?_))))))))))));refine qC ?_;refine qC ?_;refine qB ?_;refine zai (fun h=>trivial) ?_;refine zai (fun h=>⟨⟨h,trivial⟩,trivial⟩) ?_;refine zai (by first|(intro h;rw [h];rfl)|(intro h;cases h)) ?_;refine qK rfl (fun h15=>?_) (fun h15=>?_)
  ·try simp only [Bool.not_eq_true',Bool.or_eq_true] at h15
   try simp only [zds] at h15
   simp at h15
  ·try simp only [Bool.not_eq_false',Bool.or_eq_false_iff] at h15
   try simp only [zds] at h15
   refine qM ?_;refine qC ?_;refine qB ?_;refine Or.inr (Or.inr (Or.inr (zei [] (zei [] (zei _ (zei _ (zei _ (zei _ (zei _ (zai (hnw) (zai rfl (zai True.intro (zai rfl ?_)))))))))))));refine qC ?_;refine qB ?_;refine Or.inr (Or.inl (zei [] (zei [3] (zei _ (zei _ (zei _ (zei _ (zei _ (zai (hn1) (zai rfl (zai (zai (zai rfl rfl) True.intro) (zai rfl ?_))))))))))));refine qC ?_;refine qC ?_;refine qB ?_;refine zai (fun h=>trivial) ?_;refine zai (fun h=>⟨⟨h,trivial⟩,trivial⟩) ?_;refine zai (fun h=>⟨⟨h,trivial⟩,trivial⟩) ?_;refine zai (by first|(intro h;rw [h];rfl)|(intro h;cases h)) ?_;refine zai (fun h=>trivial) ?_;refine Or.inr (zai (by first|rfl|decide|simp) (zai (by repeat' (first|exact True.intro|apply zai|rfl|decide|simp)) ?_));refine Or.inr (Or.inl (zei [] (zei [0,1] (zei _ (zei _ (zei _ (zei _ (zei _ (zai (hdl) (zai rfl (zai (zai (zai rfl rfl) (zai (zai rfl rfl) True.intro)) (zai rfl ?_))))))))))));refine zai (fun h=>trivial) ?_;refine zai (by first|(intro h;rw [h];rfl)|(intro h;cases h)) ?_;refine qK rfl (fun h35=>?_) (fun h35=>?_)
   ·try simp only [decide_eq_false_iff_not,Bool.not_eq_true',Bool.or_eq_true] at h35
    try simp only [zds] at h35
    first|(simp at h35;done)|(exact absurd h35 (by decide))
   ·try simp only [decide_eq_true_eq,Bool.not_eq_false',Bool.or_eq_false_iff] at h35
    try simp only [zds] at h35
    refine qM ?_;refine qC ?_;refine qB ?_;refine Or.inr (Or.inr (Or.inr (zei [3] (zei [] (zei _ (zei _ (zei _ (zei _ (zei _ (zai (hmv) (zai rfl (zai (zai (zai rfl rfl) True.intro) (zai rfl ?_)))))))))))));refine qC ?_;refine qB ?_;refine Or.inr (Or.inl (zei [] (zei [3] (zei _ (zei _ (zei _ (zei _ (zei _ (zai (hn2) (zai rfl (zai (zai (zai rfl rfl) True.intro) (zai rfl ?_))))))))))));refine qC ?_;refine qB ?_;refine zai (fun h=>trivial) ?_;refine zai (fun h=>⟨⟨h,trivial⟩,trivial⟩) ?_;refine zai (fun h=>⟨⟨h,trivial⟩,trivial⟩) ?_;refine zai (by exact fun h=>h) ?_;refine zai (fun h=>trivial) ?_;refine Or.inl ?_;refine zai (rfl) ?_;refine zei _ (zai (fun h=>⟨⟨⟨h,trivial⟩,trivial⟩,curPlace_c [[]] al9R _⟩) ?_);refine zai (fun h=>⟨⟨h,trivial⟩,trivial⟩) ?_;refine zai (by exact fun h=>h) ?_;refine zai (fun h=>trivial) ?_;refine Or.inl ?_;refine zai (rfl) ?_;refine zei _ (zai (fun h=>⟨⟨⟨h,trivial⟩,trivial⟩,curLen_c [[]] al9R _⟩) ?_);refine zai (fun h=>⟨⟨h,trivial⟩,trivial⟩) ?_;refine zai (by exact fun h=>h) ?_;refine qL ?_
    first|rfl|exact ib_eq (by decide)
theorem fnd_ids (s : List (List Term)) (es : List Ent) : idsL (QQ.selMatches s) (stzL es) = (fndS s es).map (·.1):=by
  unfold idsL fndS keepF missS
  congr 1
  refine List.filter_congr fun x _=>?_
  rw [Bool.not_not]
theorem crs_eq {s : List (List Term)} {ks : List Stz} {a b : Int} (h : a = b) : some (Ob.box 116 [.sl (.sl yA) s,.sl rStz ks,.lit (.int .i64 a)]) = some (Ob.box 116 [.sl (.sl yA) s,.sl rStz ks,.lit (.int .i64 b)]):=by rw [h]
end Q
end Ab
end Go.Proofs.YtbfhpimmlehkcaaGreatDoor
namespace Go.Proofs.YtbfhpimmlehkcaaGreatDoor
open Go.RowKit
namespace Ab
set_option maxRecDepth 100000
namespace Q
end Q
end Ab
end Go.Proofs.YtbfhpimmlehkcaaGreatDoor
namespace Go.Proofs.YtbfhpimmlehkcaaGreatDoor
open Go.RowKit
namespace Ab
set_option maxRecDepth 100000
namespace Q
def evL : List Stz → List (List A)
  | []=>[]
  | x :: r=>[.one (.fx 0 (.bool true))] :: [.agg (toL rStz x)] :: evL r
theorem evL_len : ∀ l : List Stz,(evL l).length = 2 * l.length
  | []=>rfl
  | x :: r=>by simp only [evL,List.length_cons,evL_len r];omega
theorem evL_odd : ∀ (l : List Stz) (i : Nat) (h : i < l.length),∃ hk : 2 * i + 1 < (evL l).length,(evL l)[2 * i + 1] = [A.agg (toL rStz (l.getD i ((0 : Int),([] : List Fld))))]
  | x :: r,0,_=>⟨by simp only [evL,List.length_cons];omega,rfl⟩
  | x :: r,i + 1,h=>by
    obtain ⟨hk,e⟩:=evL_odd r i (by simpa using h);refine ⟨by simp only [evL,List.length_cons];omega,?_⟩;have e2 : 2 * (i + 1) + 1 = (2 * i + 1) + 1 + 1:=by omega
    simp only [evL,e2,List.getElem_cons_succ,e,List.getD_cons_succ]
theorem evL_even : ∀ (l : List Stz) (i : Nat) (h : i < (evL l).length),i % 2 = 0 → (evL l)[i] = [.one (.fx 0 (.bool true))]
  | x :: r,0,_,_=>rfl
  | x :: r,1,_,h=>by omega
  | x :: r,i + 2,h,he=>by
    have h2 : i < (evL r).length:=by simp only [evL,List.length_cons] at h;omega
    simp only [evL,List.getElem_cons_succ];exact evL_even r i h2 (by omega)
theorem evL_one (l : List Stz) (i : Nat) (h : i < (evL l).length) : ((evL l)[i]).length = 1:=by
  rcases Nat.mod_two_eq_zero_or_one i with h0|h1
  · rw [evL_even l i h h0];rfl
  · obtain ⟨j,rfl⟩ : ∃ j,i = 2 * j + 1:=⟨i / 2,by omega⟩;rw [evL_len] at h;obtain ⟨_,e⟩:=evL_odd l j (by omega);rw [e];rfl
theorem skipFn : FnOk Tryz.prog 12:=⟨_,Tryz.func12,rfl,rfl⟩
theorem rest_iterS (ks : List Stz) (hf : ∀ x ∈ ks,x.2.length ≤ 1000000) (pv : Value) : AIterS Tryz.prog 110 12 [pv,.int .i64 1] [.one (.addr (.sl rStz) ks),.one (.ref (.lit pv))] (evL ks):=by
  refine aiterS_of Tryz.func110 rfl rfl rfl teOk rfl ?_;intro l ι Pr J U n0 hU hab hy hsk;refine yD ?_;refine yN hab hU rfl ?_;refine qB ?_;intro hln;have hln : ks.length ≤ 9223372036854775807:=hln;refine ⟨_,_,_,le_refl,?_⟩;refine acodeY_block ?_;refine acodeY_loop (κ:=Nat) (fun i=>i ≤ ks.length) (fun i=>2 * i) (fun i=>[(0,.one (.lit (.func (.yield l) #[] #[]))),(2,.one (.ref (.lit pv))),(6,.one (.sl rStz ks)),(7,ii .i64 ks.length),(8,ii .i64 i)]) (fun _=>[]) 0 (fun i=>ks.length - i) 0 (Nat.zero_le _) hab hU (qP ⟨rfl,rfl,rfl,rfl,rfl⟩ trivial rfl) rfl ?_;intro i hi;have hi : i ≤ ks.length:=hi;refine acodeY_lowQ hab hU ?_;refine yD ?_;refine yN hab hU rfl ?_;refine qB ?_;refine ⟨_,_,_,le_refl,?_⟩;refine yD ?_;refine acodeY_cond rfl (fun h9=>?_) (fun h9=>?_)
  · simp only [decide_eq_true_eq] at h9;have hlt : i < ks.length:=by omega
    obtain ⟨hk,hx⟩:=evL_odd ks i hlt;have hfl:=hf _ (yT hlt ((0 : Int),([] : List Fld)));refine acodeY_skip ?_;refine yD ?_;refine acodeY_block ?_;refine yD ?_;refine yN hab hU rfl ?_;refine qB ?_;refine zai (by omega) ?_;refine ⟨_,_,_,le_refl,?_⟩;refine yD ?_;refine yN hab hU rfl ?_;refine qB ?_;refine Or.inl ?_;refine zai rfl ?_;refine zei _ (zai (yS (ks.getD i ((0 : Int),([] : List Fld))).2 hfl) ?_);refine ⟨_,_,_,le_refl,?_⟩;refine yD ?_;refine acodeY_skipc (pre:=[_]) (post:=[]) _ rfl rfl rfl hab hU hsk (by omega) (by omega) skipFn ?_;refine ⟨_,_,_,le_refl,rfl,rfl,?_⟩;refine ⟨_,_,_,le_refl,?_⟩;refine yD ?_;refine acodeY_yield (pre:=[_,_]) (post:=[_]) _ rfl rfl rfl hab hU hy hk ?_;refine ⟨_,_,_,le_refl,rfl,hx.symm,by rw [hx];rfl,fun st=>?_⟩;refine ⟨_,_,_,le_refl,?_⟩;refine acodeY_cond rfl (fun h21=>?_) (fun h21=>?_)
    · have h21 : (!!st) = true:=h21;rw [Bool.not_not] at h21;subst h21;refine acodeY_ret ?_;exact ⟨_,.inl rfl,.inl rfl,fun e=>by cases e⟩
    · have h21 : (!!st) = false:=h21;rw [Bool.not_not] at h21;subst h21;refine acodeY_skip ?_;refine yN hab hU rfl ?_;refine qB ?_;refine zai (by omega) ?_;refine ⟨_,_,_,qP (tm':=[(0,.one (.lit (.func (.yield l) #[] #[]))),(2,.one (.ref (.lit pv))),(6,.one (.sl rStz ks)),(7,ii .i64 ks.length),(8,ii .i64 (i + 1 : Nat))]) (ob':=[]) (nx':=1) ⟨rfl,rfl,rfl,rfl,yX (by omega)⟩ trivial rfl,0,.inr rfl,⟨i + 1,hlt,by omega,rfl,by omega,rfl,rfl,rfl⟩⟩
  · simp only [decide_eq_false_iff_not] at h9;refine acodeY_exit ?_;refine ⟨_,.inl rfl,.inr rfl,fun _=>?_⟩;rw [evL_len];omega
theorem cloneS_c {k : Nat} (l : List Stz) (hl : l.length ≤ 1000000) : qT Tryz.prog 109 [.one (.slk k rStz l)] (.one (.sl rStz l)):=by
  refine qS (rs:=[2]) Tryz.func109 rfl rfl rfl teOk rfl ?_;refine qC ?_;refine qB ?_;refine qC ?_;refine qC ?_;refine acode_isnil (q:=k) [_] _ (R:=rStz) (xs:=l) rfl rfl rfl rfl (e:=42) rfl rfl ?_;refine ⟨rfl,fun b hb=>?_⟩;refine qK rfl (fun h4=>?_) (fun h4=>?_)
  ·have hl0:=hb h4;subst hl0;refine qC ?_;refine qB ?_;refine acode_nilvec 2 42 rStz rfl ?_;refine qL ?_;rfl
  ·refine qM ?_;refine qC ?_;refine qB ?_;refine zai (by first|exact qQ (show l.length ≤ 1000000000 by omega) (by decide)|exact qQ (show 0 + l.length ≤ 1000000000 by omega) (by decide)) ?_;refine qL ?_;rfl
theorem restS_o (s : List (List Term)) (ks : List Stz) (p : Nat) (hp : p ≤ ks.length) (hl : ks.length ≤ 1000000) : qZ Tryz.prog 64 [.one (.own 0 0)] (crsO s ks p) 1 (.one (.clo2 110 (.addr (.sl rStz) (ks.drop p)) (.ref (.own 0 0)))) (crsO s ks p) 1:=by
  refine qW (rs:=[2]) Tryz.func64 rfl rfl rfl teOk (by decide) rfl ?_;refine qC ?_;refine qB ?_;refine qC ?_;refine qB ?_;refine qC ?_;refine qC ?_;refine qB ?_;refine qK rfl (fun h5=>?_) (fun h5=>?_)
  ·skip
   refine acode_ord rfl ?_;refine qE [0,4] (by kernel_rfl) rfl ?_;refine zai ?_ ?_
   ·refine qJ 1 rfl rfl rfl (by kernel_rfl) ?_;refine qJ 2 rfl rfl rfl (by kernel_rfl) ?_;refine qE [3,4] (by kernel_rfl) rfl ?_;refine zai ?_ ?_
    ·refine qE [4] (by kernel_rfl) rfl ?_;refine qJ 5 rfl rfl rfl (by kernel_rfl) ?_;refine qJ 6 rfl rfl rfl (by kernel_rfl) ?_;refine qE [7] (by kernel_rfl) rfl ?_;refine qJ 8 rfl rfl rfl (by kernel_rfl) ?_;refine zai (by first|omega|assumption|decide|(simp only [zds];omega)|(simp <;> omega)) ?_;refine qE [9] (by kernel_rfl) rfl ?_;refine Or.inl ?_;refine zai (rfl) ?_;refine zei _ (zai (cloneS_c _ (by simp;omega)) ?_);refine qE [10] (by kernel_rfl) rfl ?_;refine qO (by kernel_rfl) ?_;refine qC ?_;refine qB ?_;refine acode_frz [1,2] ?_;refine qL ?_;exact ⟨rfl,rfl,rfl⟩
    ·refine qJ 5 rfl rfl rfl (by kernel_rfl) ?_;refine qJ 6 rfl rfl rfl (by kernel_rfl) ?_;refine qE [3,7] (by kernel_rfl) rfl ?_;refine zai ?_ ?_
     ·refine qE [7] (by kernel_rfl) rfl ?_;refine qJ 8 rfl rfl rfl (by kernel_rfl) ?_;refine zai (by first|omega|assumption|decide|(simp only [zds];omega)|(simp <;> omega)) ?_;refine qE [9] (by kernel_rfl) rfl ?_;refine Or.inl ?_;refine zai (rfl) ?_;refine zei _ (zai (cloneS_c _ (by simp;omega)) ?_);refine qE [10] (by kernel_rfl) rfl ?_;refine qO (by kernel_rfl) ?_;refine qC ?_;refine qB ?_;refine acode_frz [1,2] ?_;refine qL ?_;exact ⟨rfl,rfl,rfl⟩
     ·refine qE [3] (by kernel_rfl) rfl ?_;refine qJ 8 rfl rfl rfl (by kernel_rfl) ?_;refine zai (by first|omega|assumption|decide|(simp only [zds];omega)|(simp <;> omega)) ?_;refine qE [9] (by kernel_rfl) rfl ?_;refine Or.inl ?_;refine zai (rfl) ?_;refine zei _ (zai (cloneS_c _ (by simp;omega)) ?_);refine qE [10] (by kernel_rfl) rfl ?_;refine qO (by kernel_rfl) ?_;refine qC ?_;refine qB ?_;refine acode_frz [1,2] ?_;refine qL ?_;exact ⟨rfl,rfl,rfl⟩
   ·refine qJ 5 rfl rfl rfl (by kernel_rfl) ?_;refine qJ 6 rfl rfl rfl (by kernel_rfl) ?_;refine qE [0,7] (by kernel_rfl) rfl ?_;refine zai ?_ ?_
    ·refine qJ 1 rfl rfl rfl (by kernel_rfl) ?_;refine qJ 2 rfl rfl rfl (by kernel_rfl) ?_;refine qE [3,7] (by kernel_rfl) rfl ?_;refine zai ?_ ?_
     ·refine qE [7] (by kernel_rfl) rfl ?_;refine qJ 8 rfl rfl rfl (by kernel_rfl) ?_;refine zai (by first|omega|assumption|decide|(simp only [zds];omega)|(simp <;> omega)) ?_;refine qE [9] (by kernel_rfl) rfl ?_;refine Or.inl ?_;refine zai (rfl) ?_;refine zei _ (zai (cloneS_c _ (by simp;omega)) ?_);refine qE [10] (by kernel_rfl) rfl ?_;refine qO (by kernel_rfl) ?_;refine qC ?_;refine qB ?_;refine acode_frz [1,2] ?_;refine qL ?_;exact ⟨rfl,rfl,rfl⟩
     ·refine qE [3] (by kernel_rfl) rfl ?_;refine qJ 8 rfl rfl rfl (by kernel_rfl) ?_;refine zai (by first|omega|assumption|decide|(simp only [zds];omega)|(simp <;> omega)) ?_;refine qE [9] (by kernel_rfl) rfl ?_;refine Or.inl ?_;refine zai (rfl) ?_;refine zei _ (zai (cloneS_c _ (by simp;omega)) ?_);refine qE [10] (by kernel_rfl) rfl ?_;refine qO (by kernel_rfl) ?_;refine qC ?_;refine qB ?_;refine acode_frz [1,2] ?_;refine qL ?_;exact ⟨rfl,rfl,rfl⟩
    ·refine qE [0] (by kernel_rfl) rfl ?_;refine qJ 1 rfl rfl rfl (by kernel_rfl) ?_;refine qJ 2 rfl rfl rfl (by kernel_rfl) ?_;refine qE [3] (by kernel_rfl) rfl ?_;refine qJ 8 rfl rfl rfl (by kernel_rfl) ?_;refine zai (by first|omega|assumption|decide|(simp only [zds];omega)|(simp <;> omega)) ?_;refine qE [9] (by kernel_rfl) rfl ?_;refine Or.inl ?_;refine zai (rfl) ?_;refine zei _ (zai (cloneS_c _ (by simp;omega)) ?_);refine qE [10] (by kernel_rfl) rfl ?_;refine qO (by kernel_rfl) ?_;refine qC ?_;refine qB ?_;refine acode_frz [1,2] ?_;refine qL ?_;exact ⟨rfl,rfl,rfl⟩
  ·try simp only [zbq] at h5
   try simp only [zds] at h5
   simp at h5
abbrev restC (l : List Stz) : List A:=[.one (.addr (.sl rStz) l),.one (.ref (.own 0 0))]
theorem rest_caps (l : List Stz) (ok : Oks) (ρ : Nat → Option Value) (w : World) (pv : Value) (vs : List Value) (h0 : ρ 0 = some pv) (h : yJ ok ρ w (restC l) vs) : yJ ok qV w [.one (.addr (.sl rStz) l),.one (.ref (.lit pv))] vs:=by
  obtain ⟨v,t,rfl,hv,v2,t2,rfl,⟨b,off,u,e1,e2,e3,e4,b2,e5,e6⟩,ht⟩:=h;refine ⟨v,_,rfl,hv,v2,_,rfl,⟨b,off,u,e1,e2,e3,e4,?_⟩,ht⟩;rw [e5] at h0;exact e6.trans (Option.some.inj h0)
theorem rest_sa (m : Nat) (ok : Oks) (ρ : Nat → Option Value) (w : World) (b : Nat) (h : ρ 0 = some (.pointer (some ⟨b,0,none⟩))) : yJ ok ρ w (renAs (sigO m [0]) [.one (.own 0 0),ii .i64 1]) [.pointer (some ⟨b,0,none⟩),.int .i64 1] :=
  ⟨_,_,rfl,⟨b,h,rfl⟩,_,_,rfl,rfl,rfl⟩
theorem evL_no (l : List Stz) (k : Nat) (hk : k < (evL l).length) (h : k % 2 = 0) (ok : Oks) (w : World) (vs : List Value) : ¬ yJ ok qV w ((evL l)[k]) vs:=by
  rw [evL_even l k hk h]
  rintro ⟨v,t,_,h2,_⟩
  cases h2
theorem skip_1 (len p : Int) (h : p < len) (hp : 0 ≤ p) : skipR p len 1 = 1:=by unfold skipR;split <;> split <;> omega
def restI (s : List (List Term)) (ks : List Stz) (p : Nat) (most : Int) (i : Nat) : Obs:=[(0,.box 116 [.sl (.sl yA) s,.sl rStz ks,.lit (.int .i64 ((p + (i + 1) / 2 : Nat) : Int))]),(1,.box 3 [.lit (.int .i64 most)]),(3,.box 38 [.vec 2]),(2,.vec 42 rStz ((ks.drop p).take (i / 2)))]
abbrev restT (ks : List Stz) (p : Nat) : Tm:=[(3,.one (.own 1 0)),(5,.one (.own 3 0)),(9,.one (.clo2 110 (.addr (.sl rStz) (ks.drop p)) (.ref (.own 0 0))))]
theorem rest_skip (s : List (List Term)) (ks : List Stz) (p : Nat) (hp : p ≤ ks.length) (hl : ks.length ≤ 1000000) (most : Int) (k : Nat) (hk : k < (evL (ks.drop p)).length) (h2 : k % 2 = 0) :
    ∃ obc obc' r m',qZ Tryz.prog 12 [.one (.own 0 0),ii .i64 1] obc (lenN [0]) r obc' m' ∧ lentO (restI s ks p most k) (sigO 4 [0]) 0 [0] obc ∧ ndN [0] = true ∧
      Le 4 (drpTm (badOf [0] obc) (restT ks p)) (appO (renOb (sigO 4 [0]) obc') (dropO [0] (badOf [0] obc) (restI s ks p most k))) (4 + (m' - lenN [0])) [] (restI s ks p most (k + 1)) 4:=by
  rw [evL_len,List.length_drop] at hk;have hc:=skip_o s ks ((p + (k + 1) / 2 : Nat) : Int) 1 1 (skip_1 _ _ (by omega) (by omega)) (by omega) hl (by decide);refine ⟨_,_,_,_,hc,⟨⟨rfl,rfl⟩,trivial⟩,rfl,qP trivial ⟨crs_eq (by omega),rfl,rfl,qY ?_⟩ rfl⟩;rw [show (k + 1) / 2 = k / 2 by omega]
theorem restA_o (s : List (List Term)) (ks : List Stz) (p : Nat) (hp : p ≤ ks.length) (hl : ks.length ≤ 1000000) (hf : ∀ x ∈ ks,x.2.length ≤ 1000000) (most : Int) (hm : ¬ (1 ≤ most ∧ most ≤ (ks.length : Int) - p)) :
    qZ Tryz.prog 19 [.one (.own 0 0),ii .i64 most] (crsO s ks p) 1 (.one (.sl rStz (ks.drop p))) (crsO s ks (ks.length : Int)) 1:=by
  have hro:=restS_o s ks p hp hl;have hdl : (ks.drop p).length = ks.length - p:=List.length_drop;refine qW (rs:=[4]) Tryz.func19 rfl rfl rfl teOk (by decide) rfl ?_;refine qC ?_;refine qB ?_;refine qC ?_;refine qB ?_;refine qC ?_;refine qC ?_;refine qB ?_;refine Or.inr (Or.inl (zei [] (zei [0] (zei _ (zei _ (zei _ (zei _ (zei _ (zai (hro) (zai rfl (zai (zai (zai rfl rfl) True.intro) (zai rfl ?_))))))))))));refine qN ?_;refine acode_rangeS (caps:=restC (ks.drop p)) (xs:=evL (ks.drop p)) (restT ks p) 4 (fun st j (i : Nat)=>st = false ∧ i = j) (fun i=>restI s ks p most i) (fun _=>.ret) 0 rfl 12 0 [0] [.one (.own 0 0),ii .i64 1] (fun pv=>[pv,.int .i64 1]) (fun pv=>[.one (.addr (.sl rStz) (ks.drop p)),.one (.ref (.lit pv))]) (fun pv=>rest_iterS _ (fun x hx=>hf x (List.mem_of_mem_drop hx)) pv) (rest_caps _) (rest_sa 4) rfl (fun k i hk h2 hi=>by obtain ⟨_,rfl⟩:=hi;obtain ⟨obc,obc',r,m',h⟩:=rest_skip s ks p hp hl most i hk h2;exact ⟨i + 1,obc,obc',r,m',⟨rfl,rfl⟩,h⟩) (qP ⟨rfl,rfl,rfl⟩ ⟨rfl,rfl,rfl,rfl⟩ rfl) ⟨rfl,rfl⟩ (fun k hk=>evL_one _ k hk) rfl rfl rfl (fun _ _ _=>rfl) rfl (evL_no _) ?_ ?_ ?_
  ·intro j i hk hodd hp2;obtain ⟨_,rfl⟩:=hp2;obtain ⟨q,rfl⟩ : ∃ q,i = 2 * q + 1:=⟨i / 2,by omega⟩;have hk2:=hk;rw [evL_len] at hk2;obtain ⟨_,hx⟩:=evL_odd (ks.drop p) q (by omega);rw [hx];have e1 : (2 * q + 1) / 2 = q:=(by omega);have hqd : q < (ks.drop p).length:=(by omega);refine qB ?_;refine qN ?_;refine qC ?_;refine qB ?_;refine zai (by exact qQ (show ((ks.drop p).take ((2 * q + 1) / 2)).length + 1 ≤ 1000000000 by rw [List.length_take];omega) (by decide)) ?_;refine qC ?_;refine qB ?_;intro l5_1
   try simp only [zds] at l5_1
   refine qK rfl (fun h18=>?_) (fun h18=>?_)
   ·try simp only [decide_eq_true_eq] at h18
    try simp only [zds] at h18
    exfalso
    have h19 : (((ks.drop p).take ((2 * q + 1) / 2) ++ [(ks.drop p).getD q ((0 : Int),([] : List Fld))]).length : Int) = most:=h18;rw [List.length_append,List.length_take] at h19;simp only [List.length_cons,List.length_nil] at h19;omega
   ·try simp only [decide_eq_false_iff_not] at h18
    try simp only [zds] at h18
    refine qM ?_;exact ⟨2 * q + 1 + 1,⟨rfl,rfl⟩,qP trivial ⟨crs_eq (by omega),rfl,rfl,qY (by rw [e1,show (2 * q + 1 + 1) / 2 = q + 1 by omega,← yO ((0 : Int),([] : List Fld)) hqd];exact rfl)⟩ rfl⟩
  ·intro i hp2;obtain ⟨_,rfl⟩:=hp2;refine qC ?_;refine qB ?_;refine acode_frz [2] ?_;refine qL ?_;refine ⟨by rw [evL_len,show 2 * (ks.drop p).length / 2 = (ks.drop p).length by omega,List.take_length];exact rfl,crs_eq (by rw [evL_len];omega),rfl⟩
  ·intro j i hp2;exact absurd hp2.1 (by decide)
end Q
end Ab
end Go.Proofs.YtbfhpimmlehkcaaGreatDoor
namespace Go.Proofs.YtbfhpimmlehkcaaGreatDoor
open Go.RowKit
namespace Ab
set_option maxRecDepth 100000
namespace Q
def BlankI (x : Itm) : Prop:=∃ t : ByteArray,x = (1,t ++ ⟨#[10]⟩,[]) ∧ yK (ls t) = 1 ∧ (10 : UInt8) ∉ ls t
def Good1 (x : Itm) : Prop:=BlankI x ∨ (x.1 ≠ 1 ∧ Blk x)
def BIP (p : PSt) : Prop:=(∀ x ∈ p.its,x.1 = 1 → BlankI x) ∧ p.recs = (cntR p.its : Int)
def HF (p : PSt) : Prop:=p.lns ≠ [] ∨ p.flds ≠ []
end Q
end Ab
end Go.Proofs.YtbfhpimmlehkcaaGreatDoor
namespace Go.Proofs.YtbfhpimmlehkcaaGreatDoor
open Go.RowKit
namespace Ab
set_option maxRecDepth 100000
namespace Q
structure LGd (B : Nat) (L : Lst) : Prop where
  good : ∀ e ∈ L.1,Good1 e.1 ∧ isRec e.1 = live e
  m4 : L.2.2 ≤ 400
  sz : szI (itmL L.1) ≤ B
end Q
end Ab
end Go.Proofs.YtbfhpimmlehkcaaGreatDoor
namespace Go.Proofs.YtbfhpimmlehkcaaGreatDoor
open Go.RowKit
namespace Ab
set_option maxRecDepth 100000
namespace Q
end Q
end Ab
end Go.Proofs.YtbfhpimmlehkcaaGreatDoor
namespace Go.Proofs.YtbfhpimmlehkcaaGreatDoor
open Go.RowKit
namespace Ab
set_option maxRecDepth 100000
namespace Q
abbrev delS (gone : List Int) : List Edt:=gone.map fun id=>((2 : Int),id,([] : List Fld))
theorem delS_mem {gone : List Int} {e : Edt} (h : e ∈ delS gone) : e.2.2 = []:=by
  obtain ⟨id,_,rfl⟩:=List.mem_map.1 h;rfl
theorem delS_get {gone : List Int} {i : Nat} (h : i < gone.length) : (delS gone).getD i ((0 : Int),(0 : Int),([] : List Fld)) = (2,gone.getD i 0,[]):=by
  rw [List.getD_eq_getElem?_getD,List.getElem?_map,List.getElem?_eq_getElem h,List.getD_eq_getElem?_getD,List.getElem?_eq_getElem h];rfl
theorem nms_pos {es : List Ent} {i : Int} (h : i ∈ nmsL es) : 0 < i:=of_decide_eq_true (List.mem_filter.1 h).2
theorem stz_ids9 (es : List Ent) : (stzL es).map (·.1) = nmsL es:=by
  rw [← ids_eq];unfold stzL;rw [List.map_map];rfl
theorem nms_del {c : Nat} {L : Lst} (h : LOk c L) (id : Int) : nmsL (doL L (2,id,[])).1 = (nmsL L.1).filter fun j=>decide (j ≠ id):=by
  unfold doL;rw [if_neg (show ¬ (2 : Int) = 1 by decide),if_pos rfl];rcases at_cases L.1 id with ⟨h1,h2⟩|⟨i,h1,h2,h3,h4,_⟩
  · rw [if_pos (show atE L.1 id < 0 by rw [h1];decide)];refine (List.filter_eq_self.2 fun j hj=>?_).symm;have hp:=nms_pos hj;refine decide_eq_true fun e=>?_
    subst e;unfold nmsL at hj;obtain ⟨e,he,hx⟩:=List.mem_map.1 (List.mem_filter.1 hj).1;exact h2 e he hp hx
  · rw [if_neg (show ¬ atE L.1 id < 0 by omega)];have e0 : (atE L.1 id).toNat = i:=by omega
    show nmsL (delE L.1 (atE L.1 id).toNat) = _;rw [e0];have e1 : nmsL L.1 = nmsL (L.1.take i) ++ id :: nmsL (L.1.drop (i + 1)):=by
      conv=>lhs;rw [del_split h1,ids_app,ids_cons,h4,if_pos h3]
    have e2 : nmsL (delE L.1 i) = nmsL (L.1.take i) ++ nmsL (L.1.drop (i + 1)):=ids_app _ _;have hn:=h.nd;rw [e1] at hn;have hn2:=List.nodup_append.1 hn;rw [e1,e2,List.filter_append,List.filter_cons,if_neg (by simp)];rw [List.filter_eq_self.2 fun j hj=>?_,List.filter_eq_self.2 fun j hj=>?_]
    · refine decide_eq_true fun e=>?_
      subst e;exact (List.nodup_cons.1 hn2.2.1).1 hj
    · refine decide_eq_true fun e=>?_
      subst e;exact hn2.2.2 _ hj _ List.mem_cons_self rfl
theorem nms_dels {c : Nat} {L : Lst} (h : LOk c L) (gone : List Int) : ∀ i,i ≤ gone.length → nmsL (plays L (delS gone) i).1 = (nmsL L.1).filter fun j=>decide (j ∉ gone.take i)
  | 0,_=>by
    refine (List.filter_eq_self.2 fun j hj=>?_).symm;simp
  | i + 1,hi=>by
    have hfl : ∀ e ∈ delS gone,xH e.2.2:=fun e he=>by rw [delS_mem he];exact ⟨by decide,by simp⟩
    have hl : (delS gone).length = gone.length:=List.length_map _;have hk:=plays_ok h hfl i (by omega);rw [plays_snoc L (by omega),delS_get (by omega),nms_del hk,nms_dels h gone i (by omega),List.filter_filter];refine List.filter_congr fun j _=>?_
    rw [← yO (0 : Int) (show i < gone.length by omega)];simp only [List.mem_append,List.mem_singleton,← Bool.decide_and];exact decide_eq_decide.2 ⟨fun ⟨h1,h2⟩ h3=>h3.elim h2 h1,fun h=>⟨fun e=>h (.inr e),fun e=>h (.inl e)⟩⟩
theorem any_isId (l : List Stz) (id : Int) : l.any (isId id) = decide (id ∈ l.map (·.1)):=by
  rw [Bool.eq_iff_iff,List.any_eq_true,decide_eq_true_eq,List.mem_map];exact ⟨fun ⟨x,h1,h2⟩=>⟨x,h1,of_decide_eq_true h2⟩,fun ⟨x,h1,h2⟩=>⟨x,h1,decide_eq_true h2⟩⟩
theorem movP_at (q : Int → Bool) : ∀ (ks l : List Stz) (U : List Int),ks.map (·.1) = U ++ (l.map (·.1)).filter q → (∀ x ∈ l,x.1 ∉ U) → (l.map (·.1)).Nodup → movP ks l = (U.length : Int)
  | ks,[],U,h,_,_=>by
    show (ks.length : Int) = _;have:=congrArg List.length h;rw [List.length_map] at this;simp only [List.map_nil,List.filter_nil,List.append_nil] at this;omega
  | ks,x :: r,U,h,hU,hn=>by
    rw [List.map_cons] at hn;obtain ⟨hn1,hn2⟩:=List.nodup_cons.1 hn;rw [List.map_cons,List.filter_cons] at h
    by_cases hq : q x.1 = true
    · rw [if_pos hq] at h;have hlen:=congrArg List.length h;rw [List.length_map,List.length_append,List.length_cons] at hlen;have hi : U.length < ks.length:=by omega
      have e1 : (ks.take U.length).map (·.1) = U:=by rw [List.map_take,h,List.take_left'];rfl
      have hx : (ks.getD U.length ((0 : Int),([] : List Fld))).1 = x.1:=by
        have h2 : (ks.map (·.1))[U.length]? = some x.1:=by rw [h,List.getElem?_append_right (Nat.le_refl _),Nat.sub_self];rfl
        rw [List.getElem?_map,List.getElem?_eq_getElem hi] at h2;rw [List.getD_eq_getElem?_getD,List.getElem?_eq_getElem hi];exact Option.some.inj h2
      have hix : ixOf (isId x.1) ks = U.length:=ixOf_at ((0 : Int),([] : List Fld)) hi (by rw [any_isId,e1];exact decide_eq_false (hU x List.mem_cons_self)) (decide_eq_true hx);show (if ixOf (isId x.1) ks < 0 then movP ks r else ixOf (isId x.1) ks) = _;rw [if_neg (by omega),hix]
    · rw [if_neg hq] at h;have hno : ks.any (isId x.1) = false:=by
        rw [any_isId,h];refine decide_eq_false fun hm=>?_
        rcases List.mem_append.1 hm with h1|h1
        · exact hU x List.mem_cons_self h1
        · exact hn1 (List.mem_filter.1 h1).1
      show (if ixOf (isId x.1) ks < 0 then movP ks r else ixOf (isId x.1) ks) = _;rw [if_pos (by rw [ixOf_none hno];decide)];exact movP_at q ks r U h (fun y hy=>hU y (List.mem_cons_of_mem _ hy)) hn2
theorem mov_drop (q : Int → Bool) (K K' : List Stz) (h : K'.map (·.1) = (K.map (·.1)).filter q) (hn : (K.map (·.1)).Nodup) (n : Nat) (hl : n ≤ K.length) : movP K' (K.drop n) = ((((K.map (·.1)).take n).filter q).length : Int) ∧ (((K.map (·.1)).take n).filter q).length ≤ K'.length ∧
    (K'.drop (((K.map (·.1)).take n).filter q).length).map (·.1) = ((K.map (·.1)).drop n).filter q:=by
  have e0 : K'.map (·.1) = ((K.map (·.1)).take n).filter q ++ ((K.drop n).map (·.1)).filter q:=by
    rw [List.map_drop,← List.filter_append,List.take_append_drop];exact h
  have hn2 : ((K.map (·.1)).take n ++ (K.map (·.1)).drop n).Nodup:=by rw [List.take_append_drop];exact hn
  obtain ⟨n1,n2,n3⟩:=List.nodup_append.1 hn2;refine ⟨movP_at q K' (K.drop n) _ e0 (fun x hx hm=>?_) (by rw [List.map_drop];exact n2),?_,?_⟩
  · refine n3 _ (List.mem_filter.1 hm).1 _ ?_ rfl;rw [← List.map_drop];exact List.mem_map_of_mem hx
  · have:=congrArg List.length e0;rw [List.length_map,List.length_append] at this;omega
  · rw [List.map_drop,e0,List.drop_left',List.map_drop];rfl
theorem miss0 (x : Stz) : missS [[]] x = false:=rfl
theorem fnd_all (es : List Ent) : fndS [[]] es = stzL es:=keepF_all (List.any_eq_false.2 fun x _=>by rw [miss0];decide)
theorem plc_mem (es : List Ent) (id : Int) : decide (0 ≤ plcL es id) = decide (id ∈ nmsL es):=by
  unfold plcL;rw [ixOf_ge,Bool.eq_iff_iff,List.any_eq_true,decide_eq_true_eq,← ids_eq,List.mem_map];exact ⟨fun ⟨x,h1,h2⟩=>⟨x,h1,of_decide_eq_true h2⟩,fun ⟨x,h1,h2⟩=>⟨x,h1,decide_eq_true h2⟩⟩
end Q
end Ab
end Go.Proofs.YtbfhpimmlehkcaaGreatDoor
namespace Go.Proofs.YtbfhpimmlehkcaaGreatDoor
open Go.RowKit
namespace Ab
set_option maxRecDepth 100000
namespace Q
theorem ints19_c {κ κ' : Nat} (a b : List Int) : qT Tryz.prog 20 [.one (.slk κ (.int .i64) a),.one (.slk κ' (.int .i64) b)] (ib (decide (a = b))):=by
  refine qS (rs:=[4]) Tryz.func20 rfl rfl rfl teOk rfl ?_;refine qC ?_;refine qB ?_;refine qC ?_;refine qC ?_;refine qB ?_;intro l1_1
  try simp only [zds] at l1_1
  intro l1_3
  try simp only [zds] at l1_3
  refine qK rfl (fun h10=>?_) (fun h10=>?_)
  ·try simp only [decide_eq_false_iff_not,Bool.not_eq_true'] at h10
   try simp only [zds] at h10
   refine qC ?_;refine qB ?_;refine qL ?_;exact ib_eq (decide_eq_false (fun e=>by rw [e] at h10;omega)).symm
  ·try simp only [decide_eq_true_eq,Bool.not_eq_false'] at h10
   try simp only [zds] at h10
   refine qM ?_;refine qC ?_;refine qC ?_;refine qB ?_;intro l3_1
   try simp only [zds] at l3_1
   refine qN ?_;refine yE (fun (i : Nat)=>i ≤ a.length ∧ a.take i = b.take i) (fun (i : Nat)=>[(0,.one (.slk κ (.int .i64) a)),(1,.one (.slk κ' (.int .i64) b)),(12,ii .i64 a.length),(13,ii .i64 i)]) (fun (i : Nat)=>[]) 0 (fun (i : Nat)=>a.length - i) 0 (⟨Nat.zero_le _,by simp⟩) (qP ⟨rfl,rfl,rfl,rfl⟩ trivial rfl) ?_;intro i hI0;obtain ⟨hi,ht⟩:=hI0;refine qC ?_;refine qB ?_;refine qC ?_;refine qK rfl (fun h14=>?_) (fun h14=>?_)
   ·try simp only [decide_eq_true_eq] at h14
    try simp only [zds] at h14
    have hla : i < a.length:=(by omega);have hlb : i < b.length:=(by omega);refine qM ?_;refine qC ?_;refine qN ?_;refine qC ?_;refine qB ?_;refine qC ?_;refine acode_draw rfl (by kernel_rfl) ?_;refine zai (by first|omega|assumption|decide|(simp only [zds];omega)|(simp <;> omega)) ?_;refine zai (by first|omega|assumption|decide|(simp only [zds];omega)|(simp <;> omega)) ?_;refine qK rfl (fun h24=>?_) (fun h24=>?_)
    ·try simp only [decide_eq_false_iff_not,Bool.not_eq_true'] at h24
     try simp only [Int.toNat_natCast,qF] at h24
     refine qC ?_;refine qB ?_;refine qL ?_;exact ib_eq (decide_eq_false (ne_at (i:=i) 0 h24)).symm
    ·try simp only [decide_eq_true_eq,Bool.not_eq_false'] at h24
     try simp only [Int.toNat_natCast,qF] at h24
     refine qM ?_;refine qB ?_;refine zai (by first|omega|assumption|decide|(simp only [zds];omega)|(simp <;> omega)) ?_;exact ⟨i + 1,⟨by omega,list_ext_take 0 hla hlb ht h24⟩,by first|omega|(simp <;> omega),qP ⟨rfl,rfl,rfl,(yX (by omega))⟩ trivial rfl⟩
   ·try simp only [decide_eq_false_iff_not,Int.not_lt] at h14
    try simp only [zds] at h14
    refine yI ?_;refine qC ?_;refine qB ?_;refine qL ?_;exact ib_eq (decide_eq_true (by rw [List.take_of_length_le (by omega),List.take_of_length_le (by omega)] at ht;exact ht)).symm
theorem skip_nat (len : Nat) (k : Int) : ∃ n : Nat,skipR 0 len k = n ∧ n ≤ len:=⟨(skipR 0 len k).toNat,by unfold skipR;split <;> split <;> omega,by unfold skipR;split <;> split <;> omega⟩
theorem mov_same {K : List Stz} (hn : (K.map (·.1)).Nodup) {n : Nat} (hl : n ≤ K.length) : movP K (K.drop n) = (n : Int):=by
  have h:=(mov_drop (fun _=>true) K K (List.filter_eq_self.2 fun _ _=>rfl).symm hn n hl).1;rw [List.filter_eq_self.2 fun _ _=>rfl,List.length_take,List.length_map,Nat.min_eq_left hl] at h;exact h
def wantF (M : Lst) (id : Int) : Bool:=decide (0 ≤ plcL M.1 id)
theorem want_snoc (M : Lst) {A : List Int} {j : Nat} (h : j < A.length) : (A.take (j + 1)).filter (wantF M) = (A.take j).filter (wantF M) ++ if 0 ≤ plcL M.1 (A.getD j 0) then [A.getD j 0] else []:=by
  rw [← yO (0 : Int) h,List.filter_append]
  congr 1
  unfold wantF;simp only [List.filter_cons,List.filter_nil,decide_eq_true_eq]
theorem want_le (M : Lst) (A : List Int) (j : Nat) : ((A.take j).filter (wantF M)).length ≤ j:=by
  have:=List.length_filter_le (wantF M) (A.take j);rw [List.length_take] at this;omega
theorem doL_miss {L : Lst} {id : Int} (h : atE L.1 id < 0) : doL L (2,id,[]) = L:=by
  unfold doL;rw [if_neg (show ¬ (2 : Int) = 1 by decide),if_pos rfl,if_pos h]
theorem del_yes (L : Lst) (id : Int) (h : ¬ atE L.1 id < 0) (hm : 0 ≤ L.2.2 ∧ L.2.2 ≤ 1000000) (hl : L.1.length ≤ 1000000) : qZ Tryz.prog 17 [.one (.own 0 0),ii .i64 id] (lsO L) 2 (.one (.lit .nilIface)) (lsO (doL L (2,id,[]))) 2:=by
  obtain ⟨i,hi,he,_,_⟩:=at_lt h;have hd:=lDel_ok L.1 L.2.1 L.2.2 id i hi he hm hl;have e1 : doL L (2,id,[]) = (delE L.1 i,L.2.1,L.2.2 - 1):=by
    unfold doL;rw [if_neg (show ¬ (2 : Int) = 1 by decide),if_pos rfl,if_neg h];show (delE L.1 (atE L.1 id).toNat,_) = _;rw [he,Int.toNat_natCast]
  rw [e1];exact hd
theorem wf_i64 {n : Int} (hw : (Lit.int .i64 n).wf = true) : -9223372036854775808 ≤ n ∧ n ≤ 9223372036854775807:=by
  simp [Lit.wf,IntKind.min,IntKind.max,IntKind.signed,IntKind.bits] at hw;omega
theorem Moves_big (t : ByteArray) (k : Int) (gone : List Int) (h : 2000 < t.size ∨ 20 < gone.length) : qT Tryz.prog 3 [is t,ii .i64 k,.one (.sl (.int .i64) gone)] (ib true):=by
  refine qS (rs:=[6]) Tryz.func3 rfl rfl rfl teOk rfl ?_;refine qC ?_;refine qB ?_;refine qC ?_;refine qC ?_;refine qB ?_;refine Or.inl ?_;refine zai (rfl) ?_;refine zei _ (zai (alive9_c) ?_);refine qK rfl (fun h21=>?_) (fun h21=>?_)
  ·try simp only [Bool.not_eq_true'] at h21
   try simp only [zds] at h21
   simp at h21
  ·try simp only [Bool.not_eq_false'] at h21
   try simp only [zds] at h21
   refine qM ?_;refine qC ?_;refine qC ?_;refine qB ?_;refine zai (fun h=>trivial) ?_;refine zai (fun h=>⟨⟨h,trivial⟩,trivial⟩) ?_;refine zai (fun h=>⟨⟨h,trivial⟩,trivial⟩) ?_;refine zai (by first|(intro h;rw [h];rfl)|(intro h;cases h)) ?_;refine qK rfl (fun h29=>?_) (fun h29=>?_)
   ·try simp only [decide_eq_true_eq,Bool.or_eq_true] at h29
    try simp only [zds] at h29
    refine qC ?_;refine qB ?_;refine qL ?_;rfl
   ·try simp only [decide_eq_false_iff_not,Bool.or_eq_false_iff,Int.not_lt] at h29
    try simp only [zds] at h29
    exfalso
    obtain ⟨g1,g2⟩:=h29;omega
theorem Moves_err (t : ByteArray) (k : Int) (gone : List Int) (h : ¬ (2000 < t.size ∨ 20 < gone.length)) {e : Int × Int} (hp : parseS t = .inl e) : qT Tryz.prog 3 [is t,ii .i64 k,.one (.sl (.int .i64) gone)] (ib true):=by
  have hof:=of_err t (by omega) (at_:=e.1) (n:=e.2) hp;refine qS (rs:=[6]) Tryz.func3 rfl rfl rfl teOk rfl ?_;refine qC ?_;refine qB ?_;refine qC ?_;refine qC ?_;refine qB ?_;refine Or.inl ?_;refine zai (rfl) ?_;refine zei _ (zai (alive9_c) ?_);refine qK rfl (fun h21=>?_) (fun h21=>?_)
  ·try simp only [Bool.not_eq_true'] at h21
   try simp only [zds] at h21
   simp at h21
  ·try simp only [Bool.not_eq_false'] at h21
   try simp only [zds] at h21
   refine qM ?_;refine qC ?_;refine qC ?_;refine qB ?_;refine zai (fun h=>trivial) ?_;refine zai (fun h=>⟨⟨h,trivial⟩,trivial⟩) ?_;refine zai (fun h=>⟨⟨h,trivial⟩,trivial⟩) ?_;refine zai (by first|(intro h;rw [h];rfl)|(intro h;cases h)) ?_;refine qK rfl (fun h29=>?_) (fun h29=>?_)
   ·try simp only [decide_eq_true_eq,Bool.or_eq_true] at h29
    try simp only [zds] at h29
    exfalso
    rcases h29 with g|g <;> omega
   ·try simp only [decide_eq_false_iff_not,Bool.or_eq_false_iff,Int.not_lt] at h29
    try simp only [zds] at h29
    refine qM ?_;refine qC ?_;refine qB ?_;refine Or.inl ?_;refine zai (rfl) ?_;refine zei _ (zai (hof) ?_);refine qC ?_;refine qC ?_;refine qB ?_;refine qK rfl (fun h36=>?_) (fun h36=>?_)
    ·skip
     refine qC ?_;refine qB ?_;refine qL ?_;rfl
    ·try simp only [zbq] at h36
     try simp only [zds] at h36
     simp at h36
theorem Moves_ok (t : ByteArray) (k : Int) (hk : -9223372036854775808 ≤ k ∧ k ≤ 9223372036854775807) (gone : List Int) (h : ¬ (2000 < t.size ∨ 20 < gone.length)) {l : List Itm} (hp : parseS t = .inr l) : qT Tryz.prog 3 [is t,ii .i64 k,.one (.sl (.int .i64) gone)] (ib true):=by
  have hof:=of_ok t (by omega) hp;have hlk:=of_lok (by omega) hp;have hsm:=num_small hp;obtain ⟨L,hL⟩ : ∃ L,ofT l = L:=⟨_,rfl⟩;have hsm : ∀ e ∈ L.1,SmallF e.1.2.2 ∧ e.1.2.2.length ≤ 40:=by rw [← hL];exact hsm
  rw [hL] at hof hlk;have hll:=hlk.len;obtain ⟨K,hK⟩ : ∃ K,stzL L.1 = K:=⟨_,rfl⟩;have hKi : K.map (·.1) = nmsL L.1:=by rw [← hK];exact stz_ids9 _
  have hKn : (K.map (·.1)).Nodup:=by rw [hKi];exact hlk.nd
  have hKl : K.length ≤ 9000:=by rw [← hK];exact Nat.le_trans (stzL_le _) hll
  obtain ⟨n,hn,hnl⟩:=skip_nat K.length k;have hnw:=(new_o (k:=1) (κ:=1) [[]] L.1 L.2.1 L.2.2 (by omega) hlk.flds (by decide) (by simp)).x;rw [fnd_all,hK] at hnw;have hsk:=skip_o [[]] K 0 k n hn (by omega) (by omega) hk;rw [Int.zero_add] at hsk;have hfd:=find_c (k:=1) [[]] L.1 L.2.1 L.2.2 (by omega) hsm;rw [fnd_ids,fnd_all,hK] at hfd;have hmv:=(move_o (k:=1) [[]] K n hnl L.1 L.2.1 L.2.2 (by omega) hlk.flds (by omega)).x;rw [fnd_all,hK,mov_same hKn hnl] at hmv;have hdl : (delS gone).length = gone.length:=List.length_map _;have hfl : ∀ e ∈ delS gone,xH e.2.2:=fun e he=>by rw [delS_mem he];exact ⟨by decide,by simp⟩
  have hMk:=plays_ok hlk hfl gone.length (by omega);have hMn:=nms_dels hlk gone gone.length (Nat.le_refl _);rw [List.take_length,← hKi] at hMn;obtain ⟨M,hM⟩ : ∃ M,plays L (delS gone) gone.length = M:=⟨_,rfl⟩;rw [hM] at hMk hMn;obtain ⟨K',hK'⟩ : ∃ K',stzL M.1 = K':=⟨_,rfl⟩;have hKi' : K'.map (·.1) = nmsL M.1:=by rw [← hK'];exact stz_ids9 _
  obtain ⟨d1,d2,d3⟩:=mov_drop _ K K' (hKi'.trans hMn) hKn n hnl;obtain ⟨p,hpp⟩ : ∃ p,(((K.map (·.1)).take n).filter fun j=>decide (j ∉ gone)).length = p:=⟨_,rfl⟩;rw [hpp] at d1 d2 d3;have hMl:=hMk.len;have hKl' : K'.length ≤ 10000:=by rw [← hK'];exact Nat.le_trans (stzL_le _) (by omega)
  have hmany : M.2.2 = (K'.length : Int):=by rw [hMk.many,← hKi',List.length_map]
  have hmv2:=(move_o (k:=1) [[]] K n hnl M.1 M.2.1 M.2.2 (by omega) hMk.flds (by omega)).x;rw [fnd_all,hK',d1] at hmv2;have hKf : ∀ x ∈ K',x.2.length ≤ 1000000:=fun x hx=>by
    rw [← hK'] at hx;obtain ⟨e,he,rfl⟩:=List.mem_map.1 hx;exact hMk.f1 e (List.mem_filter.1 he).1
  have hrs:=restA_o [[]] K' p d2 (by omega) hKf 0 (by omega);have hwant : ((K.map (·.1)).drop n).filter (wantF M) = (K'.drop p).map (·.1):=by
    rw [d3];refine List.filter_congr fun j hj=>?_
    unfold wantF;rw [plc_mem,hMn,decide_eq_decide,List.mem_filter,decide_eq_true_eq];exact ⟨fun h=>h.2,fun h=>⟨List.mem_of_mem_drop hj,h⟩⟩
  obtain ⟨A,hA⟩ : ∃ A,K.map (·.1) = A:=⟨_,rfl⟩;have hAl : A.length = K.length:=by rw [← hA,List.length_map]
  rw [hA] at hfd hwant;have hDl : (A.drop n).length = A.length - n:=List.length_drop;have hEl : (K'.drop p).length = K'.length - p:=List.length_drop;refine qS (rs:=[6]) Tryz.func3 rfl rfl rfl teOk rfl ?_;refine qC ?_;refine qB ?_;refine qC ?_;refine qC ?_;refine qB ?_;refine Or.inl ?_;refine zai (rfl) ?_;refine zei _ (zai (alive9_c) ?_);refine qK rfl (fun h21=>?_) (fun h21=>?_)
  ·try simp only [Bool.not_eq_true'] at h21
   try simp only [zds] at h21
   simp at h21
  ·try simp only [Bool.not_eq_false'] at h21
   try simp only [zds] at h21
   refine qM ?_;refine qC ?_;refine qC ?_;refine qB ?_;refine zai (fun h=>trivial) ?_;refine zai (fun h=>⟨⟨h,trivial⟩,trivial⟩) ?_;refine zai (fun h=>⟨⟨h,trivial⟩,trivial⟩) ?_;refine zai (by first|(intro h;rw [h];rfl)|(intro h;cases h)) ?_;refine qK rfl (fun h29=>?_) (fun h29=>?_)
   ·try simp only [decide_eq_true_eq,Bool.or_eq_true] at h29
    try simp only [zds] at h29
    exfalso
    rcases h29 with g|g <;> omega
   ·try simp only [decide_eq_false_iff_not,Bool.or_eq_false_iff,Int.not_lt] at h29
    try simp only [zds] at h29
    refine qM ?_;refine qC ?_;refine qB ?_;refine Or.inr (Or.inl (zei [] (zei [] (zei _ (zei _ (zei _ (zei _ (zei _ (zai (hof) (zai rfl (zai True.intro (zai rfl ?_))))))))))));refine qC ?_;refine qC ?_;refine qB ?_;refine qK rfl (fun h36=>?_) (fun h36=>?_)
    ·try simp only [Bool.not_eq_true'] at h36
     try simp only [zds] at h36
     simp at h36
    ·try simp only [Bool.not_eq_false'] at h36
     try simp only [zds] at h36
     refine qM ?_;refine qC ?_;refine qB ?_;refine Or.inr (Or.inr (Or.inr (zei [] (zei [] (zei _ (zei _ (zei _ (zei _ (zei _ (zai (hnw) (zai rfl (zai True.intro (zai rfl ?_)))))))))))));refine qC ?_;refine qB ?_;refine Or.inr (Or.inl (zei [] (zei [3] (zei _ (zei _ (zei _ (zei _ (zei _ (zai (hsk) (zai rfl (zai (zai (zai rfl rfl) True.intro) (zai rfl ?_))))))))))));refine qC ?_;show qX _ _ _ _ _ _ _ _ _;refine acode_frzat 1 4 0 ?_;refine zei _ (zei _ (zei _ (zei _ (zai rfl ?_))));refine Or.inr (Or.inr (Or.inl ?_));refine zai rfl ?_;refine zei _ (zai (hfd) ?_);refine qC ?_;refine qB ?_;refine Or.inr (Or.inr (Or.inr (zei [3] (zei [] (zei _ (zei _ (zei _ (zei _ (zei _ (zai (hmv) (zai rfl (zai (zai (zai rfl rfl) True.intro) (zai rfl ?_)))))))))))));refine qC ?_;refine qC ?_;refine qB ?_;refine Or.inl ?_;refine zai (rfl) ?_;refine zei _ (zai (curPlace_c [[]] K n) ?_);refine zai (fun h=>trivial) ?_;refine Or.inl ?_;refine zai (rfl) ?_;refine zei _ (zai (fun h=>⟨⟨⟨h,trivial⟩,trivial⟩,curLen_c [[]] K n⟩) ?_);refine zai (fun h=>trivial) ?_;refine zai (fun h=>⟨⟨h,trivial⟩,trivial⟩) ?_;refine zai (fun h=>⟨⟨h,trivial⟩,⟨h,trivial⟩,trivial⟩) ?_;refine zai (by first|(intro h;rw [h];rfl)|(intro h;cases h)) ?_;refine zai (fun h=>trivial) ?_;refine zai (fun h=>trivial) ?_;refine zai (fun h=>⟨⟨h,trivial⟩,trivial⟩) ?_;refine zai (fun h=>⟨⟨h,trivial⟩,⟨h,trivial⟩,trivial⟩) ?_;refine zai (by first|(intro h;rw [h];rfl)|(intro h;cases h)) ?_;refine zai (fun h=>trivial) ?_;refine zai (fun h=>⟨⟨h,trivial⟩,trivial⟩) ?_;refine zai (by first|(intro h;rw [h];rfl)|(intro h;cases h)) ?_;refine qK rfl (fun h70=>?_) (fun h70=>?_)
     ·try simp only [decide_eq_true_eq,decide_eq_false_iff_not,Bool.not_eq_true',Bool.or_eq_true] at h70
      try simp only [zds] at h70
      exfalso
      simp at h70;omega
     ·try simp only [decide_eq_true_eq,decide_eq_false_iff_not,Bool.not_eq_false',Bool.or_eq_false_iff,Int.not_lt] at h70
      try simp only [zds] at h70
      refine qM ?_;refine qC ?_;refine qB ?_;refine qC ?_;refine qC ?_;refine qB ?_;intro l15_1
      try simp only [zds] at l15_1
      refine qN ?_;refine yE (fun (i : Nat)=>i ≤ gone.length) (fun (i : Nat)=>[(7,.one (.own 0 0)),(9,.one (.own 3 0)),(10,ii .i64 n),(11,.one (.sl (.int .i64) A)),(12,.one (.vec 5)),(86,.one (.sl (.int .i64) gone)),(87,ii .i64 gone.length),(88,ii .i64 i)]) (fun (i : Nat)=>[(0,.box 108 [.vec 1,.lit (.int .i64 (plays L (delS gone) i).2.1),.lit (.int .i64 (plays L (delS gone) i).2.2)]),(1,.vec 112 rEnt (plays L (delS gone) i).1),(3,.box 116 [.sl (.sl yA) [[]],.sl rStz K,.lit (.int .i64 n)]),(5,.vec 3 (.int .i64) [])]) 6 (fun (i : Nat)=>gone.length - i) 0 (Nat.zero_le _) (qP ⟨rfl,rfl,rfl,rfl,rfl,rfl,rfl,rfl⟩ ⟨rfl,rfl,rfl,rfl⟩ rfl) ?_;intro i hI0;have hLi:=plays_ok hlk hfl i (by omega);refine qC ?_;refine qB ?_;refine qC ?_;refine qK rfl (fun h89=>?_) (fun h89=>?_)
      ·try simp only [decide_eq_true_eq] at h89
       try simp only [zds] at h89
       have hil : i < gone.length:=(by omega);have hsn:=plays_snoc L (show i < (delS gone).length by omega);rw [delS_get hil] at hsn;have hLl:=hLi.len;have hLm:=hLi.many;have hLc:=ids_len (plays L (delS gone) i).1;have hLf:=List.length_filter_le live (plays L (delS gone) i).1;refine qM ?_;refine qC ?_;refine qN ?_;refine qC ?_;refine qB ?_;refine zai (by first|omega|assumption|decide|(simp only [zds];omega)|(simp <;> omega)) ?_;rcases Decidable.em (atE (plays L (delS gone) i).1 (gone.getD i 0) < 0) with hat|hat
       ·refine qB ?_;refine Or.inr (Or.inl (zei [] (zei [0,1] (zei _ (zei _ (zei _ (zei _ (zei _ (zai (lDel_no (plays L (delS gone) i).1 (plays L (delS gone) i).2.1 (plays L (delS gone) i).2.2 (gone.getD i 0) hat) (zai rfl (zai (zai (zai rfl rfl) (zai (zai rfl rfl) True.intro)) (zai rfl ?_))))))))))));refine qB ?_;refine zai (by first|omega|assumption|decide|(simp only [zds];omega)|(simp <;> omega)) ?_;exact ⟨i + 1,by omega,by first|omega|(simp <;> omega),qP ⟨rfl,rfl,rfl,rfl,rfl,rfl,rfl,(yX (by omega))⟩ ⟨(lsbox_eq (hsn.trans (doL_miss hat))),(lsvec_eq (hsn.trans (doL_miss hat))),rfl,rfl⟩ rfl⟩
       ·refine qB ?_;refine Or.inr (Or.inl (zei [] (zei [0,1] (zei _ (zei _ (zei _ (zei _ (zei _ (zai (del_yes (plays L (delS gone) i) (gone.getD i 0) hat (by omega) (by omega)) (zai rfl (zai (zai (zai rfl rfl) (zai (zai rfl rfl) True.intro)) (zai rfl ?_))))))))))));refine qB ?_;refine zai (by first|omega|assumption|decide|(simp only [zds];omega)|(simp <;> omega)) ?_;exact ⟨i + 1,by omega,by first|omega|(simp <;> omega),qP ⟨rfl,rfl,rfl,rfl,rfl,rfl,rfl,(yX (by omega))⟩ ⟨(lsbox_eq hsn),(lsvec_eq hsn),rfl,rfl⟩ rfl⟩
      ·try simp only [decide_eq_false_iff_not,Int.not_lt] at h89
       try simp only [zds] at h89
       refine yI ?_;have hie : i = gone.length:=(by omega);subst hie;rw [hM];refine qC ?_;refine qC ?_;refine qB ?_;refine zai (by first|omega|assumption|decide|(simp only [zds];omega)|(simp <;> omega)) ?_;intro l20_3
       try simp only [Int.toNat_natCast] at l20_3
       refine qN ?_;refine yE (fun (j : Nat)=>j ≤ (A.drop n).length) (fun (j : Nat)=>[(7,.one (.own 0 0)),(9,.one (.own 3 0)),(12,.one (.vec 5)),(98,.one (.sl (.int .i64) (A.drop n))),(99,ii .i64 (A.drop n).length),(100,ii .i64 j)]) (fun (j : Nat)=>[(0,.box 108 [.vec 1,.lit (.int .i64 M.2.1),.lit (.int .i64 M.2.2)]),(1,.vec 112 rEnt M.1),(3,.box 116 [.sl (.sl yA) [[]],.sl rStz K,.lit (.int .i64 n)]),(5,.vec 3 (.int .i64) (((A.drop n).take j).filter (wantF M)))]) 6 (fun (j : Nat)=>(A.drop n).length - j) 0 (Nat.zero_le _) (qP ⟨rfl,rfl,rfl,rfl,rfl,rfl⟩ ⟨rfl,rfl,rfl,rfl⟩ rfl) ?_;intro j hI2;refine qC ?_;refine qB ?_;refine qC ?_;refine qK rfl (fun h101=>?_) (fun h101=>?_)
       ·try simp only [decide_eq_true_eq] at h101
        try simp only [zds] at h101
        have hjl : j < (A.drop n).length:=(by omega);have hws:=want_snoc M hjl;have hwl:=want_le M (A.drop n) j;refine qM ?_;refine qC ?_;refine qN ?_;refine qC ?_;refine qB ?_;refine zai (by first|omega|assumption|decide|(simp only [zds];omega)|(simp <;> omega)) ?_;refine qC ?_;refine qB ?_;refine Or.inr (Or.inr (Or.inl ?_));refine zai rfl ?_;refine zei _ (zai (placeL_c M.1 M.2.1 M.2.2 ((A.drop n).getD j 0) (by omega)) ?_);refine qK rfl (fun h107=>?_) (fun h107=>?_)
        ·try simp only [decide_eq_true_eq] at h107
         try simp only [zds] at h107
         refine qB ?_;refine zai (by first|exact qQ (by first|omega|(simp only [List.length_cons,List.length_nil];omega)|(simp;omega)) (by decide)|omega|assumption|decide|(simp only [zds];omega)|(simp <;> omega)) ?_;refine qB ?_;refine zai (by first|omega|assumption|decide|(simp only [zds];omega)|(simp <;> omega)) ?_;exact ⟨j + 1,by omega,by first|omega|(simp <;> omega),qP ⟨rfl,rfl,rfl,rfl,rfl,(yX (by omega))⟩ ⟨rfl,rfl,rfl,(qY (by rw [hws,if_pos (by omega)];try exact rfl))⟩ rfl⟩
        ·try simp only [decide_eq_false_iff_not,Int.not_le] at h107
         try simp only [zds] at h107
         refine qM ?_;refine qB ?_;refine zai (by first|omega|assumption|decide|(simp only [zds];omega)|(simp <;> omega)) ?_;exact ⟨j + 1,by omega,by first|omega|(simp <;> omega),qP ⟨rfl,rfl,rfl,rfl,rfl,(yX (by omega))⟩ ⟨rfl,rfl,rfl,(qY (by rw [hws,if_neg (by omega),List.append_nil]))⟩ rfl⟩
       ·try simp only [decide_eq_false_iff_not,Int.not_lt] at h101
        try simp only [zds] at h101
        refine yI ?_;have hje : (A.drop n).take j = A.drop n:=(List.take_of_length_le (by omega));rw [hje];refine qC ?_;refine qB ?_;refine Or.inr (Or.inr (Or.inr (zei [3] (zei [] (zei _ (zei _ (zei _ (zei _ (zei _ (zai (hmv2) (zai rfl (zai (zai (zai rfl rfl) True.intro) (zai rfl ?_)))))))))))));refine qC ?_;refine qB ?_;refine qC ?_;refine qC ?_;refine qB ?_;refine Or.inr (Or.inl (zei [] (zei [3] (zei _ (zei _ (zei _ (zei _ (zei _ (zai (hrs) (zai rfl (zai (zai (zai rfl rfl) True.intro) (zai rfl ?_))))))))))));intro l28_2
        try simp only [zds] at l28_2
        refine qN ?_;refine yE (fun (j : Nat)=>j ≤ (K'.drop p).length) (fun (j : Nat)=>[(7,.one (.own 0 0)),(9,.one (.own 3 0)),(12,.one (.vec 5)),(17,.one (.vec 6)),(118,.one (.sl rStz (K'.drop p))),(119,ii .i64 (K'.drop p).length),(120,ii .i64 j)]) (fun (j : Nat)=>[(0,.box 108 [.vec 1,.lit (.int .i64 M.2.1),.lit (.int .i64 M.2.2)]),(1,.vec 112 rEnt M.1),(3,.box 116 [.sl (.sl yA) [[]],.sl rStz K',.lit (.int .i64 K'.length)]),(5,.vec 3 (.int .i64) ((A.drop n).filter (wantF M))),(6,.vec 3 (.int .i64) (((K'.drop p).take j).map (·.1)))]) 7 (fun (j : Nat)=>(K'.drop p).length - j) 0 (Nat.zero_le _) (qP ⟨rfl,rfl,rfl,rfl,rfl,rfl,rfl⟩ ⟨rfl,rfl,rfl,rfl,rfl⟩ rfl) ?_;intro j hI4;refine qC ?_;refine qB ?_;refine qC ?_;refine qK rfl (fun h121=>?_) (fun h121=>?_)
        ·try simp only [decide_eq_true_eq] at h121
         try simp only [zds] at h121
         have hjl : j < (K'.drop p).length:=(by omega);refine qM ?_;refine qC ?_;refine qN ?_;refine qC ?_;refine qB ?_;refine zai (by first|omega|assumption|decide|(simp only [zds];omega)|(simp <;> omega)) ?_;refine qB ?_;refine zai (by exact qQ (show (((K'.drop p).take j).map (·.1)).length + 1 ≤ 1000000000 by rw [List.length_map,List.length_take];omega) (by decide)) ?_;refine qB ?_;refine zai (by first|omega|assumption|decide|(simp only [zds];omega)|(simp <;> omega)) ?_;exact ⟨j + 1,by omega,by first|omega|(simp <;> omega),qP ⟨rfl,rfl,rfl,rfl,rfl,rfl,(yX (by omega))⟩ ⟨rfl,rfl,rfl,rfl,(qY (by rw [← yO ((0 : Int),([] : List Fld)) hjl,List.map_append];exact rfl))⟩ rfl⟩
        ·try simp only [decide_eq_false_iff_not,Int.not_lt] at h121
         try simp only [zds] at h121
         refine yI ?_;have hje : (K'.drop p).take j = K'.drop p:=(List.take_of_length_le (by omega));rw [hje,hwant];refine qC ?_;refine qB ?_;refine Or.inr (Or.inr (Or.inl ?_));refine zai rfl ?_;refine zei _ (zai (ints19_c (κ:=1) (κ':=1) _ _) ?_);refine zai (fun h=>trivial) ?_;refine Or.inl ?_;refine zai (rfl) ?_;refine zei _ (zai (fun h=>⟨⟨⟨h,trivial⟩,trivial⟩,curLen_c [[]] K' K'.length⟩) ?_);refine zai (fun h=>trivial) ?_;refine Or.inl ?_;refine zai (rfl) ?_;refine zei _ (zai (fun h=>⟨⟨⟨h,trivial⟩,trivial⟩,len_c M.1 M.2.1 M.2.2⟩) ?_);refine zai (fun h=>⟨⟨h,trivial⟩,⟨h,trivial⟩,trivial⟩) ?_;refine zai (by exact fun h=>h) ?_;refine qL ?_;exact ib_eq (by simp at *;omega)
theorem CursorMoves_c (t : ByteArray) (k : Int) (gone : List Int) (hk : -9223372036854775808 ≤ k ∧ k ≤ 9223372036854775807) : qT Tryz.prog 3 [is t,ii .i64 k,.one (.sl (.int .i64) gone)] (ib true):=by
  by_cases h : 2000 < t.size ∨ 20 < gone.length
  · exact Moves_big t k gone h
  · rcases hp : parseS t with e|l
    · exact Moves_err t k gone h hp
    · exact Moves_ok t k hk gone h hp
end Q
end Ab
end Go.Proofs.YtbfhpimmlehkcaaGreatDoor
namespace Go.Proofs.YtbfhpimmlehkcaaGreatDoor
open Go.RowKit
namespace Ab
set_option maxRecDepth 100000
theorem o_int : Opens Tryz.prog 3 (.int .i64):=opens_int Tryz.underlying3 (by kernel_rfl)
theorem maxAt {W : World} (h : W.ShapedOpen Tryz.prog) : MaxCell W:=cell_of_shapedOpen_int (g:=1) (t:=3) (zero:=#[.int .i64 0]) h (of_decide_eq_true (by kernel_rfl)) (by kernel_rfl) rfl (by kernel_rfl) (by kernel_rfl) Tryz.underlying3
theorem lt_of_cell0 {W : World} {b : Nat} {v : Value} (h : W.cell? ⟨b,0,none⟩ = some v) : b < W.heap.size:=by
  rcases Nat.lt_or_ge b W.heap.size with h1|h1
  · exact h1
  · exfalso
    simp only [World.cell?,Array.getElem?_eq_none h1] at h;cases h
theorem errAny {W : World} (h : W.ShapedOpen Tryz.prog) : ∃ v,W.cell? ⟨0,0,none⟩ = some v:=by
  obtain ⟨cs,hh,hs,_⟩:=h.1 0 #[.nilIface] 265 (of_decide_eq_true (by kernel_rfl)) (by kernel_rfl);have h1 : 0 < cs.size:=by rw [hs];decide
  exact ⟨cs[0],by simp [World.cell?,hh,h1]⟩
theorem globAt {W : World} (h : W.ShapedOpen Tryz.prog) : GlobAt AllOk W:=by
  obtain ⟨m,hm⟩:=maxAt h;obtain ⟨v,hv⟩:=errAny h;refine ⟨fun _ _=>trivial,?_,⟨m,hm⟩,v,hv⟩;have h1:=lt_of_cell0 hm;have h2:=lt_of_cell0 hv;unfold nGlob;omega
end Ab
end Go.Proofs.YtbfhpimmlehkcaaGreatDoor
namespace Go.Proofs.YtbfhpimmlehkcaaGreatDoor
open Go.RowKit
namespace Ab
set_option maxRecDepth 100000
theorem o_ints : Opens Tryz.prog 22 (.sl (.int .i64)):=opens_sl (by decide) Tryz.underlying22 (by kernel_rfl) o_int
theorem open_ints {H : Type} {enc : TypeId × Value → H} {W : World} {base : Nat} {v : Value} {d : DataW H} {p : List MemPlace} (hv : Value.okWide Tryz.prog W .any base 22 v) (h : DataW.Trod enc Tryz.prog W 0 (fun _=>true) true 22 v d p) :
    ∃ xs,(C.sl (.int .i64) xs).rep AllOk qV W v:=open_sl Tryz.underlying22 o_ints hv h
end Ab
end Go.Proofs.YtbfhpimmlehkcaaGreatDoor
namespace Go.Proofs.YtbfhpimmlehkcaaGreatDoor
open Go.RowKit
namespace Ab
set_option maxRecDepth 100000
end Ab
end Go.Proofs.YtbfhpimmlehkcaaGreatDoor
