/-
  The texts of this proof, joined: abstract values, the library, the functions of the program and what they compute (part 5). No condition.
-/
import Derived.Lib.UnsafeStr
import Derived.Shelf.RegionOpenPlain
import Derived.Shelf.Spec.SlicesInsert
import Derived.Lib.AppendZerosOnto
import Derived.Laws.NewBlocks
import Derived.Test.YtojipboabgebfaaGreatDoorK1
import Derived.Test.YtojipboabgebfaaGreatDoorK2
import Derived.Test.YtojipboabgebfaaGreatDoorK3
import Derived.Test.YtojipboabgebfaaGreatDoorK4
namespace Go.Proofs.YtojipboabgebfaaGreatDoor
open Go.RowKit
namespace Ab
set_option maxRecDepth 100000
set_option maxHeartbeats 2000000
namespace Q
abbrev z4 : List Value:=[.int .i64 0,.string ⟨#[]⟩,.slice none 0 0,.int .i64 0]
theorem step_append_runI {P : Program} {ops : Array Oper} {o : Oper} {a : Act} {w : World} {K : Act → World → Prop} {Q : Exit → Act → World → Prop} {E : Prop}
    (hg : o.guard = none) (d x : Operand) (dT sT : TypeId) (hop : o.op = Op.call { callee:=Callee.builtin Builtin.append,args:=#[d,x],argTypes:=#[dT,sT] })
    (v u : Value) (hd : a.eval d = v) (hx : a.eval x = u) {v' : Value} {w' : World} (hr : (Builtin.append_ #[dT,sT] o.type #[v,u]).run P w = .ok v' w') (hK : K (a.put o.dst v') w') :
    if Region.wanted o (yielded ops a.tmps) = true then Oper.wp P o a w K Q else E:=by
  have hw : Region.wanted o (yielded ops a.tmps) = true:=by simp [Region.wanted,hg]
  rw [if_pos hw];unfold Oper.wp;simp [execOp,hop,resolve,invoke,builtin,hd,hx,hr,Result.andThen];exact hK
theorem wpList_clear_runI {P : Program} (w : World) {ops : Array Oper} {rest : List Oper} {o : Oper} {a : Act} {Q : Exit → Act → World → Prop} (hgd : o.guard = none) (d : Operand) (t : TypeId)
    (ho : o.op = .call { callee:=.builtin .clear,args:=#[d],argTypes:=#[t] }) (v : Value) (hd : a.eval d = v) {v' : Value} {w' : World}
    (hr : (Builtin.clear_ #[t] o.type #[v]).run P w = .ok v' w') (h : wpList P ops Q rest (a.put o.dst v') w') : wpList P ops Q (o :: rest) a w :=
  wpList_plain hgd fun K hK=>by
    unfold Oper.wp execOp;simp only [ho,resolve,invoke,builtin,Sem.run_bind,Sem.run_pure,Result.andThen_ok,List.map_toArray,List.map_cons,List.map_nil,hd,hr];exact hK _ _ h
theorem zs_len {P : Program} {t : TypeId} {i : TyI} (h : TyOk P t i) (n : Nat) : (Builtin.zeroCells i.zeroV.cells n).toList.length = n * i.size:=by
  rw [Array.length_toList,size_zeroCells,h.zeroCells,List.size_toArray,h.zlen]
theorem zs_one {P : Program} {t : TypeId} {i : TyI} (h : TyOk P t i) (n : Nat) : ∀ v ∈ (Builtin.zeroCells i.zeroV.cells n).toList,v.oneCell' = true:=by
  intro v hv;unfold Builtin.zeroCells at hv;rw [h.zeroCells] at hv;simp only [Array.toList_map,Array.toList_range,List.mem_map,List.mem_range,List.size_toArray] at hv;obtain ⟨k,hk,rfl⟩:=hv;have hlt : k % i.zero.length < i.zero.length:=Nat.mod_lt _ (by
    rcases Nat.eq_zero_or_pos i.zero.length with h0|h0
    · rw [h0,Nat.mul_zero] at hk;omega
    · exact h0)
  have e : (i.zero.toArray)[k % i.zero.length]! = i.zero[k % i.zero.length]:=by simp [hlt]
  rw [e];exact plain_one (h.zplain _ (List.getElem_mem hlt))
theorem run_clear_row {P : Program} {t e ty : TypeId} {ei : TyI} (ht : P.underlying t = some (.slice e)) (he : TyOk P e ei) (w : World) (b o n c : Nat) {cur : Array Value} {T : TypeId} (hb : w.heap[b]? = some (.cells cur T (0,0))) (hn : 0 < n) (hfit : o + n * ei.size ≤ cur.size) :
    (Builtin.clear_ #[t] ty #[.slice (some ⟨b,o,none⟩) n c]).run P w = .ok (.tuple #[]) (w.setRow b (cur.toList.take o ++ (Builtin.zeroCells ei.zeroV.cells n).toList ++ cur.toList.drop (o + n * ei.size)).toArray):=by
  have hst:=run_storeCells_at P b o T (Builtin.zeroCells ei.zeroV.cells n).toList 0 cur w hb (by rw [zs_len he];omega) (zs_one he n);simp only [Nat.add_zero,zs_len he] at hst;obtain ⟨m,rfl⟩ : ∃ m,n = m + 1:=⟨n - 1,by omega⟩;simp [Builtin.clear_,run_underlying ht,he.zeroValue,hst]
theorem tyEnt : TyOk Tryz.prog 138 ty138:=tyOk138
theorem del_w (b cap n i j : Nat) (cur : Array Value) (w : World) (hb : w.heap[b]? = some (.cells cur 138 (0,0))) (hcs : cur.size = cap * 4) (hnc : n ≤ cap) (_hcm : cap ≤ maxLen) (hij : i < j) (hj : j ≤ n) (h1 : ∀ v ∈ cur.toList.take (n * 4),v.oneCell' = true) :
    Calls Tryz.prog 90 #[.slice (some ⟨b,0,none⟩) n cap,.int .i64 i,.int .i64 j] w fun e w'=>e = .returned (.slice (some ⟨b,0,none⟩) (n - (j - i)) cap) ∧ ∃ cur',Grew w w' (some b) ∧ w'.heap[b]? = some (.cells cur' 138 (0,0)) ∧ cur'.size = cap * 4 ∧ cur'.toList.take ((n - (j - i)) * 4) = cur.toList.take (i * 4) ++ (cur.toList.drop (j * 4)).take ((n - j) * 4):=by
  have mixed : Tryz.prog.follows .mixedOrders = true:=by kernel_rfl
  have hic : i ≤ cap:=by omega
  have hjc : j ≤ cap:=by omega
  obtain ⟨news,hnews⟩ : ∃ news,(cur.toList.drop (j * 4)).take ((n - j) * 4) = news:=⟨_,rfl⟩;have hlen : news.length = (n - j) * 4:=by
    rw [← hnews,List.length_take,List.length_drop,Array.length_toList,hcs];have : (n - j) * 4 ≤ cap * 4 - j * 4:=by omega
    omega
  obtain ⟨i0,hi0,hz0,hz1,hz2⟩:=tyEnt.info;obtain ⟨A,hA,hsrc⟩ : ∃ A : Addr,(if cap = j then (some ⟨b,0,none⟩ : Option Addr) else some ⟨b,j * 4,none⟩) = some A ∧ (∀ t u,news[t]? = some u → w.drew.cell? (A.add t) = some u):=by
    by_cases h : cap = j
    · refine ⟨_,if_pos h,fun t u hu=>?_⟩;have h0 : news.length = 0:=by rw [hlen];omega
      rw [List.length_eq_zero_iff.1 h0] at hu;simp at hu
    · refine ⟨_,if_neg h,fun t u hu=>?_⟩;have ht:=(List.getElem?_eq_some_iff.1 hu).1;rw [← hnews,List.getElem?_take_of_lt (by omega),List.getElem?_drop] at hu;rw [Go.WideShapes.add_plain];show w.cell? _ = _;simp only [World.cell?,hb,Option.isSome_none,Bool.false_eq_true,if_false];rw [← hu];simp
  have hone : ∀ u ∈ news,u.oneCell' = true:=by
    intro u hu;rw [← hnews,show (n - j) * 4 = n * 4 - j * 4 by omega,← List.drop_take] at hu;exact h1 u (List.mem_of_mem_drop hu)
  obtain ⟨cur1,hcur1⟩ : ∃ c : Array Value,(cur.toList.take (i * 4) ++ news ++ cur.toList.drop (i * 4 + news.length)).toArray = c:=⟨_,rfl⟩;have hsz1 : cur1.size = cap * 4:=by
    rw [← hcur1];simp only [List.size_toArray,List.length_append,List.length_take,List.length_drop,Array.length_toList,hcs,hlen];omega
  obtain ⟨W1,hW1⟩ : ∃ W1,w.drew.setRow b cur1 = W1:=⟨_,rfl⟩;have hap : ∀ ty,(Builtin.append_ #[132,132] ty #[.slice (some ⟨b,0,none⟩) i cap,.slice (some A) (n - j) (cap - j)]).run Tryz.prog w.drew = .ok (.slice (some ⟨b,0,none⟩) (i + (n - j)) cap) W1:=by
    intro ty;have:=run_append_room (P:=Tryz.prog) w.drew 132 ty 138 i0 Tryz.underlying132 hi0 b i cap cur hb A (n - j) (cap - j) news (by rw [hlen,hz0];rfl) hsrc hone (by omega) (by rw [hz0,hlen,hcs];show i * 4 + _ ≤ _;omega);rw [show i0.size = 4 from hz0,hcur1,hW1] at this;exact this
  have hb1 : W1.heap[b]? = some (.cells cur1 138 (0,0)):=by rw [← hW1];exact setRow_heap w.drew b cur cur1 _ _ hb
  have hk : i + (n - j) < n:=by omega
  have hkc : ¬ cap = i + (n - j):=by omega
  obtain ⟨W2,cur2,hW2,hcl⟩ : ∃ W2 cur2,W2 = W1.setRow b cur2 ∧ cur2.size = cap * 4 ∧ cur2.toList.take ((i + (n - j)) * 4) = cur1.toList.take ((i + (n - j)) * 4) ∧ ∀ ty,(Builtin.clear_ #[132] ty #[.slice (some ⟨b,(i + (n - j)) * 4,none⟩) (n - (i + (n - j))) (cap - (i + (n - j)))]).run Tryz.prog W1 = .ok (.tuple #[]) W2:=by
    have hz:=zs_len tyEnt (n - (i + (n - j)));have hz4 : ty138.size = 4:=rfl;rw [hz4] at hz;refine ⟨_,_,rfl,?_,?_,fun ty=>run_clear_row Tryz.underlying132 tyEnt W1 b _ _ _ hb1 (by omega) (by rw [hsz1,hz4];omega)⟩
    · simp only [List.size_toArray,List.length_append,List.length_take,List.length_drop,Array.length_toList,hsz1,hz,hz4];omega
    · rw [List.append_assoc,List.take_append_of_le_length (by rw [List.length_take,Array.length_toList,hsz1];omega),List.take_take,Nat.min_self]
  obtain ⟨hsz2,htk,hcl⟩:=hcl;have fin : W2.heap[b]? = some (.cells cur2 138 (0,0)) ∧ Grew w W2 (some b):=by
    rw [hW2];exact ⟨setRow_heap W1 b cur1 cur2 _ _ hb1,by rw [← hW1,setRow_setRow];exact ⟨rfl,rfl,rfl,by simp,fun k hk hne=>setRow_other w.drew b k _ (fun e=>hne (by rw [e]))⟩⟩
  have hres : cur2.toList.take ((i + (n - j)) * 4) = cur.toList.take (i * 4) ++ news:=by
    rw [htk,← hcur1,List.take_append_of_le_length (by simp only [List.length_append,List.length_take,Array.length_toList,hcs,hlen];omega),List.take_of_length_le (by simp only [List.length_append,List.length_take,Array.length_toList,hcs,hlen];omega)]
  have hnn : n - (j - i) = i + (n - j):=by omega
  rw [hnn];rw [← hnews] at hres;clear hW2 hW1 htk hcur1 hb hb1 hsrc hone hlen hnews h1
  go_enter Tryz.func90,Tryz.ntmps90
  go_wp2
  go_region_law_o (refine step_append_runI rfl (.tmp 22) (.tmp 25) 132 132 rfl (.slice (some ⟨b,0,none⟩) i cap) (.slice (some A) (n - j) (cap - j)) (by simp [Act.eval,Act.put]) (by simp [Act.eval,Act.put]) (hap _) ?_)
  go_wp2_with (at_builtin;refine wpList_clear_runI _ rfl _ _ rfl _ rfl (hcl _) ?_)
  go_ret
  exact ⟨rfl,cur2,fin.2,fin.1,hsz2,hres⟩
end Q
end Ab
end Go.Proofs.YtojipboabgebfaaGreatDoor
namespace Go.Proofs.YtojipboabgebfaaGreatDoor
open Go.RowKit
namespace Ab
set_option maxRecDepth 100000
set_option maxHeartbeats 4000000
namespace Q
def RowTo (w w' : World) (v u : Value) (n : Nat) (cs : List Value) : Prop :=
  w'.ownsRow 0 138 4 u n cs ∧ Grew w w' (blk (some v)) ∧ (∀ b,blk (some u) = some b → blk (some v) = some b ∨ (w.heap.size ≤ b ∧ b < w'.heap.size)) ∧ ∃ a n c,u = .slice a n c
theorem rowCells {w : World} {b n cap : Nat} {cs : List Value} (h : w.ownsRow 0 138 4 (.slice (some ⟨b,0,none⟩) n cap) n cs) : ∃ cur,w.heap[b]? = some (.cells cur 138 (0,0)) ∧ n ≤ cap ∧ cap ≤ maxLen ∧ cur.size = cap * 4 ∧ cur.toList.take (n * 4) = cs ∧ cs.length = n * 4:=by
  rcases h.2 with ⟨h0,_⟩|⟨g,c,cur,hsl,_,hg,hnc,hcm,hcs,htake⟩
  · cases h0
  · injection hsl with e1 e2 e3
    injection e1 with e1
    injection e1 with e1 _ _
    subst e1 e3;exact ⟨cur,hg,hnc,hcm,hcs,htake,h.1⟩
theorem take4 {α : Type} (l : List α) (a b : Nat) (h : a ≤ b) : (l.take b).take a = l.take a:=by rw [List.take_take,Nat.min_eq_left h]
end Q
end Ab
end Go.Proofs.YtojipboabgebfaaGreatDoor
namespace Go.Proofs.YtojipboabgebfaaGreatDoor
open Go.RowKit
namespace Ab
set_option maxRecDepth 100000
namespace Q
theorem flat_take {n : Nat} : ∀ (css : List (List Value)) (k : Nat),(∀ c ∈ css,c.length = n) → (css.take k).flatten = css.flatten.take (k * n)
  | [],_,_=>by simp
  | c :: r,0,_=>by simp
  | c :: r,k + 1,h=>by
    have h0 : c.length = n:=h c (by simp);have ih:=flat_take r k fun d hd=>h d (by simp [hd])
    rw [List.take_succ_cons,List.flatten_cons,List.flatten_cons,ih,Nat.add_mul,Nat.one_mul,Nat.add_comm (k * n) n]
    conv=>rhs;rw [← h0]
    rw [List.take_length_add_append,h0]
theorem flat_drop {n : Nat} : ∀ (css : List (List Value)) (k : Nat),(∀ c ∈ css,c.length = n) → (css.drop k).flatten = css.flatten.drop (k * n)
  | [],_,_=>by simp
  | c :: r,0,_=>by simp
  | c :: r,k + 1,h=>by
    have h0 : c.length = n:=h c (by simp);have ih:=flat_drop r k fun d hd=>h d (by simp [hd])
    rw [List.drop_succ_cons,List.flatten_cons,ih,Nat.add_mul,Nat.one_mul,Nat.add_comm (k * n) n,← List.drop_drop,← h0,List.drop_left,h0]
section
variable {cx : Cx} {ob : Obs} {nx : Nat} {ρ : Nat → Option Value} {w w' : World}
theorem ent_lens {ok : Oks} {xs : List Ent} {css : List (List Value)} (h1 : css.length = xs.length) (h2 : ∀ i (h : i < xs.length),rEnt.is ok w (css.getD i []) xs[i]) : ∀ c ∈ css,c.length = 4:=css_lens h1 h2
theorem ent_ones {ok : Oks} {xs : List Ent} {css : List (List Value)} (h1 : css.length = xs.length) (h2 : ∀ i (h : i < xs.length),rEnt.is ok w (css.getD i []) xs[i]) : ∀ v ∈ css.flatten,v.oneCell' = true:=css_ones h1 h2
theorem row_st (hs : StOk cx [] ob nx ρ ⟨#[],[]⟩ w) {xs xs' : List Ent} (hg : getO ob 0 = some (.vec 138 rEnt xs)) {v u : Value} (hv : ρ 0 = some v) {css' : List (List Value)} (hl : css'.length = xs'.length)
    (hR : ∀ i (h : i < xs'.length),rEnt.is (okOf cx ρ ob) w (css'.getD i []) xs'[i]) (hrow : RowTo w w' v u xs'.length css'.flatten) :
    ∃ ρ',StOk cx [] (setO 0 (.vec 138 rEnt xs') (subOb 0 .any ob)) nx ρ' ⟨#[],[]⟩ w' ∧ (C.vec 0).rep (okOf cx ρ' (setO 0 (.vec 138 rEnt xs') (subOb 0 .any ob))) ρ' w' u:=by
  obtain ⟨h1,h2,h3,h4⟩:=hrow;rw [← hv] at h2;have h3' : ∀ b,blk (some u) = some b → blk (ρ 0) = some b ∨ (w.heap.size ≤ b ∧ b < w'.heap.size):=by rw [hv];exact h3
  have hkp:=okOf_swap (o':=.vec 138 rEnt xs') hs hg h2 (fun b hb=>(h3' b hb).imp (fun h=>h) (·.1));refine ⟨upd ρ 0 u,hs.swap hg h2 h3' ⟨u,yT,css',hl,fun i hi=>Rd.kept _ hkp (hR i hi),h1⟩,yT,h4⟩
end
theorem getD_app {α : Type} (a b : List α) (i : Nat) (d : α) : (a ++ b).getD i d = if i < a.length then a.getD i d else b.getD (i - a.length) d:=by
  simp only [List.getD_eq_getElem?_getD];split
  · rename_i h;rw [List.getElem?_append_left h]
  · rename_i h;rw [List.getElem?_append_right (by omega)]
theorem delete_x (xs : List Ent) (i j : Nat) (hij : i < j) (hj : j ≤ xs.length) : ACallX Tryz.prog 90 [.one (.vec 0),ii .i64 i,ii .i64 j] [(0,.vec 138 rEnt xs)] 1 (.one (.vec 0)) [(0,.vec 138 rEnt (xs.take i ++ xs.drop j))] 1 []:=by
  refine ⟨⟨_,Tryz.func90,rfl,rfl⟩,fun cx ρ w vs _ _ _ hs hvs=>?_⟩;obtain ⟨v,r1,rfl,⟨hv,_⟩,vi,r2,rfl,hvi,vj,r3,rfl,hvj,hr3⟩:=hvs;rw [show r3 = [] from hr3,show vi = _ from hvi,show vj = _ from hvj];obtain ⟨v',hv',css,h1,h2,hown⟩ : ∃ v,ρ 0 = some v ∧ VecOk (okOf cx ρ [(0,.vec 138 rEnt xs)]) w v 138 rEnt xs:=hs.obs (0,.vec 138 rEnt xs) (by simp);rw [hv] at hv';obtain rfl:=Option.some.inj hv';have hfl:=ent_lens h1 h2;have hon:=ent_ones h1 h2;rcases id hown.2 with ⟨_,h0⟩|⟨b,cap,cur,rfl,_⟩
  · omega
  obtain ⟨cur,hb,hnc,hcm,hcz,htk,hcl⟩:=rowCells hown;refine (del_w b cap xs.length i j cur w hb hcz hnc hcm hij hj (by rw [htk];exact hon)).mono ?_
  rintro e w' ⟨rfl,cur',hgr,hb',hcz',hrow⟩
  have hnl : xs.length - (j - i) = (xs.take i ++ xs.drop j).length:=by rw [List.length_append,List.length_take,List.length_drop];omega
  have hf : (css.take i ++ css.drop j).flatten = cur.toList.take (i * 4) ++ (cur.toList.drop (j * 4)).take ((xs.length - j) * 4):=by
    rw [List.flatten_append,flat_take css i hfl,flat_drop css j hfl,← htk,take4 _ _ _ (by omega),List.drop_take]
    congr 2
    omega
  have hown' : w'.ownsRow 0 138 4 (.slice (some ⟨b,0,none⟩) (xs.length - (j - i)) cap) (xs.length - (j - i)) (css.take i ++ css.drop j).flatten:=by
    rw [hf,← hrow];have hcl' : cur'.toList.length = cap * 4:=by simpa using hcz'
    exact ⟨by rw [List.length_take,hcl'];omega,.inr ⟨b,cap,cur',rfl,Nat.zero_le _,hb',by omega,hcm,hcz',rfl⟩⟩
  rw [hnl] at hown' ⊢;obtain ⟨ρ',h3,h4⟩:=row_st (xs':=xs.take i ++ xs.drop j) (css':=css.take i ++ css.drop j) (u:=.slice (some ⟨b,0,none⟩) (xs.take i ++ xs.drop j).length cap) hs rfl hv (by simp [h1]) (fun k hk=>by
    rw [List.length_append,List.length_take,List.length_drop] at hk;rw [getD_app,List.getElem_append];simp only [List.length_take,h1];split
    · rename_i hlt;have:=h2 k (by omega);rw [List.getElem_take];rw [List.getD_eq_getElem?_getD] at this ⊢;rw [List.getElem?_take_of_lt (by omega)];exact this
    · rename_i hlt;have:=h2 (j + (k - min i xs.length)) (by omega);rw [List.getElem_drop];rw [List.getD_eq_getElem?_getD] at this ⊢;rw [List.getElem?_drop];exact this) ⟨hown',hgr,fun _ h=>.inl h,_,_,_,rfl⟩
  exact ⟨_,ρ',rfl,h3,h4,fun k hk=>by cases hk⟩
theorem cloneE_o {k : Nat} (es : List Ent) (hl : es.length ≤ 1000000) : qW Tryz.prog 108 [.one (.slk k rEnt es)] [] 0 (.one (.vec 0)) [(0,.vec 138 rEnt es)] 1:=by
  refine qU (rs:=[2]) Tryz.func108 rfl rfl rfl teOk (by decide) rfl ?_;refine qD ?_;refine qB ?_;refine qD ?_;refine qD ?_;refine acode_isnil (q:=k) [_] _ (R:=rEnt) (xs:=es) rfl rfl rfl rfl (e:=138) rfl rfl ?_;refine ⟨rfl,fun b hb=>?_⟩;refine qM rfl (fun h4=>?_) (fun h4=>?_)
  ·have hl0:=hb h4;subst hl0;refine qD ?_;refine qB ?_;refine yU 2 138 rEnt rfl ?_;refine qN ?_;exact ⟨rfl,rfl,rfl⟩
  ·refine qO ?_;refine qD ?_;refine qB ?_;refine zai (by first|exact qR (show es.length ≤ 1000000000 by omega) (by decide)|exact qR (show 0 + es.length ≤ 1000000000 by omega) (by decide)) ?_;refine qN ?_;exact ⟨rfl,rfl,rfl⟩
def recsT (l : List Itm) : List (List Fld):=(l.filter fun x=>decide (x.1 = 3)).map (·.2.2)
def fldL (a : List Fld) : List ByteArray:=a.flatMap fun f=>lineB f.1 f.2
def textT : List (List Fld) → List ByteArray
  | []=>[]
  | [a]=>fldL a
  | a :: b :: r=>fldL a ++ (⟨#[]⟩ :: textT (b :: r))
def GoodS (a : List Fld) : Prop:=a ≠ [] ∧ a.length ≤ 40 ∧ ∀ f ∈ a,xC f = 0
def badAt : Int → List Fld → Int × Int
  | _,[]=>(-9,0)
  | i,f :: r=>if xC f ≠ 0 then (i,xC f) else badAt (i + 1) r
def chkR (l : List Fld) : Int × Int:=if l = [] then (-9,2) else if 40 < l.length then (-9,11) else badAt 0 l
def chkA (l : List Fld) : C:=if (chkR l).2 = 0 then .lit .nilIface else if (chkR l).1 = -9 then errN (chkR l).2 else errF (chkR l).1 (chkR l).2
theorem badAt_hit : ∀ (l : List Fld) (i : Nat) (k : Int),i < l.length → (∀ f ∈ l.take i,xC f = 0) → xC (l.getD i (ByteArray.empty,ByteArray.empty)) ≠ 0 → badAt k l = (k + i,xC (l.getD i (ByteArray.empty,ByteArray.empty)))
  | [],i,k,h,_,_=>by simp at h
  | f :: r,0,k,_,_,hb=>by
    unfold badAt;rw [if_pos (by simpa using hb)];simp
  | f :: r,i + 1,k,h,ht,hb=>by
    unfold badAt;rw [if_neg (by simpa using ht f (by simp))];rw [badAt_hit r i (k + 1) (by simpa using h) (fun g hg=>ht g (by simp [hg])) (by simpa using hb)];simp only [List.getD_cons_succ]
    congr 1
    omega
theorem badAt_no : ∀ (l : List Fld) (k : Int),(∀ f ∈ l,xC f = 0) → badAt k l = (-9,0)
  | [],_,_=>rfl
  | f :: r,k,h=>by
    unfold badAt;rw [if_neg (by simpa using h f (by simp))];exact badAt_no r (k + 1) (fun g hg=>h g (by simp [hg]))
theorem chkA_nil {l : List Fld} (h : chkR l = (-9,0)) : chkA l = .lit .nilIface:=by unfold chkA;rw [h];rfl
theorem chkA_no {l : List Fld} {n : Int} (h : chkR l = (-9,n)) (hn : n ≠ 0) : chkA l = errN n:=by unfold chkA;rw [h,if_neg hn,if_pos rfl]
theorem chkA_at {l : List Fld} {i n : Int} (h : chkR l = (i,n)) (hn : n ≠ 0) (hi : 0 ≤ i) : chkA l = errF i n:=by unfold chkA;rw [h,if_neg hn,if_neg (by show ¬ i = -9;omega)]
theorem pcheck_c {κ : Nat} (l : List Fld) (hl : FldsOk l) : yB Tryz.prog 163 [.one (.slk κ rFld l)] (.one (chkA l)):=by
  have hln:=hl.1;refine qZ (rs:=[2]) Tryz.func163 rfl rfl rfl teOk rfl ?_;refine qD ?_;refine qB ?_;refine qD ?_;refine qQ ?_;refine qD ?_;refine qB ?_;intro l1_1
  try simp only [zds] at l1_1
  refine qM rfl (fun h6=>?_) (fun h6=>?_)
  ·try simp only [decide_eq_true_eq] at h6
   try simp only [zds] at h6
   refine qD ?_;refine qB ?_;refine qN ?_;rw [chkA_no (l:=l) (n:=2) (by unfold chkR;rw [if_pos (List.eq_nil_of_length_eq_zero (by omega))]) (by decide)];rfl
  ·try simp only [decide_eq_false_iff_not] at h6
   try simp only [zds] at h6
   refine qD ?_;refine qB ?_;intro l3_1
   try simp only [zds] at l3_1
   refine qM rfl (fun h11=>?_) (fun h11=>?_)
   ·try simp only [decide_eq_true_eq] at h11
    try simp only [zds] at h11
    refine qD ?_;refine qB ?_;refine qN ?_;rw [chkA_no (l:=l) (n:=11) (by unfold chkR;rw [if_neg (fun e=>h6 (by rw [e];rfl)),if_pos (by omega)]) (by decide)];rfl
   ·try simp only [decide_eq_false_iff_not,Int.not_lt] at h11
    try simp only [zds] at h11
    refine qO ?_;refine qD ?_;refine qD ?_;refine qB ?_;intro l5_1
    try simp only [zds] at l5_1
    refine qQ ?_;refine qY (fun (i : Nat)=>i ≤ l.length ∧ ∀ f ∈ l.take i,xC f = 0) (fun (i : Nat)=>[(16,.one (.slk κ rFld l)),(17,ii .i64 l.length),(18,ii .i64 i)]) (fun (i : Nat)=>[]) 0 (fun (i : Nat)=>l.length - i) 0 (⟨Nat.zero_le _,by simp⟩) (qP ⟨rfl,rfl,rfl⟩ trivial rfl) ?_;intro i hI1;obtain ⟨hi,hall⟩:=hI1;refine qD ?_;refine qB ?_;refine qD ?_;refine qM rfl (fun h19=>?_) (fun h19=>?_)
    ·try simp only [decide_eq_true_eq] at h19
     try simp only [zds] at h19
     have hlt : i < l.length:=(by omega);have hm:=hl.2 _ (yN hlt (ByteArray.empty,ByteArray.empty));have hne : l ≠ []:=(fun e=>by rw [e] at hlt;simp at hlt);refine qO ?_;refine qD ?_;refine qQ ?_;refine qD ?_;refine qB ?_;refine zai (by first|omega|assumption|decide|(simp only [zds];omega)|(simp <;> omega)) ?_;refine qD ?_;rcases check_cases (l.getD i (ByteArray.empty,ByteArray.empty)) with hc|hc|hc
     ·refine qB ?_;refine Or.inl ?_;refine zai (rfl) ?_;refine zei _ (zai (check_v (l.getD i (ByteArray.empty,ByteArray.empty)) _ (by omega) hc) ?_);refine qD ?_;refine qB ?_;refine qM rfl (fun h26=>?_) (fun h26=>?_)
      ·skip
       refine qD ?_;refine qB ?_;refine qN ?_;rw [chkA_at (l:=l) (i:=i) (n:=5) (by unfold chkR;rw [if_neg hne,if_neg (by omega),badAt_hit l i 0 hlt hall (by rw [hc];decide),hc];simp) (by decide) (by omega)];rfl
      ·try simp only [zbq] at h26
       try simp only [zds] at h26
       cases h26
     ·refine qB ?_;refine Or.inl ?_;refine zai (rfl) ?_;refine zei _ (zai (check_v (l.getD i (ByteArray.empty,ByteArray.empty)) _ (by omega) hc) ?_);refine qD ?_;refine qB ?_;refine qM rfl (fun h26=>?_) (fun h26=>?_)
      ·skip
       refine qD ?_;refine qB ?_;refine qN ?_;rw [chkA_at (l:=l) (i:=i) (n:=6) (by unfold chkR;rw [if_neg hne,if_neg (by omega),badAt_hit l i 0 hlt hall (by rw [hc];decide),hc];simp) (by decide) (by omega)];rfl
      ·try simp only [zbq] at h26
       try simp only [zds] at h26
       cases h26
     ·refine qB ?_;refine Or.inl ?_;refine zai (rfl) ?_;refine zei _ (zai (check_v (l.getD i (ByteArray.empty,ByteArray.empty)) _ (by omega) hc) ?_);refine qD ?_;refine qB ?_;refine qM rfl (fun h26=>?_) (fun h26=>?_)
      ·try simp only [Bool.not_eq_true'] at h26
       try simp only [zds] at h26
       cases h26
      ·try simp only [Bool.not_eq_false'] at h26
       try simp only [zds] at h26
       refine qO ?_;refine qB ?_;refine zai (by first|omega|assumption|decide|(simp only [zds];omega)|(simp <;> omega)) ?_;exact ⟨i + 1,⟨by omega,by rw [← yG (ByteArray.empty,ByteArray.empty) hlt];intro f hf;rcases List.mem_append.1 hf with h|h;exact hall f h;rw [List.mem_singleton.1 h];exact hc⟩,by first|omega|(simp <;> omega),qP ⟨rfl,rfl,(yH (by omega))⟩ trivial rfl⟩
    ·try simp only [decide_eq_false_iff_not,Int.not_lt] at h19
     try simp only [zds] at h19
     refine yA ?_;refine qD ?_;refine qB ?_;refine qN ?_;rw [List.take_of_length_le (by omega)] at hall;rw [chkA_nil (by unfold chkR;rw [if_neg (fun e=>h6 (by rw [e];rfl)),if_neg (by omega)];exact badAt_no l 0 hall)];rfl
theorem badAt_zero : ∀ (l : List Fld) (k : Int),(badAt k l).2 = 0 → (∀ f ∈ l,xC f = 0)
  | [],_,_,f,hf=>by cases hf
  | g :: r,k,h,f,hf=>by
    unfold badAt at h;split at h
    · rename_i hg;exact absurd h hg
    · rename_i hg;rcases List.mem_cons.1 hf with rfl|hf
      · exact Classical.not_not.1 hg
      · exact badAt_zero r (k + 1) h f hf
theorem chk_good {l : List Fld} (h : (chkR l).2 = 0) : GoodS l ∧ badF l = 0 ∧ chkA l = .lit .nilIface:=by
  have hA : chkA l = .lit .nilIface:=by unfold chkA;rw [if_pos h]
  unfold chkR at h;split at h
  · cases h
  · rename_i h0;split at h
    · cases h
    · rename_i h4;have:=badAt_zero l 0 h;exact ⟨⟨h0,by omega,this⟩,badF_ok this,hA⟩
theorem pstanza_ok {κ : Nat} {l : List Fld} (hl : FldsOk l) (h : (chkR l).2 = 0) : yB Tryz.prog 132 [.one (.slk κ rFld l)] (.tup [(false,[.lit (.string (bytes (foldL l)))]),(false,[.lit .nilIface])]):=by
  obtain ⟨h1,h2,h3⟩:=chk_good h;have hc:=pcheck_c (κ:=κ) l hl;rw [h3] at hc;refine qZ (rs:=[2,3]) Tryz.func132 rfl rfl rfl teOk rfl ?_;refine qD ?_;refine qB ?_;refine qD ?_;refine qD ?_;refine qB ?_;refine Or.inl ?_;refine zai (rfl) ?_;refine zei _ (zai (hc) ?_);refine qD ?_;refine qB ?_;refine qM rfl (fun h8=>?_) (fun h8=>?_)
  ·try simp only [Bool.not_eq_true'] at h8
   try simp only [zds] at h8
   cases h8
  ·try simp only [Bool.not_eq_false'] at h8
   try simp only [zds] at h8
   refine qO ?_;refine qD ?_;refine qB ?_;refine Or.inl ?_;refine zai (rfl) ?_;refine zei _ (zai (fold_yes hl h2) ?_);refine qN ?_;rfl
theorem clone_c {k : Nat} (l : List Fld) (hl : l.length ≤ 1000000) : yB Tryz.prog 69 [.one (.slk k rFld l)] (.one (.sl rFld l)):=by
  refine qZ (rs:=[2]) Tryz.func69 rfl rfl rfl teOk rfl ?_;refine qD ?_;refine qB ?_;refine qD ?_;refine qD ?_;refine acode_isnil (q:=k) [_] _ (R:=rFld) (xs:=l) rfl rfl rfl rfl (e:=107) rfl rfl ?_;refine ⟨rfl,fun b hb=>?_⟩;refine qM rfl (fun h4=>?_) (fun h4=>?_)
  ·have hl0:=hb h4;subst hl0;refine qD ?_;refine qB ?_;refine yU 2 107 rFld rfl ?_;refine qN ?_;rfl
  ·refine qO ?_;refine qD ?_;refine qB ?_;refine zai (by first|exact qR (show l.length ≤ 1000000000 by omega) (by decide)|exact qR (show 0 + l.length ≤ 1000000000 by omega) (by decide)) ?_;refine qN ?_;rfl
theorem copied_c (x : Itm) (hx : x.2.2.length ≤ 1000000) : yB Tryz.prog 170 [.agg (toL rItm x)] (.agg (toL rItm x)):=by
  refine acall_ofc (rs:=[.cell 2 136]) Tryz.func170 rfl rfl rfl teOk rfl ?_;refine qD ?_;refine qB ?_;refine qD ?_;refine qB ?_;refine Or.inl ?_;refine zai (rfl) ?_;refine zei _ (zai (clone_c x.2.2 hx) ?_);refine qD ?_;refine qB ?_;refine qN ?_;rfl
theorem render_c (l m : List Itm) (hm : m.length ≤ 1000000) (hs : szI m ≤ 100000000) (ha : yB Tryz.prog 143 [.one (.sl rItm l)] (.one (.sl rItm m))) : yB Tryz.prog 104 [.one (.sl rItm l)] (is (bytes (rawsL m))):=by
  refine qZ (rs:=[2]) Tryz.func104 rfl rfl rfl teOk rfl ?_;refine qD ?_;refine qB ?_;refine qD ?_;refine qB ?_;refine Or.inl ?_;refine zai (rfl) ?_;refine zei _ (zai (ha) ?_);refine Or.inl ?_;refine zai (rfl) ?_;refine zei _ (zai (joinI_c m hm hs) ?_);refine qN ?_;rfl
theorem apartK_snoc : ∀ (l : List Itm) (k : Int) (x : Itm),apartK k (l ++ [x]) = apartK k l ++ (if lastK k l ≠ 1 ∧ x.1 ≠ 1 then [(1,⟨#[10]⟩,[]),x] else [x])
  | [],k,x=>by
    unfold lastK;rw [List.nil_append];unfold apartK
    by_cases h : k ≠ 1 ∧ x.1 ≠ 1
    · rw [if_pos h,if_pos h];rfl
    · rw [if_neg h,if_neg h];rfl
  | y :: r,k,x=>by
    have ih:=apartK_snoc r y.1 x;rw [List.cons_append];unfold apartK lastK;rw [ih]
    by_cases h : k ≠ 1 ∧ y.1 ≠ 1
    · rw [if_pos h,if_pos h];rfl
    · rw [if_neg h,if_neg h];rfl
theorem lastK_take {l : List Itm} {i : Nat} (h : i < l.length) (k : Int) : lastK k (l.take (i + 1)) = (l.getD i ((0 : Int),ByteArray.empty,([] : List Fld))).1:=by
  rw [List.take_succ_eq_append_getElem h,lastK_app,getD_get h ((0 : Int),ByteArray.empty,([] : List Fld))];rfl
theorem apart_snoc (l : List Itm) (i : Nat) (h : i < l.length) : apartL (l.take (i + 1)) = apartL (l.take i) ++ (if (0 < i ∧ (l.getD (i - 1) ((0 : Int),ByteArray.empty,([] : List Fld))).1 ≠ 1) ∧ (l.getD i ((0 : Int),ByteArray.empty,([] : List Fld))).1 ≠ 1 then [(1,⟨#[10]⟩,[]),l.getD i ((0 : Int),ByteArray.empty,([] : List Fld))] else [l.getD i ((0 : Int),ByteArray.empty,([] : List Fld))]):=by
  unfold apartL;rw [List.take_succ_eq_append_getElem h,apartK_snoc,getD_get h ((0 : Int),ByteArray.empty,([] : List Fld))];have e : lastK 1 (l.take i) ≠ 1 ↔ (0 < i ∧ (l.getD (i - 1) ((0 : Int),ByteArray.empty,([] : List Fld))).1 ≠ 1):=by
    cases i with
    | zero=>simp [lastK]
    | succ i=>rw [lastK_take (by omega),Nat.add_sub_cancel];simp
  congr 1
  by_cases hh : lastK 1 (l.take i) ≠ 1 ∧ (l.getD i ((0 : Int),ByteArray.empty,([] : List Fld))).1 ≠ 1
  · rw [if_pos hh,if_pos ⟨e.1 hh.1,hh.2⟩]
  · rw [if_neg hh,if_neg (fun g=>hh ⟨e.2 g.1,g.2⟩)]
theorem apartK_len : ∀ (l : List Itm) (k : Int),(apartK k l).length ≤ 2 * l.length
  | [],_=>by simp [apartK]
  | x :: r,k=>by
    have:=apartK_len r x.1;unfold apartK;split <;> (simp only [List.length_cons];omega)
theorem apart_c (l : List Itm) (hl : l.length ≤ 1000000) (hf : ∀ x ∈ l,x.2.2.length ≤ 1000000) : yB Tryz.prog 143 [.one (.sl rItm l)] (.one (.sl rItm (apartL l))):=by
  refine qZ (rs:=[2]) Tryz.func143 rfl rfl rfl teOk rfl ?_;refine qD ?_;refine qB ?_;refine qD ?_;refine qB ?_;refine qD ?_;refine qD ?_;refine yU 3 136 rItm rfl ?_;refine qB ?_;intro l2_1
  try simp only [zds] at l2_1
  refine qQ ?_;refine qY (fun (i : Nat)=>i ≤ l.length) (fun (i : Nat)=>[(0,.one (.sl rItm l)),(3,.one (.vec 0)),(6,.one (.sl rItm l)),(7,ii .i64 l.length),(8,ii .i64 i)]) (fun (i : Nat)=>[(0,.vec 136 rItm (apartL (l.take i)))]) 1 (fun (i : Nat)=>l.length - i) 0 (Nat.zero_le _) (qP ⟨rfl,rfl,rfl,rfl,rfl⟩ rfl rfl) ?_;intro i hI0;refine qD ?_;refine qB ?_;refine qD ?_;refine qM rfl (fun h9=>?_) (fun h9=>?_)
  ·try simp only [decide_eq_true_eq] at h9
   try simp only [zds] at h9
   have hil : i < l.length:=(by omega);have hsn:=apart_snoc l i hil;have hal:=apartK_len (l.take i) 1;rw [List.length_take] at hal;have hal : (apartL (l.take i)).length ≤ 2 * min i l.length:=hal;have e1 : ((i : Int) - 1).toNat = i - 1:=(by omega);refine qO ?_;refine qD ?_;refine qQ ?_;refine qD ?_;refine qB ?_;refine zai (by first|omega|assumption|decide|(simp only [zds];omega)|(simp <;> omega)) ?_;refine qD ?_;refine qD ?_;refine qB ?_;refine zai (fun h=>trivial) ?_;refine zai (fun h=>⟨⟨h,trivial⟩,trivial⟩) ?_;refine zai (fun h=>⟨⟨h,trivial⟩,trivial⟩) ?_;refine zai (by exact fun h=>h) ?_;refine zai (fun h=>trivial) ?_;refine zai (fun h=>trivial) ?_;refine zai (fun h=>⟨⟨⟨h,trivial⟩,trivial⟩,by first|omega|decide|(simp only [zds];omega)|(have h9:=of_decide_eq_true h;omega)|(simp [gq] at h;omega)⟩) ?_;refine zai (fun h=>⟨⟨⟨h,trivial⟩,⟨h,trivial⟩,trivial⟩,by first|omega|decide|(simp only [zds];omega)|(have h9:=of_decide_eq_true h;omega)|(simp [gq] at h;omega)⟩) ?_;refine zai (fun h=>⟨⟨h,trivial⟩,trivial⟩) ?_;refine zai (fun h=>⟨⟨h,trivial⟩,trivial⟩) ?_;refine zai (fun h=>⟨⟨h,trivial⟩,trivial⟩) ?_;refine zai (by exact fun h=>h) ?_;refine qM rfl (fun h28=>?_) (fun h28=>?_)
   ·try simp only [decide_eq_true_eq,decide_eq_false_iff_not,Bool.and_eq_true,Bool.not_eq_true'] at h28
    try simp only [Int.toNat_natCast,qJ,qI,qH,qG] at h28
    rw [e1] at h28;rw [if_pos ⟨⟨by omega,h28.2⟩,h28.1.2⟩] at hsn;refine qB ?_;refine zai (by exact qR (show (apartL (l.take i)).length + 1 ≤ 1000000000 by omega) (by decide)) ?_;refine qB ?_;refine Or.inl ?_;refine zai (rfl) ?_;refine zei _ (zai (copied_c (l.getD i ((0 : Int),ByteArray.empty,([] : List Fld))) (hf _ (yN hil ((0 : Int),ByteArray.empty,([] : List Fld))))) ?_);refine zai (by exact qR (by rw [List.length_append];show (apartL (l.take i)).length + 1 + 1 ≤ 1000000000;omega) (by decide)) ?_;refine qB ?_;refine zai (by first|omega|assumption|decide|(simp only [zds];omega)|(simp <;> omega)) ?_;exact ⟨i + 1,by omega,by first|omega|(simp <;> omega),qP ⟨rfl,rfl,rfl,rfl,(yH (by omega))⟩ (qS (by rw [hsn];(try rw [List.append_assoc]);(try exact rfl))) rfl⟩
   ·try simp only [decide_eq_true_eq,decide_eq_false_iff_not,Bool.not_eq_false',Bool.and_eq_false_iff,Int.not_lt] at h28
    try simp only [Int.toNat_natCast,qJ,qI,qH,qG] at h28
    rw [e1] at h28;rw [if_neg (fun h=>h28.elim (fun g=>g.elim (fun g=>by omega) (fun g=>h.2 g)) (fun g=>h.1.2 g))] at hsn;refine qO ?_;refine qB ?_;refine Or.inl ?_;refine zai (rfl) ?_;refine zei _ (zai (copied_c (l.getD i ((0 : Int),ByteArray.empty,([] : List Fld))) (hf _ (yN hil ((0 : Int),ByteArray.empty,([] : List Fld))))) ?_);refine zai (by exact qR (show (apartL (l.take i)).length + 1 ≤ 1000000000 by omega) (by decide)) ?_;refine qB ?_;refine zai (by first|omega|assumption|decide|(simp only [zds];omega)|(simp <;> omega)) ?_;exact ⟨i + 1,by omega,by first|omega|(simp <;> omega),qP ⟨rfl,rfl,rfl,rfl,(yH (by omega))⟩ (qS (by rw [hsn];(try rw [List.append_assoc]);(try exact rfl))) rfl⟩
  ·try simp only [decide_eq_false_iff_not,Int.not_lt] at h9
   try simp only [zds] at h9
   refine yA ?_;refine qD ?_;refine qB ?_;refine qN ?_;rw [List.take_of_length_le (by omega)];rfl
def al6 : List (List Fld):=[[(⟨#[65]⟩,⟨#[49]⟩)],[(⟨#[66]⟩,⟨#[50]⟩)]]
def itEs (es : List Ent) : List (List A):=(es.filter live).map fun e=>[A.agg (toL rEnt e)]
def cntL (es : List Ent) : Nat:=(es.filter live).length
theorem index_E (f : FuncId) {k : Nat} {β : Type} (S : Rd β) (y : β) (l : List Ent) (p : Ent → Bool) (hp : ∀ x ∈ l,yB Tryz.prog f [.agg (toL rEnt x),.one (.addr S y)] (ib (p x))) : yB Tryz.prog 130 [.one (.slk k rEnt l),.one (.clo f (.addr S y))] (ii .i64 (ixOf p l)):=by
  refine qZ (rs:=[4]) Tryz.func130 rfl rfl rfl teOk rfl ?_;refine qD ?_;refine qB ?_;refine qD ?_;refine qD ?_;refine qB ?_;intro l1_1
  try simp only [zds] at l1_1
  refine qQ ?_;refine qY (fun (i : Nat)=>i ≤ l.length ∧ (l.take i).any p = false) (fun (i : Nat)=>[(0,.one (.slk k rEnt l)),(1,.one (.clo f (.addr S y))),(7,ii .i64 l.length),(8,ii .i64 i)]) (fun (i : Nat)=>[]) 0 (fun (i : Nat)=>l.length - i) 0 (⟨Nat.zero_le _,rfl⟩) (qP ⟨rfl,rfl,rfl,rfl⟩ trivial rfl) ?_;intro i hI0;obtain ⟨hi,hn⟩:=hI0;refine qD ?_;refine qB ?_;refine qD ?_;refine qM rfl (fun h9=>?_) (fun h9=>?_)
  ·try simp only [decide_eq_true_eq] at h9
   try simp only [zds] at h9
   refine qO ?_;refine qD ?_;refine qQ ?_;refine qD ?_;refine qB ?_;refine qD ?_;refine qB ?_;refine zai (by first|omega|assumption|decide|(simp only [zds];omega)|(simp <;> omega)) ?_;refine Or.inl ?_;refine zai (rfl) ?_;refine zei _ (zai (hp _ (yN (show i < l.length by omega) _)) ?_);refine qM rfl (fun h16=>?_) (fun h16=>?_)
   ·try simp only [zbq] at h16
    try simp only [Int.toNat_natCast,qJ,qI,qH,qG] at h16
    refine qD ?_;refine qB ?_;refine qN ?_;exact yH (ixOf_at (((0 : Int),ByteArray.empty,([] : List Fld)),(0 : Int)) (by omega) hn h16).symm
   ·try simp only [zbq] at h16
    try simp only [Int.toNat_natCast,qJ,qI,qH,qG] at h16
    refine qO ?_;refine qB ?_;refine zai (by first|omega|assumption|decide|(simp only [zds];omega)|(simp <;> omega)) ?_;exact ⟨i + 1,⟨by omega,by rw [take_any l p (((0 : Int),ByteArray.empty,([] : List Fld)),(0 : Int)) i (by omega),hn];exact h16⟩,by first|omega|(simp <;> omega),qP ⟨rfl,rfl,rfl,rfl⟩ trivial rfl⟩
  ·try simp only [decide_eq_false_iff_not,Int.not_lt] at h9
   try simp only [zds] at h9
   refine yA ?_;refine qD ?_;refine qB ?_;refine qN ?_;have e : i = l.length:=by omega
   subst e;rw [List.take_length] at hn;exact yH (ixOf_none hn).symm
theorem at1_c (id : Int) (e : Ent) : yB Tryz.prog 131 [.agg (toL rEnt e),.one (.addr (.int .i64) id)] (ib (hasId id e)):=by
  refine qZ (rs:=[3]) Tryz.func131 rfl rfl rfl teOk rfl ?_;refine qD ?_;refine qB ?_;refine qD ?_;refine qB ?_;refine qN ?_;rfl
theorem at_c {k : Nat} (es : List Ent) (n m id : Int) : yB Tryz.prog 88 [.one (.adk k (rLst k) (es,n,m)),ii .i64 id] (ii .i64 (atE es id)):=by
  refine qZ (rs:=[4]) Tryz.func88 rfl rfl rfl teOk rfl ?_;refine qD ?_;refine qB ?_;refine qD ?_;refine qD ?_;refine qB ?_;refine zai (fun h=>trivial) ?_;refine zai (fun h=>⟨⟨h,trivial⟩,trivial⟩) ?_;refine zai (by first|(intro h;rw [h];rfl)|(intro h;cases h)) ?_;refine qM rfl (fun h10=>?_) (fun h10=>?_)
  ·try simp only [decide_eq_true_eq,Bool.or_eq_true] at h10
   try simp only [zds] at h10
   have h10 : id < 1:=h10.elim (fun h=>by cases h) (fun h=>h);refine qD ?_;refine qB ?_;refine qN ?_;exact yH (by unfold atE;rw [if_pos h10])
  ·try simp only [decide_eq_false_iff_not,Bool.or_eq_false_iff,Int.not_lt] at h10
   try simp only [zds] at h10
   have h10 : ¬ id < 1:=(by simp at h10;omega);refine qO ?_;refine qD ?_;refine qB ?_;refine Or.inl ?_;refine zai (rfl) ?_;refine zei _ (zai (index_E _ (.int .i64) id es (hasId id) (fun x _=>at1_c id x)) ?_);refine qN ?_;exact yH (by unfold atE;rw [if_neg h10])
theorem len_c {k : Nat} (es : List Ent) (n m : Int) : yB Tryz.prog 62 [.one (.adk k (rLst k) (es,n,m))] (ii .i64 m):=by
  refine qZ (rs:=[2]) Tryz.func62 rfl rfl rfl teOk rfl ?_;refine qD ?_;refine qB ?_;refine qD ?_;refine qD ?_;refine qB ?_;refine qM rfl (fun h4=>?_) (fun h4=>?_)
  ·try simp only [zbq] at h4
   try simp only [zds] at h4
   simp at h4
  ·skip
   refine qO ?_;refine qD ?_;refine qB ?_;refine qN ?_;rfl
theorem lDel_ok (es : List Ent) (n m id : Int) (i : Nat) (hi : i < es.length) (h : atE es id = i) (hm : 0 ≤ m ∧ m ≤ 1000000) (hl : es.length ≤ 1000000) : qW Tryz.prog 43 [.one (.own 0 0),ii .i64 id] (lsO (es,n,m)) 2 (.one (.lit .nilIface)) (lsO (delE es i,n,m - 1)) 2:=by
  refine qU (rs:=[4]) Tryz.func43 rfl rfl rfl teOk (by decide) rfl ?_;refine qD ?_;refine qB ?_;refine qD ?_;refine qB ?_;refine Or.inr (Or.inr (Or.inl ?_));refine zai rfl ?_;refine zei _ (zai ((by have:=at_c (k:=1) es n m id;rw [h] at this;exact this)) ?_);refine qD ?_;refine qD ?_;refine qB ?_;refine qM rfl (fun h10=>?_) (fun h10=>?_)
  ·try simp only [decide_eq_true_eq] at h10
   try simp only [zds] at h10
   omega
  ·try simp only [decide_eq_false_iff_not,Int.not_lt] at h10
   try simp only [zds] at h10
   refine qO ?_;refine qD ?_;refine qB ?_;refine zai (by first|omega|assumption|decide|(simp only [zds];omega)|(simp <;> omega)) ?_;refine Or.inr (Or.inr (Or.inr (zei [1] (zei [] (zei _ (zei _ (zei _ (zei _ (zei _ (zai (delete_x es i (i + 1) (Nat.lt_succ_self _) hi) (zai rfl (zai (zai (zai rfl rfl) True.intro) (zai rfl ?_)))))))))))));refine qD ?_;refine qB ?_;refine zai (by first|omega|assumption|decide|(simp only [];omega)|(simp <;> omega)) ?_;refine qD ?_;refine qB ?_;refine qN ?_;exact ⟨rfl,⟨rfl,rfl⟩,rfl⟩
theorem pitem_ok {κ : Nat} {l : List Fld} (hl : FldsOk l) (h : (chkR l).2 = 0) : yB Tryz.prog 89 [.one (.slk κ rFld l)] (.tup [(true,toL rItm (3,bytes (foldL l),l)),(false,[.lit .nilIface])]):=by
  refine acall_ofc (rs:=[.cell 2 136,.tmp 3]) Tryz.func89 rfl rfl rfl teOk rfl ?_;refine qD ?_;refine qB ?_;refine qD ?_;refine qB ?_;refine Or.inl ?_;refine zai (rfl) ?_;refine zei _ (zai (pstanza_ok hl h) ?_);refine qD ?_;refine qD ?_;refine qB ?_;refine qM rfl (fun h12=>?_) (fun h12=>?_)
  ·try simp only [Bool.not_eq_true'] at h12
   try simp only [zds] at h12
   cases h12
  ·try simp only [Bool.not_eq_false'] at h12
   try simp only [zds] at h12
   refine qO ?_;refine qD ?_;refine qB ?_;refine Or.inl ?_;refine zai (rfl) ?_;refine zei _ (zai (clone_c l (Nat.le_trans hl.1 (by decide))) ?_);refine qN ?_;rfl
def itmOf (f : List Fld) : Itm:=(3,bytes (foldL f),f)
theorem lRep_ok {κ : Nat} (es : List Ent) (n m id : Int) (f : List Fld) (i : Nat) (hi : i < es.length) (h : atE es id = i) (hf : FldsOk f) (hc : (chkR f).2 = 0) : qW Tryz.prog 42 [.one (.own 0 0),ii .i64 id,.one (.slk κ rFld f)] (lsO (es,n,m)) 2 (.one (.lit .nilIface)) (lsO (replE es i (itmOf f),n,m)) 2:=by
  refine qU (rs:=[6]) Tryz.func42 rfl rfl rfl teOk (by decide) rfl ?_;refine qD ?_;refine qB ?_;refine qD ?_;refine qB ?_;refine Or.inr (Or.inr (Or.inl ?_));refine zai rfl ?_;refine zei _ (zai ((by have:=at_c (k:=1) es n m id;rw [h] at this;exact this)) ?_);refine qD ?_;refine qD ?_;refine qB ?_;refine qM rfl (fun h14=>?_) (fun h14=>?_)
  ·try simp only [decide_eq_true_eq] at h14
   try simp only [zds] at h14
   omega
  ·try simp only [decide_eq_false_iff_not,Int.not_lt] at h14
   try simp only [zds] at h14
   refine qO ?_;refine qD ?_;refine qB ?_;refine Or.inl ?_;refine zai (rfl) ?_;refine zei _ (zai (pitem_ok hf hc) ?_);refine qD ?_;refine qD ?_;refine qB ?_;refine qM rfl (fun h22=>?_) (fun h22=>?_)
   ·try simp only [Bool.not_eq_true'] at h22
    try simp only [zds] at h22
    cases h22
   ·try simp only [Bool.not_eq_false'] at h22
    try simp only [zds] at h22
    refine qO ?_;refine qD ?_;refine yE rfl ?_;refine qE 0 rfl rfl rfl (by kernel_rfl) ?_;refine qE 1 rfl rfl rfl (by kernel_rfl) ?_;refine qE 2 rfl rfl rfl (by kernel_rfl) ?_;refine qE 4 rfl rfl rfl (by kernel_rfl) ?_;refine qC [3,5] (by kernel_rfl) rfl ?_;refine zai ?_ ?_
    ·refine qC [5] (by kernel_rfl) rfl ?_;refine qE 6 rfl rfl rfl (by kernel_rfl) ?_;refine zai (by first|omega|assumption|decide|(simp only [];omega)|(simp <;> omega)) ?_;refine qC [7] (by kernel_rfl) rfl ?_;refine qC [8] (by kernel_rfl) rfl ?_;refine zai (by (rw [Int.toNat_natCast];exact hi)) ?_;refine qK (by kernel_rfl) ?_;refine qD ?_;refine qB ?_;refine qN ?_;exact ⟨rfl,⟨rfl,rfl⟩,rfl⟩
    ·refine qC [3] (by kernel_rfl) rfl ?_;refine qE 6 rfl rfl rfl (by kernel_rfl) ?_;refine zai (by first|omega|assumption|decide|(simp only [];omega)|(simp <;> omega)) ?_;refine qC [7] (by kernel_rfl) rfl ?_;refine qC [8] (by kernel_rfl) rfl ?_;refine zai (by (rw [Int.toNat_natCast];exact hi)) ?_;refine qK (by kernel_rfl) ?_;refine qD ?_;refine qB ?_;refine qN ?_;exact ⟨rfl,⟨rfl,rfl⟩,rfl⟩
end Q
end Ab
end Go.Proofs.YtojipboabgebfaaGreatDoor
namespace Go.Proofs.YtojipboabgebfaaGreatDoor
open Go.RowKit
namespace Ab
set_option maxRecDepth 100000
abbrev Edt:=Int × Int × List Fld
abbrev rEdt : Rd Edt:=.st (.int .i64) (.st (.int .i64) (.sl rFld))
namespace Q
def heavyB (l : List Edt) : Bool:=decide (51 < l.length) || l.any fun e=>muchB e.2.2
theorem heavy_c (l : List Edt) : yB Tryz.prog 9 [.one (.sl rEdt l)] (ib (heavyB l)):=by
  refine qZ (rs:=[2]) Tryz.func9 rfl rfl rfl teOk rfl ?_;refine qD ?_;refine qB ?_;refine qD ?_;refine qD ?_;refine qB ?_;intro l1_1
  try simp only [zds] at l1_1
  refine qQ ?_;refine qY (fun (i : Nat)=>i ≤ l.length ∧ i ≤ 51 ∧ (l.take i).any (fun e=>muchB e.2.2) = false) (fun (i : Nat)=>[(5,.one (.sl rEdt l)),(6,ii .i64 l.length),(7,ii .i64 i)]) (fun (i : Nat)=>[]) 0 (fun (i : Nat)=>l.length - i) 0 (⟨Nat.zero_le _,Nat.zero_le _,rfl⟩) (qP ⟨rfl,rfl,rfl⟩ trivial rfl) ?_;intro i hI0;obtain ⟨hi,hi2,hn⟩:=hI0;refine qD ?_;refine qB ?_;refine qD ?_;refine qM rfl (fun h8=>?_) (fun h8=>?_)
  ·try simp only [decide_eq_true_eq] at h8
   try simp only [zds] at h8
   have hil : i < l.length:=(by omega);have hsn:=take_any l (fun e : Edt=>muchB e.2.2) ((0 : Int),(0 : Int),([] : List Fld)) i hil;rw [hn,Bool.false_or] at hsn;refine qO ?_;refine qD ?_;refine qQ ?_;refine qD ?_;refine qB ?_;refine zai (by first|omega|assumption|decide|(simp only [zds];omega)|(simp <;> omega)) ?_;refine qD ?_;refine qB ?_;refine zai (fun h=>trivial) ?_;refine zai (fun h=>⟨⟨h,trivial⟩,trivial⟩) ?_;refine Or.inl ?_;refine zai (rfl) ?_;refine zei _ (zai (fun h=>⟨⟨⟨h,trivial⟩,trivial⟩,much_c _⟩) ?_);refine zai (by first|(intro h;rw [h];rfl)|(intro h;cases h)) ?_;refine qM rfl (fun h18=>?_) (fun h18=>?_)
   ·try simp only [decide_eq_true_eq,Bool.or_eq_true] at h18
    try simp only [Int.toNat_natCast,qJ,qI,qG] at h18
    refine qD ?_;refine qB ?_;refine qN ?_;refine ib_eq (Eq.symm ?_);unfold heavyB;rcases h18 with h|h
    rw [decide_eq_true (show 51 < l.length by omega)];rfl;rw [show l.any (fun e : Edt=>muchB e.2.2) = true from List.any_eq_true.2 ⟨_,yN hil ((0 : Int),(0 : Int),([] : List Fld)),h⟩,Bool.or_true]
   ·try simp only [decide_eq_false_iff_not,Bool.or_eq_false_iff,Int.not_lt] at h18
    try simp only [Int.toNat_natCast,qJ,qI,qG] at h18
    refine qO ?_;refine qB ?_;refine zai (by first|omega|assumption|decide|(simp only [zds];omega)|(simp <;> omega)) ?_;exact ⟨i + 1,⟨by omega,by omega,by rw [hsn];exact h18.2⟩,by first|omega|(simp <;> omega),qP ⟨rfl,rfl,(yH (by omega))⟩ trivial rfl⟩
  ·try simp only [decide_eq_false_iff_not,Int.not_lt] at h8
   try simp only [zds] at h8
   refine yA ?_;refine qD ?_;refine qB ?_;refine qN ?_;rw [List.take_of_length_le (by omega)] at hn;refine ib_eq (Eq.symm ?_);unfold heavyB;rw [hn,decide_eq_false (by omega)];rfl
theorem copiesF_o (l : List Fld) (hl : l.length ≤ 1000000) : qW Tryz.prog 63 [.one (.sl rFld l)] [] 0 (.one (.vec 0)) [(0,.vec 107 rFld l)] 1:=by
  refine qU (rs:=[2]) Tryz.func63 rfl rfl rfl teOk (by decide) rfl ?_;refine qD ?_;refine qB ?_;refine qD ?_;refine qB ?_;refine zai (by first|exact qR (by first|omega|(simp only [List.length_nil];omega)|(simp;omega)) (by decide)|omega|assumption|decide|(simp only [zds];omega)|(simp <;> omega)) ?_;refine qN ?_;exact ⟨rfl,rfl,rfl⟩
def spF : Fld:=(⟨#[115,112,111,105,108,116]⟩,⟨#[115,112,111,105,108,116]⟩)
end Q
end Ab
end Go.Proofs.YtojipboabgebfaaGreatDoor
namespace Go.Proofs.YtojipboabgebfaaGreatDoor
open Go.RowKit
namespace Ab
set_option maxRecDepth 100000
namespace Q
def stT (es : List Ent) (i : Nat) : List Stz:=((es.filter live).take i).map stzOf
def SmallF (l : List Fld) : Prop:=∀ f ∈ l,f.1.size ≤ 1000 ∧ f.2.size ≤ 1000
structure GP (p : PSt) : Prop where
  flds : SmallF p.flds
  room : p.lns ≠ [] → p.full = false → p.flds.length < 40
  len : p.flds.length ≤ 40
  its : ∀ x ∈ p.its,SmallF x.2.2 ∧ x.2.2.length ≤ 40
abbrev RLs:=List Ent × Int
abbrev rRL : Rd RLs:=.st (.sl rEnt) (.int .i64)
def doL (L : Lst) (e : Edt) : Lst :=
  if e.1 = 1 then
    if atE L.1 e.2.1 < 0 then L else if (chkR e.2.2).2 ≠ 0 then L else (replE L.1 (atE L.1 e.2.1).toNat (itmOf e.2.2),L.2)
  else if e.1 = 2 then
    if atE L.1 e.2.1 < 0 then L else (delE L.1 (atE L.1 e.2.1).toNat,L.2.1,L.2.2 - 1)
  else if atE L.1 e.2.1 < 0 ∧ e.2.1 ≠ 0 then L else if (chkR e.2.2).2 ≠ 0 then L else if 400 ≤ L.2.2 then L else
    (insE L.1 (atE L.1 e.2.1 + 1).toNat (itmOf e.2.2,L.2.1),L.2.1 + 1,L.2.2 + 1)
def refRep (M : RLs) (id : Int) (f : List Fld) : RLs × Int × Int :=
  if atE M.1 id < 0 then (M,-9,7) else if (chkR f).2 ≠ 0 then (M,(chkR f).1,(chkR f).2) else ((replE M.1 (atE M.1 id).toNat (itmOf f),M.2),-9,0)
def refDel (M : RLs) (id : Int) : RLs × Int :=
  if atE M.1 id < 0 then (M,7) else ((delE M.1 (atE M.1 id).toNat,M.2),0)
def refIns (M : RLs) (id : Int) (f : List Fld) : RLs × Int × Int × Int :=
  if atE M.1 id < 0 ∧ id ≠ 0 then (M,0,-9,7) else if (chkR f).2 ≠ 0 then (M,0,(chkR f).1,(chkR f).2) else if 400 ≤ ((M.1.filter live).length : Int) then (M,0,-9,11) else
    ((insE M.1 (atE M.1 id + 1).toNat (itmOf f,M.2),M.2 + 1),M.2,-9,0)
def posI (n : Int) : Bool:=decide (0 < n)
def nmsL (es : List Ent) : List Int:=(es.map (·.2)).filter posI
structure LOk (c : Nat) (L : Lst) : Prop where
  flds : ∀ e ∈ L.1,FldsOk e.1.2.2
  ids : ∀ e ∈ L.1,0 ≤ e.2 ∧ e.2 < L.2.1
  nd : (nmsL L.1).Nodup
  many : L.2.2 = ((nmsL L.1).length : Int)
  next : 1 ≤ L.2.1 ∧ L.2.1 ≤ c
  len : L.1.length ≤ c
def refDo (M : RLs) (e : Edt) : RLs:=if e.1 = 1 then (refRep M e.2.1 e.2.2).1 else if e.1 = 2 then (refDel M e.2.1).1 else (refIns M e.2.1 e.2.2).1
theorem itmL_snoc {es : List Ent} {i : Nat} (h : i < es.length) : itmL (es.take (i + 1)) = itmL (es.take i) ++ [(es.getD i (((0 : Int),ByteArray.empty,([] : List Fld)),(0 : Int))).1]:=by
  unfold itmL;rw [← yG (((0 : Int),ByteArray.empty,([] : List Fld)),(0 : Int)) h,List.map_append];rfl
theorem itmsL_c {k : Nat} (es : List Ent) (n m : Int) (hl : es.length ≤ 1000000) (hf : ∀ e ∈ es,e.1.2.2.length ≤ 1000000) : yB Tryz.prog 105 [.one (.adk k (rLst k) (es,n,m))] (.one (.sl rItm (itmL es))):=by
  refine qZ (rs:=[2]) Tryz.func105 rfl rfl rfl teOk rfl ?_;refine qD ?_;refine qB ?_;refine qD ?_;refine qB ?_;refine qD ?_;refine qD ?_;refine qB ?_;refine qM rfl (fun h8=>?_) (fun h8=>?_)
  ·try simp only [zbq] at h8
   try simp only [zds] at h8
   simp at h8
  ·skip
   refine qO ?_;refine qD ?_;refine qD ?_;refine yU 3 136 rItm rfl ?_;refine qB ?_;intro l4_4;refine qQ ?_;refine qY (fun (i : Nat)=>i ≤ es.length) (fun (i : Nat)=>[(3,.one (.vec 0)),(12,.one (.slk k rEnt es)),(13,ii .i64 es.length),(14,ii .i64 i)]) (fun (i : Nat)=>[(0,.vec 136 rItm (itmL (es.take i)))]) 1 (fun (i : Nat)=>es.length - i) 0 (Nat.zero_le _) (qP ⟨rfl,rfl,rfl,rfl⟩ rfl rfl) ?_;intro i hI0;refine qD ?_;refine qB ?_;refine qD ?_;refine qM rfl (fun h15=>?_) (fun h15=>?_)
   ·try simp only [decide_eq_true_eq] at h15
    try simp only [zds] at h15
    have hil : i < es.length:=(by omega);have hsn:=itmL_snoc hil;refine qO ?_;refine qD ?_;refine qQ ?_;refine qD ?_;refine qB ?_;refine zai (by first|omega|assumption|decide|(simp only [zds];omega)|(simp <;> omega)) ?_;refine qD ?_;refine qB ?_;refine qD ?_;refine qB ?_;refine Or.inl ?_;refine zai (rfl) ?_;refine zei _ (zai (clone_c (es.getD i (((0 : Int),ByteArray.empty,([] : List Fld)),(0 : Int))).1.2.2 (hf _ (yN hil (((0 : Int),ByteArray.empty,([] : List Fld)),(0 : Int))))) ?_);refine qB ?_;refine zai (by exact qR (show (itmL (es.take i)).length + 1 ≤ 1000000000 by unfold itmL;rw [List.length_map,List.length_take];omega) (by decide)) ?_;refine qB ?_;refine zai (by first|omega|assumption|decide|(simp only [zds];omega)|(simp <;> omega)) ?_;exact ⟨i + 1,by omega,by first|omega|(simp <;> omega),qP ⟨rfl,rfl,rfl,(yH (by omega))⟩ (qS (by rw [hsn];try exact rfl)) rfl⟩
   ·try simp only [decide_eq_false_iff_not,Int.not_lt] at h15
    try simp only [zds] at h15
    refine yA ?_;refine qD ?_;refine qB ?_;refine qN ?_;rw [List.take_of_length_le (by omega)];exact rfl
theorem textL_c {k : Nat} (es : List Ent) (n m : Int) (hl : es.length ≤ 400000) (hf : ∀ e ∈ es,e.1.2.2.length ≤ 1000000) (hs : szI (apartL (itmL es)) ≤ 100000000) : yB Tryz.prog 60 [.one (.adk k (rLst k) (es,n,m))] (is (bytes (txtL es))):=by
  have h1 : (itmL es).length ≤ 1000000:=by unfold itmL;rw [List.length_map];omega
  have h2 : ∀ x ∈ itmL es,x.2.2.length ≤ 1000000:=fun x hx=>by obtain ⟨e,he,rfl⟩:=List.mem_map.1 hx;exact hf e he
  have h3 : (apartL (itmL es)).length ≤ 1000000:=by
    have:=apartK_len (itmL es) 1;have h4 : (apartL (itmL es)).length ≤ 2 * (itmL es).length:=this;rw [show (itmL es).length = es.length from List.length_map _] at h4;omega
  have hr:=render_c (itmL es) (apartL (itmL es)) h3 hs (apart_c _ h1 h2);refine qZ (rs:=[2]) Tryz.func60 rfl rfl rfl teOk rfl ?_;refine qD ?_;refine qB ?_;refine qD ?_;refine qB ?_;refine Or.inl ?_;refine zai (rfl) ?_;refine zei _ (zai (itmsL_c es n m (by omega) hf) ?_);refine Or.inl ?_;refine zai (rfl) ?_;refine zei _ (zai (hr) ?_);refine qN ?_;rfl
def prPl (es : List Ent) (id : Int) : Bool → Nat → Nat × Int → Prop
  | false,j,x=>x.1 = j ∧ x.2 = 0 ∧ ((es.filter live).take x.1).any (hasId id) = false
  | true,_,x=>x.2 = plcL es id
theorem copyL_o {k : Nat} (es : List Ent) (n m : Int) (hl : es.length ≤ 1000000) : qW Tryz.prog 68 [.one (.adk k (rLst k) (es,n,m))] [] 0 (.one (.own 1 0)) [(1,.box 134 [.vec 0,.lit (.int .i64 n),.lit (.int .i64 m)]),(0,.vec 138 rEnt es)] 2:=by
  have hcl:=cloneE_o (k:=k) es hl;refine qU (rs:=[2]) Tryz.func68 rfl rfl rfl teOk (by decide) rfl ?_;refine qD ?_;refine qB ?_;refine qD ?_;refine qD ?_;refine qB ?_;refine qM rfl (fun h4=>?_) (fun h4=>?_)
  ·try simp only [zbq] at h4
   try simp only [zds] at h4
   simp at h4
  ·try simp only [zbq] at h4
   try simp only [zds] at h4
   refine qO ?_;refine qD ?_;refine yE rfl ?_;refine qE 0 rfl rfl rfl (by kernel_rfl) ?_;refine qE 1 rfl rfl rfl (by kernel_rfl) ?_;refine qE 2 rfl rfl rfl (by kernel_rfl) ?_;refine qE 5 rfl rfl rfl (by kernel_rfl) ?_;refine qE 6 rfl rfl rfl (by kernel_rfl) ?_;refine qE 7 rfl rfl rfl (by kernel_rfl) ?_;refine qE 9 rfl rfl rfl (by kernel_rfl) ?_;refine qE 10 rfl rfl rfl (by kernel_rfl) ?_;refine qE 11 rfl rfl rfl (by kernel_rfl) ?_;refine qC [3,8,12] (by kernel_rfl) rfl ?_;refine zai ?_ ?_
   ·refine qC [4,8,12] (by kernel_rfl) rfl ?_;refine zai ?_ ?_
    ·refine Or.inr (Or.inl (zei [] (zei [] (zei _ (zei _ (zei _ (zei _ (zei _ (zai (hcl) (zai rfl (zai True.intro (zai rfl ?_))))))))))));refine qC [8,12] (by kernel_rfl) rfl ?_;refine zai ?_ ?_
     ·refine qC [12] (by kernel_rfl) rfl ?_;refine qC [13] (by kernel_rfl) rfl ?_;refine qC [14] (by kernel_rfl) rfl ?_;refine qE 15 rfl rfl rfl (by kernel_rfl) ?_;refine qK (by kernel_rfl) ?_;refine qN ?_;exact ⟨rfl,⟨rfl,rfl⟩,rfl⟩
     ·refine qC [8] (by kernel_rfl) rfl ?_;refine qC [13] (by kernel_rfl) rfl ?_;refine qC [14] (by kernel_rfl) rfl ?_;refine qE 15 rfl rfl rfl (by kernel_rfl) ?_;refine qK (by kernel_rfl) ?_;refine qN ?_;exact ⟨rfl,⟨rfl,rfl⟩,rfl⟩
    refine zai ?_ ?_
    ·refine qC [4,12] (by kernel_rfl) rfl ?_;refine zai ?_ ?_
     ·refine Or.inr (Or.inl (zei [] (zei [] (zei _ (zei _ (zei _ (zei _ (zei _ (zai (hcl) (zai rfl (zai True.intro (zai rfl ?_))))))))))));refine qC [12] (by kernel_rfl) rfl ?_;refine qC [13] (by kernel_rfl) rfl ?_;refine qC [14] (by kernel_rfl) rfl ?_;refine qE 15 rfl rfl rfl (by kernel_rfl) ?_;refine qK (by kernel_rfl) ?_;refine qN ?_;exact ⟨rfl,⟨rfl,rfl⟩,rfl⟩
     ·refine qC [4] (by kernel_rfl) rfl ?_;refine Or.inr (Or.inl (zei [] (zei [] (zei _ (zei _ (zei _ (zei _ (zei _ (zai (hcl) (zai rfl (zai True.intro (zai rfl ?_))))))))))));refine qC [13] (by kernel_rfl) rfl ?_;refine qC [14] (by kernel_rfl) rfl ?_;refine qE 15 rfl rfl rfl (by kernel_rfl) ?_;refine qK (by kernel_rfl) ?_;refine qN ?_;exact ⟨rfl,⟨rfl,rfl⟩,rfl⟩
    ·refine qC [4,8] (by kernel_rfl) rfl ?_;refine zai ?_ ?_
     ·refine Or.inr (Or.inl (zei [] (zei [] (zei _ (zei _ (zei _ (zei _ (zei _ (zai (hcl) (zai rfl (zai True.intro (zai rfl ?_))))))))))));refine qC [8] (by kernel_rfl) rfl ?_;refine qC [13] (by kernel_rfl) rfl ?_;refine qC [14] (by kernel_rfl) rfl ?_;refine qE 15 rfl rfl rfl (by kernel_rfl) ?_;refine qK (by kernel_rfl) ?_;refine qN ?_;exact ⟨rfl,⟨rfl,rfl⟩,rfl⟩
     ·refine qC [4] (by kernel_rfl) rfl ?_;refine Or.inr (Or.inl (zei [] (zei [] (zei _ (zei _ (zei _ (zei _ (zei _ (zai (hcl) (zai rfl (zai True.intro (zai rfl ?_))))))))))));refine qC [13] (by kernel_rfl) rfl ?_;refine qC [14] (by kernel_rfl) rfl ?_;refine qE 15 rfl rfl rfl (by kernel_rfl) ?_;refine qK (by kernel_rfl) ?_;refine qN ?_;exact ⟨rfl,⟨rfl,rfl⟩,rfl⟩
   refine zai ?_ ?_
   ·refine qC [3,12] (by kernel_rfl) rfl ?_;refine zai ?_ ?_
    ·refine qC [4,12] (by kernel_rfl) rfl ?_;refine zai ?_ ?_
     ·refine Or.inr (Or.inl (zei [] (zei [] (zei _ (zei _ (zei _ (zei _ (zei _ (zai (hcl) (zai rfl (zai True.intro (zai rfl ?_))))))))))));refine qC [12] (by kernel_rfl) rfl ?_;refine qC [13] (by kernel_rfl) rfl ?_;refine qC [14] (by kernel_rfl) rfl ?_;refine qE 15 rfl rfl rfl (by kernel_rfl) ?_;refine qK (by kernel_rfl) ?_;refine qN ?_;exact ⟨rfl,⟨rfl,rfl⟩,rfl⟩
     ·refine qC [4] (by kernel_rfl) rfl ?_;refine Or.inr (Or.inl (zei [] (zei [] (zei _ (zei _ (zei _ (zei _ (zei _ (zai (hcl) (zai rfl (zai True.intro (zai rfl ?_))))))))))));refine qC [13] (by kernel_rfl) rfl ?_;refine qC [14] (by kernel_rfl) rfl ?_;refine qE 15 rfl rfl rfl (by kernel_rfl) ?_;refine qK (by kernel_rfl) ?_;refine qN ?_;exact ⟨rfl,⟨rfl,rfl⟩,rfl⟩
    ·refine qC [3] (by kernel_rfl) rfl ?_;refine qC [4] (by kernel_rfl) rfl ?_;refine Or.inr (Or.inl (zei [] (zei [] (zei _ (zei _ (zei _ (zei _ (zei _ (zai (hcl) (zai rfl (zai True.intro (zai rfl ?_))))))))))));refine qC [13] (by kernel_rfl) rfl ?_;refine qC [14] (by kernel_rfl) rfl ?_;refine qE 15 rfl rfl rfl (by kernel_rfl) ?_;refine qK (by kernel_rfl) ?_;refine qN ?_;exact ⟨rfl,⟨rfl,rfl⟩,rfl⟩
   ·refine qC [3,8] (by kernel_rfl) rfl ?_;refine zai ?_ ?_
    ·refine qC [4,8] (by kernel_rfl) rfl ?_;refine zai ?_ ?_
     ·refine Or.inr (Or.inl (zei [] (zei [] (zei _ (zei _ (zei _ (zei _ (zei _ (zai (hcl) (zai rfl (zai True.intro (zai rfl ?_))))))))))));refine qC [8] (by kernel_rfl) rfl ?_;refine qC [13] (by kernel_rfl) rfl ?_;refine qC [14] (by kernel_rfl) rfl ?_;refine qE 15 rfl rfl rfl (by kernel_rfl) ?_;refine qK (by kernel_rfl) ?_;refine qN ?_;exact ⟨rfl,⟨rfl,rfl⟩,rfl⟩
     ·refine qC [4] (by kernel_rfl) rfl ?_;refine Or.inr (Or.inl (zei [] (zei [] (zei _ (zei _ (zei _ (zei _ (zei _ (zai (hcl) (zai rfl (zai True.intro (zai rfl ?_))))))))))));refine qC [13] (by kernel_rfl) rfl ?_;refine qC [14] (by kernel_rfl) rfl ?_;refine qE 15 rfl rfl rfl (by kernel_rfl) ?_;refine qK (by kernel_rfl) ?_;refine qN ?_;exact ⟨rfl,⟨rfl,rfl⟩,rfl⟩
    ·refine qC [3] (by kernel_rfl) rfl ?_;refine qC [4] (by kernel_rfl) rfl ?_;refine Or.inr (Or.inl (zei [] (zei [] (zei _ (zei _ (zei _ (zei _ (zei _ (zai (hcl) (zai rfl (zai True.intro (zai rfl ?_))))))))))));refine qC [13] (by kernel_rfl) rfl ?_;refine qC [14] (by kernel_rfl) rfl ?_;refine qE 15 rfl rfl rfl (by kernel_rfl) ?_;refine qK (by kernel_rfl) ?_;refine qN ?_;exact ⟨rfl,⟨rfl,rfl⟩,rfl⟩
abbrev zRL : List C:=[.lit (.slice none 0 0),.lit (.int .i64 0)]
def insT (es : List Ent) (j : Nat) (e : Ent) (i : Nat) : List Ent:=if i < j then es.take i else insE (es.take i) j e
def doB (num at_ id bad at2 want : Int) : Bool:=((true && decide (num = bad)) && decide (at_ = at2)) && decide (id = want)
theorem acallo_arg {P : Program} {f : FuncId} {xs ys : List A} {ob ob' : Obs} {m m' : Nat} {r : A} (h : ∀ ok ρ w vs,xA ok ρ w xs vs → xA ok ρ w ys vs) (hc : qW P f ys ob m r ob' m') : qW P f xs ob m r ob' m' :=
  ⟨hc.1,fun cx ρ w vs h1 h2 h3 h4 h5=>hc.2 cx ρ w vs h1 h2 h3 h4 (h _ _ _ _ h5)⟩
def plays (L : Lst) (s : List Edt) (i : Nat) : Lst:=(s.take i).foldl doL L
theorem heavy_ok {s : List Edt} (h : heavyB s = false) : s.length ≤ 51 ∧ ∀ e ∈ s,muchB e.2.2 = false:=by
  unfold heavyB at h;simp only [Bool.or_eq_false_iff,decide_eq_false_iff_not] at h;exact ⟨by omega,fun e he=>by simpa using List.any_eq_false.1 h.2 e he⟩
end Q
end Ab
end Go.Proofs.YtojipboabgebfaaGreatDoor
namespace Go.Proofs.YtojipboabgebfaaGreatDoor
open Go.RowKit
namespace Ab
set_option maxRecDepth 100000
abbrev rEdk (κ : Nat) : Rd Edt:=.st (.int .i64) (.st (.int .i64) (.slk κ rFld))
namespace Q
def goodN (x : Edt) : Int:=if x.1 = 2 then (if 0 < x.2.2.length then 2 else 0) else if x.1 = 1 ∨ x.1 = 3 then (chkR x.2.2).2 else 2
def chkF (k : Int) : List Edt → Int × Int
  | []=>(-9,0)
  | x :: r=>if goodN x ≠ 0 then (k,goodN x) else chkF (k + 1) r
def chkB (l : List Edt) : Int × Int:=if l.length < 1 ∨ 40 < l.length then (-9,1) else chkF 0 l
def oneN (L : Lst) (e : Edt) : Int :=
  if e.1 = 1 then (if atE L.1 e.2.1 < 0 then 7 else (chkR e.2.2).2)
  else if e.1 = 2 then (if atE L.1 e.2.1 < 0 then 7 else 0)
  else if atE L.1 e.2.1 < 0 ∧ e.2.1 ≠ 0 then 7 else if (chkR e.2.2).2 ≠ 0 then (chkR e.2.2).2 else if 400 ≤ L.2.2 then 11 else 0
def newN (L : Lst) (e : Edt) : Int:=if e.1 = 1 ∨ e.1 = 2 then 0 else if oneN L e = 0 then L.2.1 else 0
def batK (k : Int) (L : Lst) : List Edt → Int × Int
  | []=>(-9,0)
  | x :: r=>if oneN L x ≠ 0 then (k,oneN L x) else batK (k + 1) (doL L x) r
def doR (L : Lst) (s : List Edt) : Int × Int:=if (chkB s).2 ≠ 0 then chkB s else batK 0 L s
def idsT (L : Lst) (s : List Edt) (i : Nat) : List Int:=((List.range i).map fun j=>newN (plays L s j) (s.getD j ((0 : Int),(0 : Int),([] : List Fld)))).filter posI
end Q
end Ab
end Go.Proofs.YtojipboabgebfaaGreatDoor
namespace Go.Proofs.YtojipboabgebfaaGreatDoor
open Go.RowKit
namespace Ab
namespace Q
abbrev Fate:=List Fld × Bool
def keepM (M : List (Int × Fate)) (x : Edt) : List (Int × Fate) :=
  if x.1 = 2 then setM M x.2.1 ([],true) else if x.1 = 1 then (if (getM M x.2.1).isSome then M else setM M x.2.1 (x.2.2,false)) else M
def keepN (n : Int) (x : Edt) : Int:=if x.1 = 3 then n - 1 else n
def fatF (o : Option Fate) (f : List Fld) : List Fld:=match o with
  | some (g,false)=>g
  | _=>f
def xG (n : Int) (M : List (Int × Fate)) (x : Edt) : Edt:=if x.1 = 3 then (x.1,x.2.1,fatF (getM M (n - 1)) x.2.2) else x
def xO (f n : Int) (M : List (Int × Fate)) (x : Edt) : Bool:=if x.1 = 1 then !(getM M x.2.1).isSome && !(decide (f ≤ x.2.1) && decide (x.2.1 < n)) else true
def yS : List Edt → List (Int × Fate)
  | []=>[]
  | x :: r=>keepM (yS r) x
def insC : List Edt → Nat
  | []=>0
  | x :: r=>(if x.1 = 3 then 1 else 0) + insC r
def upN (n : Int) (x : Edt) : Int:=if x.1 = 3 then n + 1 else n
theorem upN_le (n : Int) (x : Edt) : n ≤ upN n x:=by unfold upN;split <;> omega
theorem upN_not {n : Int} {x : Edt} (h : x.1 ≠ 3) : upN n x = n:=if_neg h
theorem upN_ins {n : Int} {x : Edt} (h : x.1 = 3) : upN n x = n + 1:=if_pos h
def sqL (f : Int) : Int → List Edt → List Edt
  | _,[]=>[]
  | n,x :: r=>(if xO f (upN n x) (yS r) x then [xG (upN n x) (yS r) x] else []) ++ sqL f (upN n x) r
theorem insC_le : ∀ l : List Edt,insC l ≤ l.length
  | []=>Nat.le_refl _
  | x :: r=>by
    have:=insC_le r;simp only [insC,List.length_cons];split <;> omega
theorem insC_snoc {l : List Edt} {i : Nat} (h : i < l.length) : insC (l.take (i + 1)) = insC (l.take i) + (if (l.getD i ((0 : Int),(0 : Int),([] : List Fld))).1 = 3 then 1 else 0):=by
  rw [← yG ((0 : Int),(0 : Int),([] : List Fld)) h];have app : ∀ a b : List Edt,insC (a ++ b) = insC a + insC b:=by
    intro a b
    induction a with
    | nil=>simp [insC]
    | cons x r ih=>simp only [List.cons_append,insC,ih];omega
  rw [app];rfl
theorem sqL_le (f : Int) : ∀ (n : Int) (l : List Edt),(sqL f n l).length ≤ l.length
  | _,[]=>Nat.le_refl _
  | n,x :: r=>by
    have:=sqL_le f (upN n x) r;rw [sqL,List.length_append,List.length_cons];have h2 : ∀ (b : Bool) (y : Edt),(if b then [y] else []).length ≤ 1:=by intro b y;cases b <;> simp
    have h3:=h2 (xO f (upN n x) (yS r) x) (xG (upN n x) (yS r) x);omega
theorem getM_set {α : Type} {n m : Int} {y : α} : ∀ {M : List (Int × α)},getM (setM M n y) m = if n = m then some y else getM M m
  | []=>by simp only [setM,getM]
  | e :: r=>by
    unfold setM
    by_cases h : e.1 = n
    · rw [if_pos h];simp only [getM]
      by_cases h2 : n = m
      · rw [if_pos h2,if_pos h2]
      · rw [if_neg h2,if_neg h2,if_neg (by rw [h];exact h2)]
    · rw [if_neg h];simp only [getM,getM_set (M:=r)]
      by_cases h2 : n = m
      · rw [if_neg (show ¬ e.1 = m by rw [← h2];exact h),if_pos h2,if_pos h2]
      · rw [if_neg h2,if_neg h2]
def fate (n : Int) : List Edt → Option Fate
  | []=>none
  | x :: r=>if x.1 = 2 ∧ x.2.1 = n then some ([],true) else if x.1 = 1 ∧ x.2.1 = n then (match fate n r with
    | some g=>some g
    | none=>some (x.2.2,false)) else fate n r
theorem fateM_get (n : Int) : ∀ l : List Edt,getM (yS l) n = fate n l
  | []=>rfl
  | x :: r=>by
    have ih:=fateM_get n r;show getM (keepM (yS r) x) n = _;unfold keepM fate
    by_cases h2 : x.1 = 2
    · rw [if_pos h2,getM_set]
      by_cases hn : x.2.1 = n
      · rw [if_pos hn,if_pos (show x.1 = 2 ∧ x.2.1 = n from ⟨h2,hn⟩)]
      · rw [if_neg hn,if_neg (show ¬ (x.1 = 2 ∧ x.2.1 = n) from fun h=>hn h.2),if_neg (show ¬ (x.1 = 1 ∧ x.2.1 = n) from fun h=>hn h.2),ih]
    · rw [if_neg h2,if_neg (show ¬ (x.1 = 2 ∧ x.2.1 = n) from fun h=>h2 h.1)]
      by_cases h1 : x.1 = 1
      · rw [if_pos h1]
        by_cases hn : x.2.1 = n
        · rw [if_pos (show x.1 = 1 ∧ x.2.1 = n from ⟨h1,hn⟩),← ih];cases hg : getM (yS r) n with
          | some g =>
            rw [if_pos (by rw [hn,hg];rfl)];exact hg
          | none =>
            rw [if_neg (by rw [hn,hg];decide),getM_set,if_pos hn]
        · rw [if_neg (show ¬ (x.1 = 1 ∧ x.2.1 = n) from fun h=>hn h.2)];split
          · exact ih
          · rw [getM_set,if_neg hn,ih]
      · rw [if_neg h1,if_neg (show ¬ (x.1 = 1 ∧ x.2.1 = n) from fun h=>h1 h.1),ih]
theorem fate_none {n : Int} : ∀ {l : List Edt},fate n l = none ↔ ∀ x ∈ l,¬ ((x.1 = 1 ∨ x.1 = 2) ∧ x.2.1 = n)
  | []=>by simp [fate]
  | x :: r=>by
    have ih:=fate_none (n:=n) (l:=r);unfold fate
    constructor
    · intro h y hy;split at h
      · cases h
      · rename_i h2;split at h
        · cases hf : fate n r with
          | some g=>rw [hf] at h;cases h
          | none=>rw [hf] at h;cases h
        · rename_i h1;rcases List.mem_cons.1 hy with rfl|hy
          · rintro ⟨h3|h3,h4⟩
            · exact h1 ⟨h3,h4⟩
            · exact h2 ⟨h3,h4⟩
          · exact ih.1 h y hy
    · intro h;rw [if_neg (fun h2=>h x (by simp) ⟨.inr h2.1,h2.2⟩),if_neg (fun h1=>h x (by simp) ⟨.inl h1.1,h1.2⟩)];exact ih.2 fun y hy=>h y (by simp [hy])
theorem keepY_id (n : Int) (M : List (Int × Fate)) (x : Edt) : (xG n M x).2.1 = x.2.1 ∧ (xG n M x).1 = x.1:=by
  unfold xG;split <;> exact ⟨rfl,rfl⟩
theorem mem_sq {f : Int} : ∀ {n : Int} {l : List Edt} {y : Edt},y ∈ sqL f n l → ∃ x ∈ l,x.1 = y.1 ∧ x.2.1 = y.2.1
  | _,[],_,h=>by cases h
  | n,x :: r,y,h=>by
    rw [sqL] at h;rcases List.mem_append.1 h with h|h
    · split at h
      · rw [List.mem_singleton.1 h];have:=keepY_id (upN n x) (yS r) x;exact ⟨x,by simp,this.2.symm,this.1.symm⟩
      · cases h
    · obtain ⟨z,hz,h1⟩:=mem_sq h;exact ⟨z,by simp [hz],h1⟩
theorem sq_given {f : Int} : ∀ {n : Int} {l : List Edt} {y : Edt},y ∈ sqL f n l → y.1 = 1 → ¬ (f ≤ y.2.1 ∧ y.2.1 < n)
  | _,[],_,h=>by cases h
  | n,x :: r,y,h=>by
    intro h1 h2;rw [sqL] at h;rcases List.mem_append.1 h with h|h
    · split at h
      · rename_i hb;rw [List.mem_singleton.1 h] at h1 h2;have hy:=keepY_id (upN n x) (yS r) x;rw [hy.2] at h1;rw [hy.1] at h2;unfold xO at hb;rw [if_pos h1] at hb;rw [upN_not (by omega)] at hb;simp [h2] at hb
      · cases h
    · exact sq_given h h1 ⟨h2.1,by have:=h2.2;have:=upN_le n x;omega⟩
theorem fate_sq {f : Int} {m : Int} : ∀ {n : Int} {l : List Edt},((∃ g,fate m l = some (g,true)) → ∃ g,fate m (sqL f n l) = some (g,true)) ∧ (fate m l = none → fate m (sqL f n l) = none)
  | _,[]=>⟨fun h=>h,fun h=>h⟩
  | n,x :: r=>by
    constructor
    · intro h;have ih:=(fate_sq (f:=f) (m:=m) (n:=upN n x) (l:=r)).1;rw [sqL];unfold fate at h
      by_cases h2 : x.1 = 2 ∧ x.2.1 = m
      · have hb : xO f (upN n x) (yS r) x = true:=by unfold xO;rw [if_neg (by omega)]
        have hy : xG (upN n x) (yS r) x = x:=by unfold xG;rw [if_neg (by omega)]
        rw [hb,hy];refine ⟨[],?_⟩;show fate m (x :: _) = _;unfold fate;rw [if_pos h2]
      · rw [if_neg h2] at h;have hr : ∃ g,fate m r = some (g,true):=by
          by_cases h1 : x.1 = 1 ∧ x.2.1 = m
          · rw [if_pos h1] at h;cases hf : fate m r with
            | none=>rw [hf] at h;obtain ⟨g,hg⟩:=h;cases hg
            | some g=>rw [hf] at h;exact h
          · rw [if_neg h1] at h;exact h
        obtain ⟨g,hg⟩:=ih hr;split
        · show ∃ g,fate m (xG (upN n x) (yS r) x :: sqL f (upN n x) r) = _;unfold fate;have hy:=keepY_id (upN n x) (yS r) x;rw [hy.1,hy.2,if_neg h2];split
          · rw [hg];exact ⟨g,rfl⟩
          · exact ⟨g,hg⟩
        · exact ⟨g,hg⟩
    · intro h;rw [fate_none] at h ⊢;intro y hy h3;obtain ⟨z,hz,h4,h5⟩:=mem_sq hy;exact h z hz (by rw [h4,h5];exact h3)
theorem fate_rep {n : Int} {g : List Fld} : ∀ {l : List Edt},fate n l = some (g,false) → ∃ y ∈ l,y.1 = 1 ∧ y.2.1 = n
  | [],h=>by cases h
  | x :: r,h=>by
    unfold fate at h;split at h
    · cases h
    · split at h
      · rename_i h1;exact ⟨x,by simp,h1⟩
      · obtain ⟨y,hy,h2⟩:=fate_rep h;exact ⟨y,by simp [hy],h2⟩
theorem fatF_gone {o : Option Fate} {f : List Fld} (h : o = none ∨ ∃ g,o = some (g,true)) : fatF o f = f:=by
  rcases h with rfl|⟨g,rfl⟩ <;> rfl
theorem sq_sq {f : Int} : ∀ {n : Int} {l : List Edt},f ≤ n → sqL f n (sqL f n l) = sqL f n l
  | _,[],_=>rfl
  | n,x :: r,hfn=>by
    have ih:=sq_sq (f:=f) (n:=upN n x) (l:=r) (by have:=upN_le n x;omega);rw [sqL]
    generalize hs : sqL f (upN n x) r = s at ih ⊢
    have hy:=keepY_id (upN n x) (yS r) x
    by_cases hb : xO f (upN n x) (yS r) x = true
    · rw [hb];show sqL f n (xG (upN n x) (yS r) x :: s) = xG (upN n x) (yS r) x :: s;have hu : upN n (xG (upN n x) (yS r) x) = upN n x:=by unfold upN at hy ⊢;rw [hy.2]
      rw [sqL,hu,ih];have e1 : xO f (upN n x) (yS s) (xG (upN n x) (yS r) x) = true:=by
        unfold xO;rw [hy.1,hy.2];split
        · rename_i h1;unfold xO at hb;rw [if_pos h1] at hb;rw [fateM_get] at hb ⊢;have hn : fate x.2.1 r = none:=by
            cases hf : fate x.2.1 r with
            | none=>rfl
            | some g=>rw [hf] at hb;simp at hb
          rw [hn] at hb;rw [← hs,fate_sq.2 hn];exact hb
        · rfl
      rw [e1];have e2 : xG (upN n x) (yS s) (xG (upN n x) (yS r) x) = xG (upN n x) (yS r) x:=by
        by_cases h3 : x.1 = 3
        · unfold xG;simp only [if_pos h3,upN_ins h3];have : fatF (getM (yS s) (n + 1 - 1)) (fatF (getM (yS r) (n + 1 - 1)) x.2.2) = fatF (getM (yS r) (n + 1 - 1)) x.2.2:=by
            rw [fateM_get,fateM_get,show n + 1 - 1 = n by omega];apply fatF_gone;rw [upN_ins h3] at hs;rw [← hs];cases hf : fate n r with
            | none=>exact .inl (fate_sq.2 hf)
            | some g =>
              obtain ⟨g,b⟩:=g;cases b with
              | true=>exact .inr (fate_sq.1 ⟨g,hf⟩)
              | false =>
                cases hf2 : fate n (sqL f (n + 1) r) with
                | none=>exact .inl rfl
                | some g2 =>
                  obtain ⟨g2,b⟩:=g2;cases b with
                  | true=>exact .inr ⟨g2,rfl⟩
                  | false =>
                    obtain ⟨y,hy1,hy2,hy3⟩:=fate_rep hf2;exact absurd ⟨by omega,by omega⟩ (sq_given hy1 hy2)
          rw [this]
        · unfold xG;simp only [if_neg h3]
      rw [e2];rfl
    · rw [if_neg hb];show sqL f n s = s;have h3 : x.1 ≠ 3:=fun h3=>hb (by unfold xO;rw [if_neg (by omega)])
      rw [upN_not h3] at ih;exact ih
def sqz (next : Int) (l : List Edt) : List Edt:=if 1 ≤ next ∧ next ≤ 2147483648 then sqL next next l else []
theorem sqz_yes {next : Int} {l : List Edt} (h : 1 ≤ next ∧ next ≤ 2147483648) : sqz next l = sqL next next l:=if_pos h
theorem sqz_no {next : Int} {l : List Edt} (h : next < 1 ∨ 2147483648 < next) : sqz next l = []:=if_neg (by omega)
theorem sqz_le (next : Int) (l : List Edt) : (sqz next l).length ≤ l.length:=by
  unfold sqz;split
  · exact sqL_le _ _ _
  · exact Nat.zero_le _
theorem sqz_sqz (next : Int) (l : List Edt) : sqz next (sqz next l) = sqz next l:=by
  unfold sqz;split
  · exact sq_sq (by omega)
  · rfl
theorem sq_back (f : Int) (l : List Edt) {i : Nat} (h : i < l.length) :
    yS (l.drop (l.length - (i + 1))) = keepM (yS (l.drop (l.length - i))) (l.getD (l.length - 1 - i) ((0 : Int),(0 : Int),([] : List Fld))) ∧
    f + (insC (l.take (l.length - (i + 1))) : Int) = keepN (f + (insC (l.take (l.length - i)) : Int)) (l.getD (l.length - 1 - i) ((0 : Int),(0 : Int),([] : List Fld))) ∧
    (sqL f (f + (insC (l.take (l.length - (i + 1))) : Int)) (l.drop (l.length - (i + 1)))).reverse = (sqL f (f + (insC (l.take (l.length - i)) : Int)) (l.drop (l.length - i))).reverse ++
      (if xO f (f + (insC (l.take (l.length - i)) : Int)) (yS (l.drop (l.length - i))) (l.getD (l.length - 1 - i) ((0 : Int),(0 : Int),([] : List Fld))) = true then [xG (f + (insC (l.take (l.length - i)) : Int)) (yS (l.drop (l.length - i))) (l.getD (l.length - 1 - i) ((0 : Int),(0 : Int),([] : List Fld)))] else []):=by
  obtain ⟨p,hp⟩ : ∃ p,p = l.length - 1 - i:=⟨_,rfl⟩;have hpl : p < l.length:=by omega
  rw [show l.length - (i + 1) = p by omega,show l.length - i = p + 1 by omega,← hp];have hd : l.drop p = l.getD p ((0 : Int),(0 : Int),([] : List Fld)) :: l.drop (p + 1):=by rw [List.drop_eq_getElem_cons hpl,getD_get hpl ((0 : Int),(0 : Int),([] : List Fld))]
  have hs:=insC_snoc hpl;have hu : f + (insC (l.take (p + 1)) : Int) = upN (f + (insC (l.take p) : Int)) (l.getD p ((0 : Int),(0 : Int),([] : List Fld))):=by
    rw [hs];unfold upN;split <;> omega
  refine ⟨by rw [hd];rfl,?_,?_⟩
  · rw [hs];unfold keepN;split <;> omega
  · rw [hd,sqL,← hu,List.reverse_append];split <;> rfl
end Q
end Ab
end Go.Proofs.YtojipboabgebfaaGreatDoor
namespace Go.Proofs.YtojipboabgebfaaGreatDoor
open Go.RowKit
namespace Ab
set_option maxRecDepth 100000
namespace Q
theorem a1_parse7 : parseS ⟨#[65,58,32,49,10]⟩ = .inr [(3,⟨#[65,58,32,49,10]⟩,[(⟨#[65]⟩,⟨#[49]⟩)])]:=by decide +kernel
def al0 : List Ent:=[((3,⟨#[65,58,32,49,10]⟩,[(⟨#[65]⟩,⟨#[49]⟩)]),1)]
def alF : List Fld:=[(⟨#[66]⟩,⟨#[50]⟩)]
def al1 : List Ent:=insE al0 0 (itmOf alF,2)
end Q
end Ab
end Go.Proofs.YtojipboabgebfaaGreatDoor
namespace Go.Proofs.YtojipboabgebfaaGreatDoor
open Go.RowKit
namespace Ab
set_option maxRecDepth 100000
theorem acallo_arg {P : Program} {f : FuncId} {xs ys : List A} {r : A} {ob ob' : Obs} {m m' : Nat} (h : ∀ ok ρ w vs,xA ok ρ w xs vs → xA ok ρ w ys vs) (hc : qW P f ys ob m r ob' m') : qW P f xs ob m r ob' m' :=
  ⟨hc.1,fun cx ρ w vs h1 h2 h3 h4 h5=>hc.2 cx ρ w vs h1 h2 h3 h4 (h _ _ _ _ h5)⟩
theorem tyTst : TyOk Tryz.prog 120 ty120:=tyOk120
namespace Q
abbrev TSt:=Lst × List Edt
abbrev rSt : Rd TSt:=.st (.ptk 0 (rLst 0)) (.sl rEdt)
def txO (sts : List TSt) : Obs:=[(0,.box 123 [.vec 1]),(1,.vec 120 rSt sts)]
theorem copyT_c (s : List Edt) (hf : ∀ e ∈ s,e.2.2.length ≤ 1000000) (hl : s.length ≤ 1000000) : yB Tryz.prog 65 [.one (.sl rEdt s)] (.one (.sl rEdt s)):=by
  refine qZ (rs:=[2]) Tryz.func65 rfl rfl rfl teOk rfl ?_;refine qD ?_;refine qB ?_;refine qD ?_;refine qB ?_;refine qD ?_;refine qD ?_;refine yU 3 31 rEdt rfl ?_;refine qB ?_;intro l2_1
  try simp only [zds] at l2_1
  refine qQ ?_;refine qY (fun (i : Nat)=>i ≤ s.length) (fun (i : Nat)=>[(3,.one (.vec 0)),(6,.one (.sl rEdt s)),(7,ii .i64 s.length),(8,ii .i64 i)]) (fun (i : Nat)=>[(0,.vec 31 rEdt (s.take i))]) 1 (fun (i : Nat)=>s.length - i) 0 (Nat.zero_le _) (qP ⟨rfl,rfl,rfl,rfl⟩ rfl rfl) ?_;intro i hI0;refine qD ?_;refine qB ?_;refine qD ?_;refine qM rfl (fun h9=>?_) (fun h9=>?_)
  ·try simp only [decide_eq_true_eq] at h9
   try simp only [zds] at h9
   have hil : i < s.length:=(by omega);refine qO ?_;refine qD ?_;refine qQ ?_;refine qD ?_;refine qB ?_;refine zai (by first|omega|assumption|decide|(simp only [zds];omega)|(simp <;> omega)) ?_;refine qD ?_;refine qB ?_;refine Or.inl ?_;refine zai (rfl) ?_;refine zei _ (zai (clone_c (s.getD i ((0 : Int),(0 : Int),([] : List Fld))).2.2 (hf _ (yN hil ((0 : Int),(0 : Int),([] : List Fld))))) ?_);refine qB ?_;refine zai (by exact qR (show (s.take i).length + 1 ≤ 1000000000 by rw [List.length_take];omega) (by decide)) ?_;refine qB ?_;refine zai (by first|omega|assumption|decide|(simp only [zds];omega)|(simp <;> omega)) ?_;exact ⟨i + 1,by omega,by first|omega|(simp <;> omega),qP ⟨rfl,rfl,rfl,(yH (by omega))⟩ (qS (by rw [← yG ((0 : Int),(0 : Int),([] : List Fld)) hil];try exact rfl)) rfl⟩
  ·try simp only [decide_eq_false_iff_not,Int.not_lt] at h9
   try simp only [zds] at h9
   refine yA ?_;refine qD ?_;refine qB ?_;refine qN ?_;rw [List.take_of_length_le (by omega)];exact rfl
theorem topen_c {k : Nat} (sts : List TSt) : yB Tryz.prog 72 [.one (.adk k (.slk k rSt) sts)] (ib (decide (0 < sts.length))):=by
  refine qZ (rs:=[2]) Tryz.func72 rfl rfl rfl teOk rfl ?_;refine qD ?_;refine qB ?_;refine qD ?_;refine qB ?_;refine zai (fun h=>trivial) ?_;refine zai (fun h=>⟨⟨h,trivial⟩,trivial⟩) ?_;refine zai (fun h=>⟨⟨h,trivial⟩,trivial⟩) ?_;refine zai (fun h=>⟨⟨h,trivial⟩,trivial⟩) ?_;refine zai (fun h=>⟨⟨h,trivial⟩,trivial⟩) ?_;refine zai (fun h=>⟨⟨h,trivial⟩,trivial⟩) ?_;refine zai (by exact fun h=>h) ?_;refine qN ?_;exact ib_eq (by simp)
theorem tmark_c {k : Nat} (sts : List TSt) (h : 0 < sts.length) : yB Tryz.prog 26 [.one (.adk k (.slk k rSt) sts)] (ii .i64 ((sts.length : Int) - 1)):=by
  refine qZ (rs:=[2]) Tryz.func26 rfl rfl rfl teOk rfl ?_;refine qD ?_;refine qB ?_;refine qD ?_;refine qD ?_;refine qB ?_;refine Or.inl ?_;refine zai (rfl) ?_;refine zei _ (zai (topen_c sts) ?_);refine qM rfl (fun h5=>?_) (fun h5=>?_)
  ·try simp only [decide_eq_false_iff_not,Bool.not_eq_true'] at h5
   try simp only [zds] at h5
   exfalso
   simp at h5;have h9 : sts.length = 0:=(by rw [h5];rfl);omega
  ·try simp only [decide_eq_true_eq,Bool.not_eq_false'] at h5
   try simp only [zds] at h5
   refine qO ?_;refine qD ?_;refine qB ?_;intro l3_4
   try simp only [zds] at l3_4
   refine zai (by first|omega|assumption|decide|(simp only [zds];omega)|(simp <;> omega)) ?_;refine qN ?_;rfl
theorem tnow_c {k : Nat} (sts : List TSt) (h : 0 < sts.length) : yB Tryz.prog 75 [.one (.adk k (.slk k rSt) sts)] (.agg (toL rSt (sts.getD (sts.length - 1) ((([] : List Ent),(0 : Int),(0 : Int)),([] : List Edt))))):=by
  refine acall_ofc (rs:=[.cell 2 120]) Tryz.func75 rfl rfl rfl teOk rfl ?_;refine qD ?_;refine qB ?_;refine qD ?_;refine yE rfl ?_;refine qE 0 rfl rfl rfl (by kernel_rfl) ?_;refine qE 1 rfl rfl rfl (by kernel_rfl) ?_;refine qE 2 rfl rfl rfl (by kernel_rfl) ?_;refine qE 4 rfl rfl rfl (by kernel_rfl) ?_;refine qE 5 rfl rfl rfl (by kernel_rfl) ?_;refine qE 6 rfl rfl rfl (by kernel_rfl) ?_;refine qC [3,7] (by kernel_rfl) rfl ?_;refine zai ?_ ?_
  ·refine qC [7] (by kernel_rfl) rfl ?_;refine qE 8 rfl rfl rfl (by kernel_rfl) ?_;intro l1_8
   try simp only [zds] at l1_8
   refine qE 9 rfl rfl rfl (by kernel_rfl) ?_;refine zai (by first|omega|assumption|decide|(simp only [zds];omega)|(simp <;> omega)) ?_;refine qE 10 rfl rfl rfl (by kernel_rfl) ?_;refine zai (by first|omega|assumption|decide|(simp only [zds];omega)|(simp <;> omega)) ?_;refine qC [11] (by kernel_rfl) rfl ?_;refine qC [12] (by kernel_rfl) rfl ?_;refine qK (by kernel_rfl) ?_;refine qN ?_;rw [show ((sts.length : Int) - 1).toNat = sts.length - 1 by omega];exact rfl
  ·refine qE 8 rfl rfl rfl (by kernel_rfl) ?_;intro l1_8
   try simp only [zds] at l1_8
   refine qE 9 rfl rfl rfl (by kernel_rfl) ?_;refine zai (by first|omega|assumption|decide|(simp only [zds];omega)|(simp <;> omega)) ?_;refine qC [3] (by kernel_rfl) rfl ?_;refine qE 10 rfl rfl rfl (by kernel_rfl) ?_;refine zai (by first|omega|assumption|decide|(simp only [zds];omega)|(simp <;> omega)) ?_;refine qC [11] (by kernel_rfl) rfl ?_;refine qC [12] (by kernel_rfl) rfl ?_;refine qK (by kernel_rfl) ?_;refine qN ?_;rw [show ((sts.length : Int) - 1).toNat = sts.length - 1 by omega];exact rfl
set_option maxHeartbeats 8000000 in
theorem ttake2_o {f : FuncId} {β γ : Type} (S : Rd β) (y : β) (T : Rd γ) (z : γ) (sts : List TSt) (L L' : Lst) (es : List Edt) (x : Edt) (h : 0 < sts.length) (h40 : sts.length ≤ 40) (hl : sts.getD (sts.length - 1) ((([] : List Ent),(0 : Int),(0 : Int)),([] : List Edt)) = (L,es)) (he : es.length ≤ 1000) (hL : L.1.length ≤ 1000000)
    (hdo : qW Tryz.prog f [.one (.own 0 0),.one (.addr S y),.one (.addr T z)] (lsO L) 2 (.one (.lit .nilIface)) (lsO L') 2) :
    qW Tryz.prog 70 [.one (.own 0 0),.agg (toL rEdt x),.one (.clo2 f (.addr S y) (.addr T z))] (txO sts) 2 (.one (.lit .nilIface)) (txO (sts ++ [(L',es ++ [x])])) 2:=by
  have hnow:=tnow_c (k:=1) sts h;rw [hl] at hnow;have hcp:=copyL_o (k:=0) L.1 L.2.1 L.2.2 hL;refine qU (rs:=[6]) Tryz.func70 rfl rfl rfl teOk (by decide) rfl ?_;refine qD ?_;refine qB ?_;refine qD ?_;refine qQ ?_;refine qD ?_;refine qB ?_;refine Or.inr (Or.inr (Or.inl ?_));refine zai rfl ?_;refine zei _ (zai (topen_c sts) ?_);refine qM rfl (fun h10=>?_) (fun h10=>?_)
  ·try simp only [decide_eq_false_iff_not,Bool.not_eq_true'] at h10
   try simp only [zds] at h10
   exfalso
   simp at h10;have h9 : sts.length = 0:=(by rw [h10];rfl);omega
  ·try simp only [decide_eq_true_eq,Bool.not_eq_false'] at h10
   try simp only [zds] at h10
   refine qD ?_;refine qB ?_;refine Or.inr (Or.inr (Or.inl ?_));refine zai rfl ?_;refine zei _ (zai (tmark_c sts h) ?_);refine qM rfl (fun h15=>?_) (fun h15=>?_)
   ·try simp only [decide_eq_true_eq] at h15
    try simp only [zds] at h15
    exfalso
    omega
   ·try simp only [decide_eq_false_iff_not,Int.not_le] at h15
    try simp only [zds] at h15
    refine qO ?_;refine qD ?_;refine qB ?_;refine Or.inr (Or.inr (Or.inl ?_));refine zai rfl ?_;refine zei _ (zai (hnow) ?_);refine acode_cut (fun (u : Unit)=>True) (fun (u : Unit)=>[(0,.one (.own 0 0)),(2,.one (.clo2 f (.addr S y) (.addr T z))),(8,.one (.own 7 0))]) (fun (u : Unit)=>[(0,.box 123 [.vec 1]),(1,.vec 120 rSt sts),(3,.vec 138 rEnt L.1),(4,.box 134 [.vec 3,.lit (.int .i64 L.2.1),.lit (.int .i64 L.2.2)]),(6,.vec 31 rEdt (es ++ [x])),(7,.box 120 [.own 4 0,.vec 6])]) 8 ?_ ?_
    ·refine yE rfl ?_;refine qE 0 rfl rfl rfl (by kernel_rfl) ?_;refine qE 4 rfl rfl rfl (by kernel_rfl) ?_;refine qE 5 rfl rfl rfl (by kernel_rfl) ?_;refine qE 6 rfl rfl rfl (by kernel_rfl) ?_;intro l6_6;refine qE 7 rfl rfl rfl (by kernel_rfl) ?_;refine qE 8 rfl rfl rfl (by kernel_rfl) ?_;intro l6_8;refine qE 9 rfl rfl rfl (by kernel_rfl) ?_;refine zai (by first|omega|assumption|decide|(simp only [zds];omega)|(simp <;> omega)) ?_;refine qC [1,10,14] (by kernel_rfl) rfl ?_;refine zai ?_ ?_
     ·refine Or.inr (Or.inr (Or.inl ?_));refine zai rfl ?_;refine zei _ (zai (hnow) ?_);refine qE 2 rfl rfl rfl (by kernel_rfl) ?_;refine qC [3,10,14] (by kernel_rfl) rfl ?_;refine zai ?_ ?_
      ·refine Or.inr (Or.inl (zei [] (zei [] (zei _ (zei _ (zei _ (zei _ (zei _ (zai (hcp) (zai rfl (zai True.intro (zai rfl ?_))))))))))));refine qC [10,14] (by kernel_rfl) rfl ?_;refine zai ?_ ?_
       ·refine qC [11,14] (by kernel_rfl) rfl ?_;refine zai ?_ ?_
        ·refine qC [12,14] (by kernel_rfl) rfl ?_;refine zai ?_ ?_
         ·refine zai (by exact ⟨Nat.one_pos,qR (show (es.take (es.length : Int).toNat).length + 1 ≤ 1000000000 by rw [List.length_take];omega) (by decide)⟩) ?_;refine qC [13,14] (by kernel_rfl) rfl ?_;refine zai ?_ ?_
          ·refine qC [14] (by kernel_rfl) rfl ?_;refine qC [15] (by kernel_rfl) rfl ?_;refine qK (by kernel_rfl) ?_;exact ⟨(),trivial,qP ⟨rfl,rfl,rfl⟩ ⟨rfl,rfl,rfl,rfl,(qS (by rw [Int.toNat_natCast,List.take_length];exact rfl)),rfl⟩ rfl⟩
          ·refine qC [13] (by kernel_rfl) rfl ?_;refine qC [15] (by kernel_rfl) rfl ?_;refine qK (by kernel_rfl) ?_;exact ⟨(),trivial,qP ⟨rfl,rfl,rfl⟩ ⟨rfl,rfl,rfl,rfl,(qS (by rw [Int.toNat_natCast,List.take_length];exact rfl)),rfl⟩ rfl⟩
         ·refine qC [12] (by kernel_rfl) rfl ?_;refine zai (by exact ⟨Nat.one_pos,qR (show (es.take (es.length : Int).toNat).length + 1 ≤ 1000000000 by rw [List.length_take];omega) (by decide)⟩) ?_;refine qC [13] (by kernel_rfl) rfl ?_;refine qC [15] (by kernel_rfl) rfl ?_;refine qL 6 7 rfl rfl rfl rfl ?_;refine qK (by kernel_rfl) ?_;exact ⟨(),trivial,qP ⟨rfl,rfl,rfl⟩ ⟨rfl,rfl,rfl,rfl,(qS (by rw [Int.toNat_natCast,List.take_length];exact rfl)),rfl⟩ rfl⟩
        ·refine qC [11] (by kernel_rfl) rfl ?_;refine qC [12] (by kernel_rfl) rfl ?_;refine zai (by exact ⟨Nat.one_pos,qR (show (es.take (es.length : Int).toNat).length + 1 ≤ 1000000000 by rw [List.length_take];omega) (by decide)⟩) ?_;refine qC [13] (by kernel_rfl) rfl ?_;refine qC [15] (by kernel_rfl) rfl ?_;refine qL 5 6 rfl rfl rfl rfl ?_;refine qL 6 7 rfl rfl rfl rfl ?_;refine qK (by kernel_rfl) ?_;exact ⟨(),trivial,qP ⟨rfl,rfl,rfl⟩ ⟨rfl,rfl,rfl,rfl,(qS (by rw [Int.toNat_natCast,List.take_length];exact rfl)),rfl⟩ rfl⟩
       ·refine qC [10] (by kernel_rfl) rfl ?_;refine qC [11] (by kernel_rfl) rfl ?_;refine qC [12] (by kernel_rfl) rfl ?_;refine zai (by exact ⟨Nat.one_pos,qR (show (es.take (es.length : Int).toNat).length + 1 ≤ 1000000000 by rw [List.length_take];omega) (by decide)⟩) ?_;refine qC [13] (by kernel_rfl) rfl ?_;refine qC [15] (by kernel_rfl) rfl ?_;refine qL 5 6 rfl rfl rfl rfl ?_;refine qL 6 7 rfl rfl rfl rfl ?_;refine qK (by kernel_rfl) ?_;exact ⟨(),trivial,qP ⟨rfl,rfl,rfl⟩ ⟨rfl,rfl,rfl,rfl,(qS (by rw [Int.toNat_natCast,List.take_length];exact rfl)),rfl⟩ rfl⟩
      refine zai ?_ ?_
      ·refine qC [3,11,14] (by kernel_rfl) rfl ?_;refine zai ?_ ?_
       ·refine Or.inr (Or.inl (zei [] (zei [] (zei _ (zei _ (zei _ (zei _ (zei _ (zai (hcp) (zai rfl (zai True.intro (zai rfl ?_))))))))))));refine qC [11,14] (by kernel_rfl) rfl ?_;refine zai ?_ ?_
        ·refine qC [12,14] (by kernel_rfl) rfl ?_;refine zai ?_ ?_
         ·refine zai (by exact ⟨Nat.one_pos,qR (show (es.take (es.length : Int).toNat).length + 1 ≤ 1000000000 by rw [List.length_take];omega) (by decide)⟩) ?_;refine qC [13,14] (by kernel_rfl) rfl ?_;refine zai ?_ ?_
          ·refine qC [14] (by kernel_rfl) rfl ?_;refine qC [15] (by kernel_rfl) rfl ?_;refine qK (by kernel_rfl) ?_;exact ⟨(),trivial,qP ⟨rfl,rfl,rfl⟩ ⟨rfl,rfl,rfl,rfl,(qS (by rw [Int.toNat_natCast,List.take_length];exact rfl)),rfl⟩ rfl⟩
          ·refine qC [13] (by kernel_rfl) rfl ?_;refine qC [15] (by kernel_rfl) rfl ?_;refine qK (by kernel_rfl) ?_;exact ⟨(),trivial,qP ⟨rfl,rfl,rfl⟩ ⟨rfl,rfl,rfl,rfl,(qS (by rw [Int.toNat_natCast,List.take_length];exact rfl)),rfl⟩ rfl⟩
         ·refine qC [12] (by kernel_rfl) rfl ?_;refine zai (by exact ⟨Nat.one_pos,qR (show (es.take (es.length : Int).toNat).length + 1 ≤ 1000000000 by rw [List.length_take];omega) (by decide)⟩) ?_;refine qC [13] (by kernel_rfl) rfl ?_;refine qC [15] (by kernel_rfl) rfl ?_;refine qL 6 7 rfl rfl rfl rfl ?_;refine qK (by kernel_rfl) ?_;exact ⟨(),trivial,qP ⟨rfl,rfl,rfl⟩ ⟨rfl,rfl,rfl,rfl,(qS (by rw [Int.toNat_natCast,List.take_length];exact rfl)),rfl⟩ rfl⟩
        ·refine qC [11] (by kernel_rfl) rfl ?_;refine qC [12] (by kernel_rfl) rfl ?_;refine zai (by exact ⟨Nat.one_pos,qR (show (es.take (es.length : Int).toNat).length + 1 ≤ 1000000000 by rw [List.length_take];omega) (by decide)⟩) ?_;refine qC [13] (by kernel_rfl) rfl ?_;refine qC [15] (by kernel_rfl) rfl ?_;refine qL 5 6 rfl rfl rfl rfl ?_;refine qL 6 7 rfl rfl rfl rfl ?_;refine qK (by kernel_rfl) ?_;exact ⟨(),trivial,qP ⟨rfl,rfl,rfl⟩ ⟨rfl,rfl,rfl,rfl,(qS (by rw [Int.toNat_natCast,List.take_length];exact rfl)),rfl⟩ rfl⟩
       refine zai ?_ ?_
       ·refine qC [3,14] (by kernel_rfl) rfl ?_;refine zai ?_ ?_
        ·refine Or.inr (Or.inl (zei [] (zei [] (zei _ (zei _ (zei _ (zei _ (zei _ (zai (hcp) (zai rfl (zai True.intro (zai rfl ?_))))))))))));refine qC [12,14] (by kernel_rfl) rfl ?_;refine zai ?_ ?_
         ·refine zai (by exact ⟨Nat.one_pos,qR (show (es.take (es.length : Int).toNat).length + 1 ≤ 1000000000 by rw [List.length_take];omega) (by decide)⟩) ?_;refine qC [13,14] (by kernel_rfl) rfl ?_;refine zai ?_ ?_
          ·refine qC [14] (by kernel_rfl) rfl ?_;refine qC [15] (by kernel_rfl) rfl ?_;refine qL 3 4 rfl rfl rfl rfl ?_;refine qL 4 5 rfl rfl rfl rfl ?_;refine qK (by kernel_rfl) ?_;exact ⟨(),trivial,qP ⟨rfl,rfl,rfl⟩ ⟨rfl,rfl,rfl,rfl,(qS (by rw [Int.toNat_natCast,List.take_length];exact rfl)),rfl⟩ rfl⟩
          ·refine qC [13] (by kernel_rfl) rfl ?_;refine qC [15] (by kernel_rfl) rfl ?_;refine qL 3 4 rfl rfl rfl rfl ?_;refine qL 4 5 rfl rfl rfl rfl ?_;refine qK (by kernel_rfl) ?_;exact ⟨(),trivial,qP ⟨rfl,rfl,rfl⟩ ⟨rfl,rfl,rfl,rfl,(qS (by rw [Int.toNat_natCast,List.take_length];exact rfl)),rfl⟩ rfl⟩
         ·refine qC [12] (by kernel_rfl) rfl ?_;refine zai (by exact ⟨Nat.one_pos,qR (show (es.take (es.length : Int).toNat).length + 1 ≤ 1000000000 by rw [List.length_take];omega) (by decide)⟩) ?_;refine qC [13] (by kernel_rfl) rfl ?_;refine qC [15] (by kernel_rfl) rfl ?_;refine qL 3 4 rfl rfl rfl rfl ?_;refine qL 4 5 rfl rfl rfl rfl ?_;refine qL 6 7 rfl rfl rfl rfl ?_;refine qK (by kernel_rfl) ?_;exact ⟨(),trivial,qP ⟨rfl,rfl,rfl⟩ ⟨rfl,rfl,rfl,rfl,(qS (by rw [Int.toNat_natCast,List.take_length];exact rfl)),rfl⟩ rfl⟩
        ·refine qC [3] (by kernel_rfl) rfl ?_;refine Or.inr (Or.inl (zei [] (zei [] (zei _ (zei _ (zei _ (zei _ (zei _ (zai (hcp) (zai rfl (zai True.intro (zai rfl ?_))))))))))));refine qC [12] (by kernel_rfl) rfl ?_;refine zai (by exact ⟨Nat.one_pos,qR (show (es.take (es.length : Int).toNat).length + 1 ≤ 1000000000 by rw [List.length_take];omega) (by decide)⟩) ?_;refine qC [13] (by kernel_rfl) rfl ?_;refine qC [15] (by kernel_rfl) rfl ?_;refine qL 3 5 rfl rfl rfl rfl ?_;refine qL 4 6 rfl rfl rfl rfl ?_;refine qL 6 7 rfl rfl rfl rfl ?_;refine qK (by kernel_rfl) ?_;exact ⟨(),trivial,qP ⟨rfl,rfl,rfl⟩ ⟨rfl,rfl,rfl,rfl,(qS (by rw [Int.toNat_natCast,List.take_length];exact rfl)),rfl⟩ rfl⟩
       ·refine qC [3,11] (by kernel_rfl) rfl ?_;refine zai ?_ ?_
        ·refine Or.inr (Or.inl (zei [] (zei [] (zei _ (zei _ (zei _ (zei _ (zei _ (zai (hcp) (zai rfl (zai True.intro (zai rfl ?_))))))))))));refine qC [11] (by kernel_rfl) rfl ?_;refine qC [12] (by kernel_rfl) rfl ?_;refine zai (by exact ⟨Nat.one_pos,qR (show (es.take (es.length : Int).toNat).length + 1 ≤ 1000000000 by rw [List.length_take];omega) (by decide)⟩) ?_;refine qC [13] (by kernel_rfl) rfl ?_;refine qC [15] (by kernel_rfl) rfl ?_;refine qL 3 4 rfl rfl rfl rfl ?_;refine qL 4 5 rfl rfl rfl rfl ?_;refine qL 5 6 rfl rfl rfl rfl ?_;refine qL 6 7 rfl rfl rfl rfl ?_;refine qK (by kernel_rfl) ?_;exact ⟨(),trivial,qP ⟨rfl,rfl,rfl⟩ ⟨rfl,rfl,rfl,rfl,(qS (by rw [Int.toNat_natCast,List.take_length];exact rfl)),rfl⟩ rfl⟩
        ·refine qC [3] (by kernel_rfl) rfl ?_;refine Or.inr (Or.inl (zei [] (zei [] (zei _ (zei _ (zei _ (zei _ (zei _ (zai (hcp) (zai rfl (zai True.intro (zai rfl ?_))))))))))));refine qC [12] (by kernel_rfl) rfl ?_;refine zai (by exact ⟨Nat.one_pos,qR (show (es.take (es.length : Int).toNat).length + 1 ≤ 1000000000 by rw [List.length_take];omega) (by decide)⟩) ?_;refine qC [13] (by kernel_rfl) rfl ?_;refine qC [15] (by kernel_rfl) rfl ?_;refine qL 3 5 rfl rfl rfl rfl ?_;refine qL 4 6 rfl rfl rfl rfl ?_;refine qL 5 6 rfl rfl rfl rfl ?_;refine qL 6 7 rfl rfl rfl rfl ?_;refine qK (by kernel_rfl) ?_;exact ⟨(),trivial,qP ⟨rfl,rfl,rfl⟩ ⟨rfl,rfl,rfl,rfl,(qS (by rw [Int.toNat_natCast,List.take_length];exact rfl)),rfl⟩ rfl⟩
      ·refine qC [3,10] (by kernel_rfl) rfl ?_;refine zai ?_ ?_
       ·refine Or.inr (Or.inl (zei [] (zei [] (zei _ (zei _ (zei _ (zei _ (zei _ (zai (hcp) (zai rfl (zai True.intro (zai rfl ?_))))))))))));refine qC [10] (by kernel_rfl) rfl ?_;refine qC [11] (by kernel_rfl) rfl ?_;refine qC [12] (by kernel_rfl) rfl ?_;refine zai (by exact ⟨Nat.one_pos,qR (show (es.take (es.length : Int).toNat).length + 1 ≤ 1000000000 by rw [List.length_take];omega) (by decide)⟩) ?_;refine qC [13] (by kernel_rfl) rfl ?_;refine qC [15] (by kernel_rfl) rfl ?_;refine qL 3 4 rfl rfl rfl rfl ?_;refine qL 4 5 rfl rfl rfl rfl ?_;refine qL 5 6 rfl rfl rfl rfl ?_;refine qL 6 7 rfl rfl rfl rfl ?_;refine qK (by kernel_rfl) ?_;exact ⟨(),trivial,qP ⟨rfl,rfl,rfl⟩ ⟨rfl,rfl,rfl,rfl,(qS (by rw [Int.toNat_natCast,List.take_length];exact rfl)),rfl⟩ rfl⟩
       ·refine qC [3,11] (by kernel_rfl) rfl ?_;refine zai ?_ ?_
        ·refine Or.inr (Or.inl (zei [] (zei [] (zei _ (zei _ (zei _ (zei _ (zei _ (zai (hcp) (zai rfl (zai True.intro (zai rfl ?_))))))))))));refine qC [11] (by kernel_rfl) rfl ?_;refine qC [12] (by kernel_rfl) rfl ?_;refine zai (by exact ⟨Nat.one_pos,qR (show (es.take (es.length : Int).toNat).length + 1 ≤ 1000000000 by rw [List.length_take];omega) (by decide)⟩) ?_;refine qC [13] (by kernel_rfl) rfl ?_;refine qC [15] (by kernel_rfl) rfl ?_;refine qL 3 4 rfl rfl rfl rfl ?_;refine qL 4 5 rfl rfl rfl rfl ?_;refine qL 5 6 rfl rfl rfl rfl ?_;refine qL 6 7 rfl rfl rfl rfl ?_;refine qK (by kernel_rfl) ?_;exact ⟨(),trivial,qP ⟨rfl,rfl,rfl⟩ ⟨rfl,rfl,rfl,rfl,(qS (by rw [Int.toNat_natCast,List.take_length];exact rfl)),rfl⟩ rfl⟩
        ·refine qC [3] (by kernel_rfl) rfl ?_;refine Or.inr (Or.inl (zei [] (zei [] (zei _ (zei _ (zei _ (zei _ (zei _ (zai (hcp) (zai rfl (zai True.intro (zai rfl ?_))))))))))));refine qC [12] (by kernel_rfl) rfl ?_;refine zai (by exact ⟨Nat.one_pos,qR (show (es.take (es.length : Int).toNat).length + 1 ≤ 1000000000 by rw [List.length_take];omega) (by decide)⟩) ?_;refine qC [13] (by kernel_rfl) rfl ?_;refine qC [15] (by kernel_rfl) rfl ?_;refine qL 3 5 rfl rfl rfl rfl ?_;refine qL 4 6 rfl rfl rfl rfl ?_;refine qL 5 6 rfl rfl rfl rfl ?_;refine qL 6 7 rfl rfl rfl rfl ?_;refine qK (by kernel_rfl) ?_;exact ⟨(),trivial,qP ⟨rfl,rfl,rfl⟩ ⟨rfl,rfl,rfl,rfl,(qS (by rw [Int.toNat_natCast,List.take_length];exact rfl)),rfl⟩ rfl⟩
     refine zai ?_ ?_
     ·refine qC [1,11,14] (by kernel_rfl) rfl ?_;refine zai ?_ ?_
      ·refine Or.inr (Or.inr (Or.inl ?_));refine zai rfl ?_;refine zei _ (zai (hnow) ?_);refine qE 2 rfl rfl rfl (by kernel_rfl) ?_;refine qC [3,11,14] (by kernel_rfl) rfl ?_;refine zai ?_ ?_
       ·refine Or.inr (Or.inl (zei [] (zei [] (zei _ (zei _ (zei _ (zei _ (zei _ (zai (hcp) (zai rfl (zai True.intro (zai rfl ?_))))))))))));refine qC [11,14] (by kernel_rfl) rfl ?_;refine zai ?_ ?_
        ·refine qC [12,14] (by kernel_rfl) rfl ?_;refine zai ?_ ?_
         ·refine zai (by exact ⟨Nat.one_pos,qR (show (es.take (es.length : Int).toNat).length + 1 ≤ 1000000000 by rw [List.length_take];omega) (by decide)⟩) ?_;refine qC [13,14] (by kernel_rfl) rfl ?_;refine zai ?_ ?_
          ·refine qC [14] (by kernel_rfl) rfl ?_;refine qC [15] (by kernel_rfl) rfl ?_;refine qK (by kernel_rfl) ?_;exact ⟨(),trivial,qP ⟨rfl,rfl,rfl⟩ ⟨rfl,rfl,rfl,rfl,(qS (by rw [Int.toNat_natCast,List.take_length];exact rfl)),rfl⟩ rfl⟩
          ·refine qC [13] (by kernel_rfl) rfl ?_;refine qC [15] (by kernel_rfl) rfl ?_;refine qK (by kernel_rfl) ?_;exact ⟨(),trivial,qP ⟨rfl,rfl,rfl⟩ ⟨rfl,rfl,rfl,rfl,(qS (by rw [Int.toNat_natCast,List.take_length];exact rfl)),rfl⟩ rfl⟩
         ·refine qC [12] (by kernel_rfl) rfl ?_;refine zai (by exact ⟨Nat.one_pos,qR (show (es.take (es.length : Int).toNat).length + 1 ≤ 1000000000 by rw [List.length_take];omega) (by decide)⟩) ?_;refine qC [13] (by kernel_rfl) rfl ?_;refine qC [15] (by kernel_rfl) rfl ?_;refine qL 6 7 rfl rfl rfl rfl ?_;refine qK (by kernel_rfl) ?_;exact ⟨(),trivial,qP ⟨rfl,rfl,rfl⟩ ⟨rfl,rfl,rfl,rfl,(qS (by rw [Int.toNat_natCast,List.take_length];exact rfl)),rfl⟩ rfl⟩
        ·refine qC [11] (by kernel_rfl) rfl ?_;refine qC [12] (by kernel_rfl) rfl ?_;refine zai (by exact ⟨Nat.one_pos,qR (show (es.take (es.length : Int).toNat).length + 1 ≤ 1000000000 by rw [List.length_take];omega) (by decide)⟩) ?_;refine qC [13] (by kernel_rfl) rfl ?_;refine qC [15] (by kernel_rfl) rfl ?_;refine qL 5 6 rfl rfl rfl rfl ?_;refine qL 6 7 rfl rfl rfl rfl ?_;refine qK (by kernel_rfl) ?_;exact ⟨(),trivial,qP ⟨rfl,rfl,rfl⟩ ⟨rfl,rfl,rfl,rfl,(qS (by rw [Int.toNat_natCast,List.take_length];exact rfl)),rfl⟩ rfl⟩
       refine zai ?_ ?_
       ·refine qC [3,14] (by kernel_rfl) rfl ?_;refine zai ?_ ?_
        ·refine Or.inr (Or.inl (zei [] (zei [] (zei _ (zei _ (zei _ (zei _ (zei _ (zai (hcp) (zai rfl (zai True.intro (zai rfl ?_))))))))))));refine qC [12,14] (by kernel_rfl) rfl ?_;refine zai ?_ ?_
         ·refine zai (by exact ⟨Nat.one_pos,qR (show (es.take (es.length : Int).toNat).length + 1 ≤ 1000000000 by rw [List.length_take];omega) (by decide)⟩) ?_;refine qC [13,14] (by kernel_rfl) rfl ?_;refine zai ?_ ?_
          ·refine qC [14] (by kernel_rfl) rfl ?_;refine qC [15] (by kernel_rfl) rfl ?_;refine qL 3 4 rfl rfl rfl rfl ?_;refine qL 4 5 rfl rfl rfl rfl ?_;refine qK (by kernel_rfl) ?_;exact ⟨(),trivial,qP ⟨rfl,rfl,rfl⟩ ⟨rfl,rfl,rfl,rfl,(qS (by rw [Int.toNat_natCast,List.take_length];exact rfl)),rfl⟩ rfl⟩
          ·refine qC [13] (by kernel_rfl) rfl ?_;refine qC [15] (by kernel_rfl) rfl ?_;refine qL 3 4 rfl rfl rfl rfl ?_;refine qL 4 5 rfl rfl rfl rfl ?_;refine qK (by kernel_rfl) ?_;exact ⟨(),trivial,qP ⟨rfl,rfl,rfl⟩ ⟨rfl,rfl,rfl,rfl,(qS (by rw [Int.toNat_natCast,List.take_length];exact rfl)),rfl⟩ rfl⟩
         ·refine qC [12] (by kernel_rfl) rfl ?_;refine zai (by exact ⟨Nat.one_pos,qR (show (es.take (es.length : Int).toNat).length + 1 ≤ 1000000000 by rw [List.length_take];omega) (by decide)⟩) ?_;refine qC [13] (by kernel_rfl) rfl ?_;refine qC [15] (by kernel_rfl) rfl ?_;refine qL 3 4 rfl rfl rfl rfl ?_;refine qL 4 5 rfl rfl rfl rfl ?_;refine qL 6 7 rfl rfl rfl rfl ?_;refine qK (by kernel_rfl) ?_;exact ⟨(),trivial,qP ⟨rfl,rfl,rfl⟩ ⟨rfl,rfl,rfl,rfl,(qS (by rw [Int.toNat_natCast,List.take_length];exact rfl)),rfl⟩ rfl⟩
        ·refine qC [3] (by kernel_rfl) rfl ?_;refine Or.inr (Or.inl (zei [] (zei [] (zei _ (zei _ (zei _ (zei _ (zei _ (zai (hcp) (zai rfl (zai True.intro (zai rfl ?_))))))))))));refine qC [12] (by kernel_rfl) rfl ?_;refine zai (by exact ⟨Nat.one_pos,qR (show (es.take (es.length : Int).toNat).length + 1 ≤ 1000000000 by rw [List.length_take];omega) (by decide)⟩) ?_;refine qC [13] (by kernel_rfl) rfl ?_;refine qC [15] (by kernel_rfl) rfl ?_;refine qL 3 5 rfl rfl rfl rfl ?_;refine qL 4 6 rfl rfl rfl rfl ?_;refine qL 6 7 rfl rfl rfl rfl ?_;refine qK (by kernel_rfl) ?_;exact ⟨(),trivial,qP ⟨rfl,rfl,rfl⟩ ⟨rfl,rfl,rfl,rfl,(qS (by rw [Int.toNat_natCast,List.take_length];exact rfl)),rfl⟩ rfl⟩
       ·refine qC [3,11] (by kernel_rfl) rfl ?_;refine zai ?_ ?_
        ·refine Or.inr (Or.inl (zei [] (zei [] (zei _ (zei _ (zei _ (zei _ (zei _ (zai (hcp) (zai rfl (zai True.intro (zai rfl ?_))))))))))));refine qC [11] (by kernel_rfl) rfl ?_;refine qC [12] (by kernel_rfl) rfl ?_;refine zai (by exact ⟨Nat.one_pos,qR (show (es.take (es.length : Int).toNat).length + 1 ≤ 1000000000 by rw [List.length_take];omega) (by decide)⟩) ?_;refine qC [13] (by kernel_rfl) rfl ?_;refine qC [15] (by kernel_rfl) rfl ?_;refine qL 3 4 rfl rfl rfl rfl ?_;refine qL 4 5 rfl rfl rfl rfl ?_;refine qL 5 6 rfl rfl rfl rfl ?_;refine qL 6 7 rfl rfl rfl rfl ?_;refine qK (by kernel_rfl) ?_;exact ⟨(),trivial,qP ⟨rfl,rfl,rfl⟩ ⟨rfl,rfl,rfl,rfl,(qS (by rw [Int.toNat_natCast,List.take_length];exact rfl)),rfl⟩ rfl⟩
        ·refine qC [3] (by kernel_rfl) rfl ?_;refine Or.inr (Or.inl (zei [] (zei [] (zei _ (zei _ (zei _ (zei _ (zei _ (zai (hcp) (zai rfl (zai True.intro (zai rfl ?_))))))))))));refine qC [12] (by kernel_rfl) rfl ?_;refine zai (by exact ⟨Nat.one_pos,qR (show (es.take (es.length : Int).toNat).length + 1 ≤ 1000000000 by rw [List.length_take];omega) (by decide)⟩) ?_;refine qC [13] (by kernel_rfl) rfl ?_;refine qC [15] (by kernel_rfl) rfl ?_;refine qL 3 5 rfl rfl rfl rfl ?_;refine qL 4 6 rfl rfl rfl rfl ?_;refine qL 5 6 rfl rfl rfl rfl ?_;refine qL 6 7 rfl rfl rfl rfl ?_;refine qK (by kernel_rfl) ?_;exact ⟨(),trivial,qP ⟨rfl,rfl,rfl⟩ ⟨rfl,rfl,rfl,rfl,(qS (by rw [Int.toNat_natCast,List.take_length];exact rfl)),rfl⟩ rfl⟩
      refine zai ?_ ?_
      ·refine qC [1,14] (by kernel_rfl) rfl ?_;refine zai ?_ ?_
       ·refine Or.inr (Or.inr (Or.inl ?_));refine zai rfl ?_;refine zei _ (zai (hnow) ?_);refine qE 2 rfl rfl rfl (by kernel_rfl) ?_;refine qC [3,14] (by kernel_rfl) rfl ?_;refine zai ?_ ?_
        ·refine Or.inr (Or.inl (zei [] (zei [] (zei _ (zei _ (zei _ (zei _ (zei _ (zai (hcp) (zai rfl (zai True.intro (zai rfl ?_))))))))))));refine qC [12,14] (by kernel_rfl) rfl ?_;refine zai ?_ ?_
         ·refine zai (by exact ⟨Nat.one_pos,qR (show (es.take (es.length : Int).toNat).length + 1 ≤ 1000000000 by rw [List.length_take];omega) (by decide)⟩) ?_;refine qC [13,14] (by kernel_rfl) rfl ?_;refine zai ?_ ?_
          ·refine qC [14] (by kernel_rfl) rfl ?_;refine qC [15] (by kernel_rfl) rfl ?_;refine qL 3 4 rfl rfl rfl rfl ?_;refine qL 4 5 rfl rfl rfl rfl ?_;refine qK (by kernel_rfl) ?_;exact ⟨(),trivial,qP ⟨rfl,rfl,rfl⟩ ⟨rfl,rfl,rfl,rfl,(qS (by rw [Int.toNat_natCast,List.take_length];exact rfl)),rfl⟩ rfl⟩
          ·refine qC [13] (by kernel_rfl) rfl ?_;refine qC [15] (by kernel_rfl) rfl ?_;refine qL 3 4 rfl rfl rfl rfl ?_;refine qL 4 5 rfl rfl rfl rfl ?_;refine qK (by kernel_rfl) ?_;exact ⟨(),trivial,qP ⟨rfl,rfl,rfl⟩ ⟨rfl,rfl,rfl,rfl,(qS (by rw [Int.toNat_natCast,List.take_length];exact rfl)),rfl⟩ rfl⟩
         ·refine qC [12] (by kernel_rfl) rfl ?_;refine zai (by exact ⟨Nat.one_pos,qR (show (es.take (es.length : Int).toNat).length + 1 ≤ 1000000000 by rw [List.length_take];omega) (by decide)⟩) ?_;refine qC [13] (by kernel_rfl) rfl ?_;refine qC [15] (by kernel_rfl) rfl ?_;refine qL 3 4 rfl rfl rfl rfl ?_;refine qL 4 5 rfl rfl rfl rfl ?_;refine qL 6 7 rfl rfl rfl rfl ?_;refine qK (by kernel_rfl) ?_;exact ⟨(),trivial,qP ⟨rfl,rfl,rfl⟩ ⟨rfl,rfl,rfl,rfl,(qS (by rw [Int.toNat_natCast,List.take_length];exact rfl)),rfl⟩ rfl⟩
        ·refine qC [3] (by kernel_rfl) rfl ?_;refine Or.inr (Or.inl (zei [] (zei [] (zei _ (zei _ (zei _ (zei _ (zei _ (zai (hcp) (zai rfl (zai True.intro (zai rfl ?_))))))))))));refine qC [12] (by kernel_rfl) rfl ?_;refine zai (by exact ⟨Nat.one_pos,qR (show (es.take (es.length : Int).toNat).length + 1 ≤ 1000000000 by rw [List.length_take];omega) (by decide)⟩) ?_;refine qC [13] (by kernel_rfl) rfl ?_;refine qC [15] (by kernel_rfl) rfl ?_;refine qL 3 5 rfl rfl rfl rfl ?_;refine qL 4 6 rfl rfl rfl rfl ?_;refine qL 6 7 rfl rfl rfl rfl ?_;refine qK (by kernel_rfl) ?_;exact ⟨(),trivial,qP ⟨rfl,rfl,rfl⟩ ⟨rfl,rfl,rfl,rfl,(qS (by rw [Int.toNat_natCast,List.take_length];exact rfl)),rfl⟩ rfl⟩
       ·refine qC [1] (by kernel_rfl) rfl ?_;refine Or.inr (Or.inr (Or.inl ?_));refine zai rfl ?_;refine zei _ (zai (hnow) ?_);refine qE 2 rfl rfl rfl (by kernel_rfl) ?_;refine qC [3] (by kernel_rfl) rfl ?_;refine Or.inr (Or.inl (zei [] (zei [] (zei _ (zei _ (zei _ (zei _ (zei _ (zai (hcp) (zai rfl (zai True.intro (zai rfl ?_))))))))))));refine qC [12] (by kernel_rfl) rfl ?_;refine zai (by exact ⟨Nat.one_pos,qR (show (es.take (es.length : Int).toNat).length + 1 ≤ 1000000000 by rw [List.length_take];omega) (by decide)⟩) ?_;refine qC [13] (by kernel_rfl) rfl ?_;refine qC [15] (by kernel_rfl) rfl ?_;refine qL 3 5 rfl rfl rfl rfl ?_;refine qL 4 6 rfl rfl rfl rfl ?_;refine qL 6 7 rfl rfl rfl rfl ?_;refine qK (by kernel_rfl) ?_;exact ⟨(),trivial,qP ⟨rfl,rfl,rfl⟩ ⟨rfl,rfl,rfl,rfl,(qS (by rw [Int.toNat_natCast,List.take_length];exact rfl)),rfl⟩ rfl⟩
      ·refine qC [1,11] (by kernel_rfl) rfl ?_;refine zai ?_ ?_
       ·refine Or.inr (Or.inr (Or.inl ?_));refine zai rfl ?_;refine zei _ (zai (hnow) ?_);refine qE 2 rfl rfl rfl (by kernel_rfl) ?_;refine qC [3,11] (by kernel_rfl) rfl ?_;refine zai ?_ ?_
        ·refine Or.inr (Or.inl (zei [] (zei [] (zei _ (zei _ (zei _ (zei _ (zei _ (zai (hcp) (zai rfl (zai True.intro (zai rfl ?_))))))))))));refine qC [11] (by kernel_rfl) rfl ?_;refine qC [12] (by kernel_rfl) rfl ?_;refine zai (by exact ⟨Nat.one_pos,qR (show (es.take (es.length : Int).toNat).length + 1 ≤ 1000000000 by rw [List.length_take];omega) (by decide)⟩) ?_;refine qC [13] (by kernel_rfl) rfl ?_;refine qC [15] (by kernel_rfl) rfl ?_;refine qL 3 4 rfl rfl rfl rfl ?_;refine qL 4 5 rfl rfl rfl rfl ?_;refine qL 5 6 rfl rfl rfl rfl ?_;refine qL 6 7 rfl rfl rfl rfl ?_;refine qK (by kernel_rfl) ?_;exact ⟨(),trivial,qP ⟨rfl,rfl,rfl⟩ ⟨rfl,rfl,rfl,rfl,(qS (by rw [Int.toNat_natCast,List.take_length];exact rfl)),rfl⟩ rfl⟩
        ·refine qC [3] (by kernel_rfl) rfl ?_;refine Or.inr (Or.inl (zei [] (zei [] (zei _ (zei _ (zei _ (zei _ (zei _ (zai (hcp) (zai rfl (zai True.intro (zai rfl ?_))))))))))));refine qC [12] (by kernel_rfl) rfl ?_;refine zai (by exact ⟨Nat.one_pos,qR (show (es.take (es.length : Int).toNat).length + 1 ≤ 1000000000 by rw [List.length_take];omega) (by decide)⟩) ?_;refine qC [13] (by kernel_rfl) rfl ?_;refine qC [15] (by kernel_rfl) rfl ?_;refine qL 3 5 rfl rfl rfl rfl ?_;refine qL 4 6 rfl rfl rfl rfl ?_;refine qL 5 6 rfl rfl rfl rfl ?_;refine qL 6 7 rfl rfl rfl rfl ?_;refine qK (by kernel_rfl) ?_;exact ⟨(),trivial,qP ⟨rfl,rfl,rfl⟩ ⟨rfl,rfl,rfl,rfl,(qS (by rw [Int.toNat_natCast,List.take_length];exact rfl)),rfl⟩ rfl⟩
       ·refine qC [1] (by kernel_rfl) rfl ?_;refine Or.inr (Or.inr (Or.inl ?_));refine zai rfl ?_;refine zei _ (zai (hnow) ?_);refine qE 2 rfl rfl rfl (by kernel_rfl) ?_;refine qC [3] (by kernel_rfl) rfl ?_;refine Or.inr (Or.inl (zei [] (zei [] (zei _ (zei _ (zei _ (zei _ (zei _ (zai (hcp) (zai rfl (zai True.intro (zai rfl ?_))))))))))));refine qC [12] (by kernel_rfl) rfl ?_;refine zai (by exact ⟨Nat.one_pos,qR (show (es.take (es.length : Int).toNat).length + 1 ≤ 1000000000 by rw [List.length_take];omega) (by decide)⟩) ?_;refine qC [13] (by kernel_rfl) rfl ?_;refine qC [15] (by kernel_rfl) rfl ?_;refine qL 3 5 rfl rfl rfl rfl ?_;refine qL 4 6 rfl rfl rfl rfl ?_;refine qL 5 6 rfl rfl rfl rfl ?_;refine qL 6 7 rfl rfl rfl rfl ?_;refine qK (by kernel_rfl) ?_;exact ⟨(),trivial,qP ⟨rfl,rfl,rfl⟩ ⟨rfl,rfl,rfl,rfl,(qS (by rw [Int.toNat_natCast,List.take_length];exact rfl)),rfl⟩ rfl⟩
     ·refine qC [1,10] (by kernel_rfl) rfl ?_;refine zai ?_ ?_
      ·refine Or.inr (Or.inr (Or.inl ?_));refine zai rfl ?_;refine zei _ (zai (hnow) ?_);refine qE 2 rfl rfl rfl (by kernel_rfl) ?_;refine qC [3,10] (by kernel_rfl) rfl ?_;refine zai ?_ ?_
       ·refine Or.inr (Or.inl (zei [] (zei [] (zei _ (zei _ (zei _ (zei _ (zei _ (zai (hcp) (zai rfl (zai True.intro (zai rfl ?_))))))))))));refine qC [10] (by kernel_rfl) rfl ?_;refine qC [11] (by kernel_rfl) rfl ?_;refine qC [12] (by kernel_rfl) rfl ?_;refine zai (by exact ⟨Nat.one_pos,qR (show (es.take (es.length : Int).toNat).length + 1 ≤ 1000000000 by rw [List.length_take];omega) (by decide)⟩) ?_;refine qC [13] (by kernel_rfl) rfl ?_;refine qC [15] (by kernel_rfl) rfl ?_;refine qL 3 4 rfl rfl rfl rfl ?_;refine qL 4 5 rfl rfl rfl rfl ?_;refine qL 5 6 rfl rfl rfl rfl ?_;refine qL 6 7 rfl rfl rfl rfl ?_;refine qK (by kernel_rfl) ?_;exact ⟨(),trivial,qP ⟨rfl,rfl,rfl⟩ ⟨rfl,rfl,rfl,rfl,(qS (by rw [Int.toNat_natCast,List.take_length];exact rfl)),rfl⟩ rfl⟩
       ·refine qC [3,11] (by kernel_rfl) rfl ?_;refine zai ?_ ?_
        ·refine Or.inr (Or.inl (zei [] (zei [] (zei _ (zei _ (zei _ (zei _ (zei _ (zai (hcp) (zai rfl (zai True.intro (zai rfl ?_))))))))))));refine qC [11] (by kernel_rfl) rfl ?_;refine qC [12] (by kernel_rfl) rfl ?_;refine zai (by exact ⟨Nat.one_pos,qR (show (es.take (es.length : Int).toNat).length + 1 ≤ 1000000000 by rw [List.length_take];omega) (by decide)⟩) ?_;refine qC [13] (by kernel_rfl) rfl ?_;refine qC [15] (by kernel_rfl) rfl ?_;refine qL 3 4 rfl rfl rfl rfl ?_;refine qL 4 5 rfl rfl rfl rfl ?_;refine qL 5 6 rfl rfl rfl rfl ?_;refine qL 6 7 rfl rfl rfl rfl ?_;refine qK (by kernel_rfl) ?_;exact ⟨(),trivial,qP ⟨rfl,rfl,rfl⟩ ⟨rfl,rfl,rfl,rfl,(qS (by rw [Int.toNat_natCast,List.take_length];exact rfl)),rfl⟩ rfl⟩
        ·refine qC [3] (by kernel_rfl) rfl ?_;refine Or.inr (Or.inl (zei [] (zei [] (zei _ (zei _ (zei _ (zei _ (zei _ (zai (hcp) (zai rfl (zai True.intro (zai rfl ?_))))))))))));refine qC [12] (by kernel_rfl) rfl ?_;refine zai (by exact ⟨Nat.one_pos,qR (show (es.take (es.length : Int).toNat).length + 1 ≤ 1000000000 by rw [List.length_take];omega) (by decide)⟩) ?_;refine qC [13] (by kernel_rfl) rfl ?_;refine qC [15] (by kernel_rfl) rfl ?_;refine qL 3 5 rfl rfl rfl rfl ?_;refine qL 4 6 rfl rfl rfl rfl ?_;refine qL 5 6 rfl rfl rfl rfl ?_;refine qL 6 7 rfl rfl rfl rfl ?_;refine qK (by kernel_rfl) ?_;exact ⟨(),trivial,qP ⟨rfl,rfl,rfl⟩ ⟨rfl,rfl,rfl,rfl,(qS (by rw [Int.toNat_natCast,List.take_length];exact rfl)),rfl⟩ rfl⟩
      ·refine qC [1,11] (by kernel_rfl) rfl ?_;refine zai ?_ ?_
       ·refine Or.inr (Or.inr (Or.inl ?_));refine zai rfl ?_;refine zei _ (zai (hnow) ?_);refine qE 2 rfl rfl rfl (by kernel_rfl) ?_;refine qC [3,11] (by kernel_rfl) rfl ?_;refine zai ?_ ?_
        ·refine Or.inr (Or.inl (zei [] (zei [] (zei _ (zei _ (zei _ (zei _ (zei _ (zai (hcp) (zai rfl (zai True.intro (zai rfl ?_))))))))))));refine qC [11] (by kernel_rfl) rfl ?_;refine qC [12] (by kernel_rfl) rfl ?_;refine zai (by exact ⟨Nat.one_pos,qR (show (es.take (es.length : Int).toNat).length + 1 ≤ 1000000000 by rw [List.length_take];omega) (by decide)⟩) ?_;refine qC [13] (by kernel_rfl) rfl ?_;refine qC [15] (by kernel_rfl) rfl ?_;refine qL 3 4 rfl rfl rfl rfl ?_;refine qL 4 5 rfl rfl rfl rfl ?_;refine qL 5 6 rfl rfl rfl rfl ?_;refine qL 6 7 rfl rfl rfl rfl ?_;refine qK (by kernel_rfl) ?_;exact ⟨(),trivial,qP ⟨rfl,rfl,rfl⟩ ⟨rfl,rfl,rfl,rfl,(qS (by rw [Int.toNat_natCast,List.take_length];exact rfl)),rfl⟩ rfl⟩
        ·refine qC [3] (by kernel_rfl) rfl ?_;refine Or.inr (Or.inl (zei [] (zei [] (zei _ (zei _ (zei _ (zei _ (zei _ (zai (hcp) (zai rfl (zai True.intro (zai rfl ?_))))))))))));refine qC [12] (by kernel_rfl) rfl ?_;refine zai (by exact ⟨Nat.one_pos,qR (show (es.take (es.length : Int).toNat).length + 1 ≤ 1000000000 by rw [List.length_take];omega) (by decide)⟩) ?_;refine qC [13] (by kernel_rfl) rfl ?_;refine qC [15] (by kernel_rfl) rfl ?_;refine qL 3 5 rfl rfl rfl rfl ?_;refine qL 4 6 rfl rfl rfl rfl ?_;refine qL 5 6 rfl rfl rfl rfl ?_;refine qL 6 7 rfl rfl rfl rfl ?_;refine qK (by kernel_rfl) ?_;exact ⟨(),trivial,qP ⟨rfl,rfl,rfl⟩ ⟨rfl,rfl,rfl,rfl,(qS (by rw [Int.toNat_natCast,List.take_length];exact rfl)),rfl⟩ rfl⟩
       ·refine qC [1] (by kernel_rfl) rfl ?_;refine Or.inr (Or.inr (Or.inl ?_));refine zai rfl ?_;refine zei _ (zai (hnow) ?_);refine qE 2 rfl rfl rfl (by kernel_rfl) ?_;refine qC [3] (by kernel_rfl) rfl ?_;refine Or.inr (Or.inl (zei [] (zei [] (zei _ (zei _ (zei _ (zei _ (zei _ (zai (hcp) (zai rfl (zai True.intro (zai rfl ?_))))))))))));refine qC [12] (by kernel_rfl) rfl ?_;refine zai (by exact ⟨Nat.one_pos,qR (show (es.take (es.length : Int).toNat).length + 1 ≤ 1000000000 by rw [List.length_take];omega) (by decide)⟩) ?_;refine qC [13] (by kernel_rfl) rfl ?_;refine qC [15] (by kernel_rfl) rfl ?_;refine qL 3 5 rfl rfl rfl rfl ?_;refine qL 4 6 rfl rfl rfl rfl ?_;refine qL 5 6 rfl rfl rfl rfl ?_;refine qL 6 7 rfl rfl rfl rfl ?_;refine qK (by kernel_rfl) ?_;exact ⟨(),trivial,qP ⟨rfl,rfl,rfl⟩ ⟨rfl,rfl,rfl,rfl,(qS (by rw [Int.toNat_natCast,List.take_length];exact rfl)),rfl⟩ rfl⟩
    ·intro u hcut7;refine qD ?_;refine qD ?_;refine qB ?_;refine Or.inr (Or.inl (zei [] (zei [4,3] (zei _ (zei _ (zei _ (zei _ (zei _ (zai (hdo) (zai rfl (zai (zai (zai rfl rfl) (zai (zai rfl rfl) True.intro)) (zai rfl ?_))))))))))));refine qD ?_;refine qB ?_;refine qM rfl (fun h42=>?_) (fun h42=>?_)
     ·try simp only [Bool.not_eq_true'] at h42
      try simp only [zds] at h42
      simp at h42
     ·try simp only [Bool.not_eq_false'] at h42
      try simp only [zds] at h42
      refine qO ?_;refine qD ?_;refine acode_frz [6,3,4] ?_;refine yE rfl ?_;refine qE 0 rfl rfl rfl (by kernel_rfl) ?_;refine qE 1 rfl rfl rfl (by kernel_rfl) ?_;refine qE 2 rfl rfl rfl (by kernel_rfl) ?_;refine qE 3 rfl rfl rfl (by kernel_rfl) ?_;refine qC [4,5] (by kernel_rfl) rfl ?_;refine zai ?_ ?_
      ·refine qC [5] (by kernel_rfl) rfl ?_;refine qC [6] (by kernel_rfl) rfl ?_;refine qC [7] (by kernel_rfl) rfl ?_;refine zai (by exact qR (show sts.length + 1 ≤ 1000000000 by omega) (by decide)) ?_;refine qE 8 rfl rfl rfl (by kernel_rfl) ?_;refine qE 9 rfl rfl rfl (by kernel_rfl) ?_;refine qC [10] (by kernel_rfl) rfl ?_;refine qK (by kernel_rfl) ?_;refine qD ?_;refine qB ?_;refine qN ?_;exact ⟨rfl,⟨rfl,qS rfl⟩,rfl⟩
      ·refine qC [4,6] (by kernel_rfl) rfl ?_;refine zai ?_ ?_
       ·refine qC [6] (by kernel_rfl) rfl ?_;refine qC [7] (by kernel_rfl) rfl ?_;refine zai (by exact qR (show sts.length + 1 ≤ 1000000000 by omega) (by decide)) ?_;refine qE 8 rfl rfl rfl (by kernel_rfl) ?_;refine qE 9 rfl rfl rfl (by kernel_rfl) ?_;refine qC [10] (by kernel_rfl) rfl ?_;refine qK (by kernel_rfl) ?_;refine qD ?_;refine qB ?_;refine qN ?_;exact ⟨rfl,⟨rfl,qS rfl⟩,rfl⟩
       ·refine qC [4] (by kernel_rfl) rfl ?_;refine qC [7] (by kernel_rfl) rfl ?_;refine zai (by exact qR (show sts.length + 1 ≤ 1000000000 by omega) (by decide)) ?_;refine qE 8 rfl rfl rfl (by kernel_rfl) ?_;refine qE 9 rfl rfl rfl (by kernel_rfl) ?_;refine qC [10] (by kernel_rfl) rfl ?_;refine qK (by kernel_rfl) ?_;refine qD ?_;refine qB ?_;refine qN ?_;exact ⟨rfl,⟨rfl,qS rfl⟩,rfl⟩
set_option maxHeartbeats 8000000 in
theorem ttake1_o {f : FuncId} {β : Type} (S : Rd β) (y : β) (sts : List TSt) (L L' : Lst) (es : List Edt) (x : Edt) (h : 0 < sts.length) (h40 : sts.length ≤ 40) (hl : sts.getD (sts.length - 1) ((([] : List Ent),(0 : Int),(0 : Int)),([] : List Edt)) = (L,es)) (he : es.length ≤ 1000) (hL : L.1.length ≤ 1000000)
    (hdo : qW Tryz.prog f [.one (.own 0 0),.one (.addr S y)] (lsO L) 2 (.one (.lit .nilIface)) (lsO L') 2) :
    qW Tryz.prog 70 [.one (.own 0 0),.agg (toL rEdt x),.one (.clo f (.addr S y))] (txO sts) 2 (.one (.lit .nilIface)) (txO (sts ++ [(L',es ++ [x])])) 2:=by
  have hnow:=tnow_c (k:=1) sts h;rw [hl] at hnow;have hcp:=copyL_o (k:=0) L.1 L.2.1 L.2.2 hL;refine qU (rs:=[6]) Tryz.func70 rfl rfl rfl teOk (by decide) rfl ?_;refine qD ?_;refine qB ?_;refine qD ?_;refine qQ ?_;refine qD ?_;refine qB ?_;refine Or.inr (Or.inr (Or.inl ?_));refine zai rfl ?_;refine zei _ (zai (topen_c sts) ?_);refine qM rfl (fun h10=>?_) (fun h10=>?_)
  ·try simp only [decide_eq_false_iff_not,Bool.not_eq_true'] at h10
   try simp only [zds] at h10
   exfalso
   simp at h10;have h9 : sts.length = 0:=(by rw [h10];rfl);omega
  ·try simp only [decide_eq_true_eq,Bool.not_eq_false'] at h10
   try simp only [zds] at h10
   refine qD ?_;refine qB ?_;refine Or.inr (Or.inr (Or.inl ?_));refine zai rfl ?_;refine zei _ (zai (tmark_c sts h) ?_);refine qM rfl (fun h15=>?_) (fun h15=>?_)
   ·try simp only [decide_eq_true_eq] at h15
    try simp only [zds] at h15
    exfalso
    omega
   ·try simp only [decide_eq_false_iff_not,Int.not_le] at h15
    try simp only [zds] at h15
    refine qO ?_;refine qD ?_;refine qB ?_;refine Or.inr (Or.inr (Or.inl ?_));refine zai rfl ?_;refine zei _ (zai (hnow) ?_);refine acode_cut (fun (u : Unit)=>True) (fun (u : Unit)=>[(0,.one (.own 0 0)),(2,.one (.clo f (.addr S y))),(8,.one (.own 7 0))]) (fun (u : Unit)=>[(0,.box 123 [.vec 1]),(1,.vec 120 rSt sts),(3,.vec 138 rEnt L.1),(4,.box 134 [.vec 3,.lit (.int .i64 L.2.1),.lit (.int .i64 L.2.2)]),(6,.vec 31 rEdt (es ++ [x])),(7,.box 120 [.own 4 0,.vec 6])]) 8 ?_ ?_
    ·refine yE rfl ?_;refine qE 0 rfl rfl rfl (by kernel_rfl) ?_;refine qE 4 rfl rfl rfl (by kernel_rfl) ?_;refine qE 5 rfl rfl rfl (by kernel_rfl) ?_;refine qE 6 rfl rfl rfl (by kernel_rfl) ?_;intro l6_6;refine qE 7 rfl rfl rfl (by kernel_rfl) ?_;refine qE 8 rfl rfl rfl (by kernel_rfl) ?_;intro l6_8;refine qE 9 rfl rfl rfl (by kernel_rfl) ?_;refine zai (by first|omega|assumption|decide|(simp only [zds];omega)|(simp <;> omega)) ?_;refine qC [1,10,14] (by kernel_rfl) rfl ?_;refine zai ?_ ?_
     ·refine Or.inr (Or.inr (Or.inl ?_));refine zai rfl ?_;refine zei _ (zai (hnow) ?_);refine qE 2 rfl rfl rfl (by kernel_rfl) ?_;refine qC [3,10,14] (by kernel_rfl) rfl ?_;refine zai ?_ ?_
      ·refine Or.inr (Or.inl (zei [] (zei [] (zei _ (zei _ (zei _ (zei _ (zei _ (zai (hcp) (zai rfl (zai True.intro (zai rfl ?_))))))))))));refine qC [10,14] (by kernel_rfl) rfl ?_;refine zai ?_ ?_
       ·refine qC [11,14] (by kernel_rfl) rfl ?_;refine zai ?_ ?_
        ·refine qC [12,14] (by kernel_rfl) rfl ?_;refine zai ?_ ?_
         ·refine zai (by exact ⟨Nat.one_pos,qR (show (es.take (es.length : Int).toNat).length + 1 ≤ 1000000000 by rw [List.length_take];omega) (by decide)⟩) ?_;refine qC [13,14] (by kernel_rfl) rfl ?_;refine zai ?_ ?_
          ·refine qC [14] (by kernel_rfl) rfl ?_;refine qC [15] (by kernel_rfl) rfl ?_;refine qK (by kernel_rfl) ?_;exact ⟨(),trivial,qP ⟨rfl,rfl,rfl⟩ ⟨rfl,rfl,rfl,rfl,(qS (by rw [Int.toNat_natCast,List.take_length];exact rfl)),rfl⟩ rfl⟩
          ·refine qC [13] (by kernel_rfl) rfl ?_;refine qC [15] (by kernel_rfl) rfl ?_;refine qK (by kernel_rfl) ?_;exact ⟨(),trivial,qP ⟨rfl,rfl,rfl⟩ ⟨rfl,rfl,rfl,rfl,(qS (by rw [Int.toNat_natCast,List.take_length];exact rfl)),rfl⟩ rfl⟩
         ·refine qC [12] (by kernel_rfl) rfl ?_;refine zai (by exact ⟨Nat.one_pos,qR (show (es.take (es.length : Int).toNat).length + 1 ≤ 1000000000 by rw [List.length_take];omega) (by decide)⟩) ?_;refine qC [13] (by kernel_rfl) rfl ?_;refine qC [15] (by kernel_rfl) rfl ?_;refine qL 6 7 rfl rfl rfl rfl ?_;refine qK (by kernel_rfl) ?_;exact ⟨(),trivial,qP ⟨rfl,rfl,rfl⟩ ⟨rfl,rfl,rfl,rfl,(qS (by rw [Int.toNat_natCast,List.take_length];exact rfl)),rfl⟩ rfl⟩
        ·refine qC [11] (by kernel_rfl) rfl ?_;refine qC [12] (by kernel_rfl) rfl ?_;refine zai (by exact ⟨Nat.one_pos,qR (show (es.take (es.length : Int).toNat).length + 1 ≤ 1000000000 by rw [List.length_take];omega) (by decide)⟩) ?_;refine qC [13] (by kernel_rfl) rfl ?_;refine qC [15] (by kernel_rfl) rfl ?_;refine qL 5 6 rfl rfl rfl rfl ?_;refine qL 6 7 rfl rfl rfl rfl ?_;refine qK (by kernel_rfl) ?_;exact ⟨(),trivial,qP ⟨rfl,rfl,rfl⟩ ⟨rfl,rfl,rfl,rfl,(qS (by rw [Int.toNat_natCast,List.take_length];exact rfl)),rfl⟩ rfl⟩
       ·refine qC [10] (by kernel_rfl) rfl ?_;refine qC [11] (by kernel_rfl) rfl ?_;refine qC [12] (by kernel_rfl) rfl ?_;refine zai (by exact ⟨Nat.one_pos,qR (show (es.take (es.length : Int).toNat).length + 1 ≤ 1000000000 by rw [List.length_take];omega) (by decide)⟩) ?_;refine qC [13] (by kernel_rfl) rfl ?_;refine qC [15] (by kernel_rfl) rfl ?_;refine qL 5 6 rfl rfl rfl rfl ?_;refine qL 6 7 rfl rfl rfl rfl ?_;refine qK (by kernel_rfl) ?_;exact ⟨(),trivial,qP ⟨rfl,rfl,rfl⟩ ⟨rfl,rfl,rfl,rfl,(qS (by rw [Int.toNat_natCast,List.take_length];exact rfl)),rfl⟩ rfl⟩
      refine zai ?_ ?_
      ·refine qC [3,11,14] (by kernel_rfl) rfl ?_;refine zai ?_ ?_
       ·refine Or.inr (Or.inl (zei [] (zei [] (zei _ (zei _ (zei _ (zei _ (zei _ (zai (hcp) (zai rfl (zai True.intro (zai rfl ?_))))))))))));refine qC [11,14] (by kernel_rfl) rfl ?_;refine zai ?_ ?_
        ·refine qC [12,14] (by kernel_rfl) rfl ?_;refine zai ?_ ?_
         ·refine zai (by exact ⟨Nat.one_pos,qR (show (es.take (es.length : Int).toNat).length + 1 ≤ 1000000000 by rw [List.length_take];omega) (by decide)⟩) ?_;refine qC [13,14] (by kernel_rfl) rfl ?_;refine zai ?_ ?_
          ·refine qC [14] (by kernel_rfl) rfl ?_;refine qC [15] (by kernel_rfl) rfl ?_;refine qK (by kernel_rfl) ?_;exact ⟨(),trivial,qP ⟨rfl,rfl,rfl⟩ ⟨rfl,rfl,rfl,rfl,(qS (by rw [Int.toNat_natCast,List.take_length];exact rfl)),rfl⟩ rfl⟩
          ·refine qC [13] (by kernel_rfl) rfl ?_;refine qC [15] (by kernel_rfl) rfl ?_;refine qK (by kernel_rfl) ?_;exact ⟨(),trivial,qP ⟨rfl,rfl,rfl⟩ ⟨rfl,rfl,rfl,rfl,(qS (by rw [Int.toNat_natCast,List.take_length];exact rfl)),rfl⟩ rfl⟩
         ·refine qC [12] (by kernel_rfl) rfl ?_;refine zai (by exact ⟨Nat.one_pos,qR (show (es.take (es.length : Int).toNat).length + 1 ≤ 1000000000 by rw [List.length_take];omega) (by decide)⟩) ?_;refine qC [13] (by kernel_rfl) rfl ?_;refine qC [15] (by kernel_rfl) rfl ?_;refine qL 6 7 rfl rfl rfl rfl ?_;refine qK (by kernel_rfl) ?_;exact ⟨(),trivial,qP ⟨rfl,rfl,rfl⟩ ⟨rfl,rfl,rfl,rfl,(qS (by rw [Int.toNat_natCast,List.take_length];exact rfl)),rfl⟩ rfl⟩
        ·refine qC [11] (by kernel_rfl) rfl ?_;refine qC [12] (by kernel_rfl) rfl ?_;refine zai (by exact ⟨Nat.one_pos,qR (show (es.take (es.length : Int).toNat).length + 1 ≤ 1000000000 by rw [List.length_take];omega) (by decide)⟩) ?_;refine qC [13] (by kernel_rfl) rfl ?_;refine qC [15] (by kernel_rfl) rfl ?_;refine qL 5 6 rfl rfl rfl rfl ?_;refine qL 6 7 rfl rfl rfl rfl ?_;refine qK (by kernel_rfl) ?_;exact ⟨(),trivial,qP ⟨rfl,rfl,rfl⟩ ⟨rfl,rfl,rfl,rfl,(qS (by rw [Int.toNat_natCast,List.take_length];exact rfl)),rfl⟩ rfl⟩
       refine zai ?_ ?_
       ·refine qC [3,14] (by kernel_rfl) rfl ?_;refine zai ?_ ?_
        ·refine Or.inr (Or.inl (zei [] (zei [] (zei _ (zei _ (zei _ (zei _ (zei _ (zai (hcp) (zai rfl (zai True.intro (zai rfl ?_))))))))))));refine qC [12,14] (by kernel_rfl) rfl ?_;refine zai ?_ ?_
         ·refine zai (by exact ⟨Nat.one_pos,qR (show (es.take (es.length : Int).toNat).length + 1 ≤ 1000000000 by rw [List.length_take];omega) (by decide)⟩) ?_;refine qC [13,14] (by kernel_rfl) rfl ?_;refine zai ?_ ?_
          ·refine qC [14] (by kernel_rfl) rfl ?_;refine qC [15] (by kernel_rfl) rfl ?_;refine qL 3 4 rfl rfl rfl rfl ?_;refine qL 4 5 rfl rfl rfl rfl ?_;refine qK (by kernel_rfl) ?_;exact ⟨(),trivial,qP ⟨rfl,rfl,rfl⟩ ⟨rfl,rfl,rfl,rfl,(qS (by rw [Int.toNat_natCast,List.take_length];exact rfl)),rfl⟩ rfl⟩
          ·refine qC [13] (by kernel_rfl) rfl ?_;refine qC [15] (by kernel_rfl) rfl ?_;refine qL 3 4 rfl rfl rfl rfl ?_;refine qL 4 5 rfl rfl rfl rfl ?_;refine qK (by kernel_rfl) ?_;exact ⟨(),trivial,qP ⟨rfl,rfl,rfl⟩ ⟨rfl,rfl,rfl,rfl,(qS (by rw [Int.toNat_natCast,List.take_length];exact rfl)),rfl⟩ rfl⟩
         ·refine qC [12] (by kernel_rfl) rfl ?_;refine zai (by exact ⟨Nat.one_pos,qR (show (es.take (es.length : Int).toNat).length + 1 ≤ 1000000000 by rw [List.length_take];omega) (by decide)⟩) ?_;refine qC [13] (by kernel_rfl) rfl ?_;refine qC [15] (by kernel_rfl) rfl ?_;refine qL 3 4 rfl rfl rfl rfl ?_;refine qL 4 5 rfl rfl rfl rfl ?_;refine qL 6 7 rfl rfl rfl rfl ?_;refine qK (by kernel_rfl) ?_;exact ⟨(),trivial,qP ⟨rfl,rfl,rfl⟩ ⟨rfl,rfl,rfl,rfl,(qS (by rw [Int.toNat_natCast,List.take_length];exact rfl)),rfl⟩ rfl⟩
        ·refine qC [3] (by kernel_rfl) rfl ?_;refine Or.inr (Or.inl (zei [] (zei [] (zei _ (zei _ (zei _ (zei _ (zei _ (zai (hcp) (zai rfl (zai True.intro (zai rfl ?_))))))))))));refine qC [12] (by kernel_rfl) rfl ?_;refine zai (by exact ⟨Nat.one_pos,qR (show (es.take (es.length : Int).toNat).length + 1 ≤ 1000000000 by rw [List.length_take];omega) (by decide)⟩) ?_;refine qC [13] (by kernel_rfl) rfl ?_;refine qC [15] (by kernel_rfl) rfl ?_;refine qL 3 5 rfl rfl rfl rfl ?_;refine qL 4 6 rfl rfl rfl rfl ?_;refine qL 6 7 rfl rfl rfl rfl ?_;refine qK (by kernel_rfl) ?_;exact ⟨(),trivial,qP ⟨rfl,rfl,rfl⟩ ⟨rfl,rfl,rfl,rfl,(qS (by rw [Int.toNat_natCast,List.take_length];exact rfl)),rfl⟩ rfl⟩
       ·refine qC [3,11] (by kernel_rfl) rfl ?_;refine zai ?_ ?_
        ·refine Or.inr (Or.inl (zei [] (zei [] (zei _ (zei _ (zei _ (zei _ (zei _ (zai (hcp) (zai rfl (zai True.intro (zai rfl ?_))))))))))));refine qC [11] (by kernel_rfl) rfl ?_;refine qC [12] (by kernel_rfl) rfl ?_;refine zai (by exact ⟨Nat.one_pos,qR (show (es.take (es.length : Int).toNat).length + 1 ≤ 1000000000 by rw [List.length_take];omega) (by decide)⟩) ?_;refine qC [13] (by kernel_rfl) rfl ?_;refine qC [15] (by kernel_rfl) rfl ?_;refine qL 3 4 rfl rfl rfl rfl ?_;refine qL 4 5 rfl rfl rfl rfl ?_;refine qL 5 6 rfl rfl rfl rfl ?_;refine qL 6 7 rfl rfl rfl rfl ?_;refine qK (by kernel_rfl) ?_;exact ⟨(),trivial,qP ⟨rfl,rfl,rfl⟩ ⟨rfl,rfl,rfl,rfl,(qS (by rw [Int.toNat_natCast,List.take_length];exact rfl)),rfl⟩ rfl⟩
        ·refine qC [3] (by kernel_rfl) rfl ?_;refine Or.inr (Or.inl (zei [] (zei [] (zei _ (zei _ (zei _ (zei _ (zei _ (zai (hcp) (zai rfl (zai True.intro (zai rfl ?_))))))))))));refine qC [12] (by kernel_rfl) rfl ?_;refine zai (by exact ⟨Nat.one_pos,qR (show (es.take (es.length : Int).toNat).length + 1 ≤ 1000000000 by rw [List.length_take];omega) (by decide)⟩) ?_;refine qC [13] (by kernel_rfl) rfl ?_;refine qC [15] (by kernel_rfl) rfl ?_;refine qL 3 5 rfl rfl rfl rfl ?_;refine qL 4 6 rfl rfl rfl rfl ?_;refine qL 5 6 rfl rfl rfl rfl ?_;refine qL 6 7 rfl rfl rfl rfl ?_;refine qK (by kernel_rfl) ?_;exact ⟨(),trivial,qP ⟨rfl,rfl,rfl⟩ ⟨rfl,rfl,rfl,rfl,(qS (by rw [Int.toNat_natCast,List.take_length];exact rfl)),rfl⟩ rfl⟩
      ·refine qC [3,10] (by kernel_rfl) rfl ?_;refine zai ?_ ?_
       ·refine Or.inr (Or.inl (zei [] (zei [] (zei _ (zei _ (zei _ (zei _ (zei _ (zai (hcp) (zai rfl (zai True.intro (zai rfl ?_))))))))))));refine qC [10] (by kernel_rfl) rfl ?_;refine qC [11] (by kernel_rfl) rfl ?_;refine qC [12] (by kernel_rfl) rfl ?_;refine zai (by exact ⟨Nat.one_pos,qR (show (es.take (es.length : Int).toNat).length + 1 ≤ 1000000000 by rw [List.length_take];omega) (by decide)⟩) ?_;refine qC [13] (by kernel_rfl) rfl ?_;refine qC [15] (by kernel_rfl) rfl ?_;refine qL 3 4 rfl rfl rfl rfl ?_;refine qL 4 5 rfl rfl rfl rfl ?_;refine qL 5 6 rfl rfl rfl rfl ?_;refine qL 6 7 rfl rfl rfl rfl ?_;refine qK (by kernel_rfl) ?_;exact ⟨(),trivial,qP ⟨rfl,rfl,rfl⟩ ⟨rfl,rfl,rfl,rfl,(qS (by rw [Int.toNat_natCast,List.take_length];exact rfl)),rfl⟩ rfl⟩
       ·refine qC [3,11] (by kernel_rfl) rfl ?_;refine zai ?_ ?_
        ·refine Or.inr (Or.inl (zei [] (zei [] (zei _ (zei _ (zei _ (zei _ (zei _ (zai (hcp) (zai rfl (zai True.intro (zai rfl ?_))))))))))));refine qC [11] (by kernel_rfl) rfl ?_;refine qC [12] (by kernel_rfl) rfl ?_;refine zai (by exact ⟨Nat.one_pos,qR (show (es.take (es.length : Int).toNat).length + 1 ≤ 1000000000 by rw [List.length_take];omega) (by decide)⟩) ?_;refine qC [13] (by kernel_rfl) rfl ?_;refine qC [15] (by kernel_rfl) rfl ?_;refine qL 3 4 rfl rfl rfl rfl ?_;refine qL 4 5 rfl rfl rfl rfl ?_;refine qL 5 6 rfl rfl rfl rfl ?_;refine qL 6 7 rfl rfl rfl rfl ?_;refine qK (by kernel_rfl) ?_;exact ⟨(),trivial,qP ⟨rfl,rfl,rfl⟩ ⟨rfl,rfl,rfl,rfl,(qS (by rw [Int.toNat_natCast,List.take_length];exact rfl)),rfl⟩ rfl⟩
        ·refine qC [3] (by kernel_rfl) rfl ?_;refine Or.inr (Or.inl (zei [] (zei [] (zei _ (zei _ (zei _ (zei _ (zei _ (zai (hcp) (zai rfl (zai True.intro (zai rfl ?_))))))))))));refine qC [12] (by kernel_rfl) rfl ?_;refine zai (by exact ⟨Nat.one_pos,qR (show (es.take (es.length : Int).toNat).length + 1 ≤ 1000000000 by rw [List.length_take];omega) (by decide)⟩) ?_;refine qC [13] (by kernel_rfl) rfl ?_;refine qC [15] (by kernel_rfl) rfl ?_;refine qL 3 5 rfl rfl rfl rfl ?_;refine qL 4 6 rfl rfl rfl rfl ?_;refine qL 5 6 rfl rfl rfl rfl ?_;refine qL 6 7 rfl rfl rfl rfl ?_;refine qK (by kernel_rfl) ?_;exact ⟨(),trivial,qP ⟨rfl,rfl,rfl⟩ ⟨rfl,rfl,rfl,rfl,(qS (by rw [Int.toNat_natCast,List.take_length];exact rfl)),rfl⟩ rfl⟩
     refine zai ?_ ?_
     ·refine qC [1,11,14] (by kernel_rfl) rfl ?_;refine zai ?_ ?_
      ·refine Or.inr (Or.inr (Or.inl ?_));refine zai rfl ?_;refine zei _ (zai (hnow) ?_);refine qE 2 rfl rfl rfl (by kernel_rfl) ?_;refine qC [3,11,14] (by kernel_rfl) rfl ?_;refine zai ?_ ?_
       ·refine Or.inr (Or.inl (zei [] (zei [] (zei _ (zei _ (zei _ (zei _ (zei _ (zai (hcp) (zai rfl (zai True.intro (zai rfl ?_))))))))))));refine qC [11,14] (by kernel_rfl) rfl ?_;refine zai ?_ ?_
        ·refine qC [12,14] (by kernel_rfl) rfl ?_;refine zai ?_ ?_
         ·refine zai (by exact ⟨Nat.one_pos,qR (show (es.take (es.length : Int).toNat).length + 1 ≤ 1000000000 by rw [List.length_take];omega) (by decide)⟩) ?_;refine qC [13,14] (by kernel_rfl) rfl ?_;refine zai ?_ ?_
          ·refine qC [14] (by kernel_rfl) rfl ?_;refine qC [15] (by kernel_rfl) rfl ?_;refine qK (by kernel_rfl) ?_;exact ⟨(),trivial,qP ⟨rfl,rfl,rfl⟩ ⟨rfl,rfl,rfl,rfl,(qS (by rw [Int.toNat_natCast,List.take_length];exact rfl)),rfl⟩ rfl⟩
          ·refine qC [13] (by kernel_rfl) rfl ?_;refine qC [15] (by kernel_rfl) rfl ?_;refine qK (by kernel_rfl) ?_;exact ⟨(),trivial,qP ⟨rfl,rfl,rfl⟩ ⟨rfl,rfl,rfl,rfl,(qS (by rw [Int.toNat_natCast,List.take_length];exact rfl)),rfl⟩ rfl⟩
         ·refine qC [12] (by kernel_rfl) rfl ?_;refine zai (by exact ⟨Nat.one_pos,qR (show (es.take (es.length : Int).toNat).length + 1 ≤ 1000000000 by rw [List.length_take];omega) (by decide)⟩) ?_;refine qC [13] (by kernel_rfl) rfl ?_;refine qC [15] (by kernel_rfl) rfl ?_;refine qL 6 7 rfl rfl rfl rfl ?_;refine qK (by kernel_rfl) ?_;exact ⟨(),trivial,qP ⟨rfl,rfl,rfl⟩ ⟨rfl,rfl,rfl,rfl,(qS (by rw [Int.toNat_natCast,List.take_length];exact rfl)),rfl⟩ rfl⟩
        ·refine qC [11] (by kernel_rfl) rfl ?_;refine qC [12] (by kernel_rfl) rfl ?_;refine zai (by exact ⟨Nat.one_pos,qR (show (es.take (es.length : Int).toNat).length + 1 ≤ 1000000000 by rw [List.length_take];omega) (by decide)⟩) ?_;refine qC [13] (by kernel_rfl) rfl ?_;refine qC [15] (by kernel_rfl) rfl ?_;refine qL 5 6 rfl rfl rfl rfl ?_;refine qL 6 7 rfl rfl rfl rfl ?_;refine qK (by kernel_rfl) ?_;exact ⟨(),trivial,qP ⟨rfl,rfl,rfl⟩ ⟨rfl,rfl,rfl,rfl,(qS (by rw [Int.toNat_natCast,List.take_length];exact rfl)),rfl⟩ rfl⟩
       refine zai ?_ ?_
       ·refine qC [3,14] (by kernel_rfl) rfl ?_;refine zai ?_ ?_
        ·refine Or.inr (Or.inl (zei [] (zei [] (zei _ (zei _ (zei _ (zei _ (zei _ (zai (hcp) (zai rfl (zai True.intro (zai rfl ?_))))))))))));refine qC [12,14] (by kernel_rfl) rfl ?_;refine zai ?_ ?_
         ·refine zai (by exact ⟨Nat.one_pos,qR (show (es.take (es.length : Int).toNat).length + 1 ≤ 1000000000 by rw [List.length_take];omega) (by decide)⟩) ?_;refine qC [13,14] (by kernel_rfl) rfl ?_;refine zai ?_ ?_
          ·refine qC [14] (by kernel_rfl) rfl ?_;refine qC [15] (by kernel_rfl) rfl ?_;refine qL 3 4 rfl rfl rfl rfl ?_;refine qL 4 5 rfl rfl rfl rfl ?_;refine qK (by kernel_rfl) ?_;exact ⟨(),trivial,qP ⟨rfl,rfl,rfl⟩ ⟨rfl,rfl,rfl,rfl,(qS (by rw [Int.toNat_natCast,List.take_length];exact rfl)),rfl⟩ rfl⟩
          ·refine qC [13] (by kernel_rfl) rfl ?_;refine qC [15] (by kernel_rfl) rfl ?_;refine qL 3 4 rfl rfl rfl rfl ?_;refine qL 4 5 rfl rfl rfl rfl ?_;refine qK (by kernel_rfl) ?_;exact ⟨(),trivial,qP ⟨rfl,rfl,rfl⟩ ⟨rfl,rfl,rfl,rfl,(qS (by rw [Int.toNat_natCast,List.take_length];exact rfl)),rfl⟩ rfl⟩
         ·refine qC [12] (by kernel_rfl) rfl ?_;refine zai (by exact ⟨Nat.one_pos,qR (show (es.take (es.length : Int).toNat).length + 1 ≤ 1000000000 by rw [List.length_take];omega) (by decide)⟩) ?_;refine qC [13] (by kernel_rfl) rfl ?_;refine qC [15] (by kernel_rfl) rfl ?_;refine qL 3 4 rfl rfl rfl rfl ?_;refine qL 4 5 rfl rfl rfl rfl ?_;refine qL 6 7 rfl rfl rfl rfl ?_;refine qK (by kernel_rfl) ?_;exact ⟨(),trivial,qP ⟨rfl,rfl,rfl⟩ ⟨rfl,rfl,rfl,rfl,(qS (by rw [Int.toNat_natCast,List.take_length];exact rfl)),rfl⟩ rfl⟩
        ·refine qC [3] (by kernel_rfl) rfl ?_;refine Or.inr (Or.inl (zei [] (zei [] (zei _ (zei _ (zei _ (zei _ (zei _ (zai (hcp) (zai rfl (zai True.intro (zai rfl ?_))))))))))));refine qC [12] (by kernel_rfl) rfl ?_;refine zai (by exact ⟨Nat.one_pos,qR (show (es.take (es.length : Int).toNat).length + 1 ≤ 1000000000 by rw [List.length_take];omega) (by decide)⟩) ?_;refine qC [13] (by kernel_rfl) rfl ?_;refine qC [15] (by kernel_rfl) rfl ?_;refine qL 3 5 rfl rfl rfl rfl ?_;refine qL 4 6 rfl rfl rfl rfl ?_;refine qL 6 7 rfl rfl rfl rfl ?_;refine qK (by kernel_rfl) ?_;exact ⟨(),trivial,qP ⟨rfl,rfl,rfl⟩ ⟨rfl,rfl,rfl,rfl,(qS (by rw [Int.toNat_natCast,List.take_length];exact rfl)),rfl⟩ rfl⟩
       ·refine qC [3,11] (by kernel_rfl) rfl ?_;refine zai ?_ ?_
        ·refine Or.inr (Or.inl (zei [] (zei [] (zei _ (zei _ (zei _ (zei _ (zei _ (zai (hcp) (zai rfl (zai True.intro (zai rfl ?_))))))))))));refine qC [11] (by kernel_rfl) rfl ?_;refine qC [12] (by kernel_rfl) rfl ?_;refine zai (by exact ⟨Nat.one_pos,qR (show (es.take (es.length : Int).toNat).length + 1 ≤ 1000000000 by rw [List.length_take];omega) (by decide)⟩) ?_;refine qC [13] (by kernel_rfl) rfl ?_;refine qC [15] (by kernel_rfl) rfl ?_;refine qL 3 4 rfl rfl rfl rfl ?_;refine qL 4 5 rfl rfl rfl rfl ?_;refine qL 5 6 rfl rfl rfl rfl ?_;refine qL 6 7 rfl rfl rfl rfl ?_;refine qK (by kernel_rfl) ?_;exact ⟨(),trivial,qP ⟨rfl,rfl,rfl⟩ ⟨rfl,rfl,rfl,rfl,(qS (by rw [Int.toNat_natCast,List.take_length];exact rfl)),rfl⟩ rfl⟩
        ·refine qC [3] (by kernel_rfl) rfl ?_;refine Or.inr (Or.inl (zei [] (zei [] (zei _ (zei _ (zei _ (zei _ (zei _ (zai (hcp) (zai rfl (zai True.intro (zai rfl ?_))))))))))));refine qC [12] (by kernel_rfl) rfl ?_;refine zai (by exact ⟨Nat.one_pos,qR (show (es.take (es.length : Int).toNat).length + 1 ≤ 1000000000 by rw [List.length_take];omega) (by decide)⟩) ?_;refine qC [13] (by kernel_rfl) rfl ?_;refine qC [15] (by kernel_rfl) rfl ?_;refine qL 3 5 rfl rfl rfl rfl ?_;refine qL 4 6 rfl rfl rfl rfl ?_;refine qL 5 6 rfl rfl rfl rfl ?_;refine qL 6 7 rfl rfl rfl rfl ?_;refine qK (by kernel_rfl) ?_;exact ⟨(),trivial,qP ⟨rfl,rfl,rfl⟩ ⟨rfl,rfl,rfl,rfl,(qS (by rw [Int.toNat_natCast,List.take_length];exact rfl)),rfl⟩ rfl⟩
      refine zai ?_ ?_
      ·refine qC [1,14] (by kernel_rfl) rfl ?_;refine zai ?_ ?_
       ·refine Or.inr (Or.inr (Or.inl ?_));refine zai rfl ?_;refine zei _ (zai (hnow) ?_);refine qE 2 rfl rfl rfl (by kernel_rfl) ?_;refine qC [3,14] (by kernel_rfl) rfl ?_;refine zai ?_ ?_
        ·refine Or.inr (Or.inl (zei [] (zei [] (zei _ (zei _ (zei _ (zei _ (zei _ (zai (hcp) (zai rfl (zai True.intro (zai rfl ?_))))))))))));refine qC [12,14] (by kernel_rfl) rfl ?_;refine zai ?_ ?_
         ·refine zai (by exact ⟨Nat.one_pos,qR (show (es.take (es.length : Int).toNat).length + 1 ≤ 1000000000 by rw [List.length_take];omega) (by decide)⟩) ?_;refine qC [13,14] (by kernel_rfl) rfl ?_;refine zai ?_ ?_
          ·refine qC [14] (by kernel_rfl) rfl ?_;refine qC [15] (by kernel_rfl) rfl ?_;refine qL 3 4 rfl rfl rfl rfl ?_;refine qL 4 5 rfl rfl rfl rfl ?_;refine qK (by kernel_rfl) ?_;exact ⟨(),trivial,qP ⟨rfl,rfl,rfl⟩ ⟨rfl,rfl,rfl,rfl,(qS (by rw [Int.toNat_natCast,List.take_length];exact rfl)),rfl⟩ rfl⟩
          ·refine qC [13] (by kernel_rfl) rfl ?_;refine qC [15] (by kernel_rfl) rfl ?_;refine qL 3 4 rfl rfl rfl rfl ?_;refine qL 4 5 rfl rfl rfl rfl ?_;refine qK (by kernel_rfl) ?_;exact ⟨(),trivial,qP ⟨rfl,rfl,rfl⟩ ⟨rfl,rfl,rfl,rfl,(qS (by rw [Int.toNat_natCast,List.take_length];exact rfl)),rfl⟩ rfl⟩
         ·refine qC [12] (by kernel_rfl) rfl ?_;refine zai (by exact ⟨Nat.one_pos,qR (show (es.take (es.length : Int).toNat).length + 1 ≤ 1000000000 by rw [List.length_take];omega) (by decide)⟩) ?_;refine qC [13] (by kernel_rfl) rfl ?_;refine qC [15] (by kernel_rfl) rfl ?_;refine qL 3 4 rfl rfl rfl rfl ?_;refine qL 4 5 rfl rfl rfl rfl ?_;refine qL 6 7 rfl rfl rfl rfl ?_;refine qK (by kernel_rfl) ?_;exact ⟨(),trivial,qP ⟨rfl,rfl,rfl⟩ ⟨rfl,rfl,rfl,rfl,(qS (by rw [Int.toNat_natCast,List.take_length];exact rfl)),rfl⟩ rfl⟩
        ·refine qC [3] (by kernel_rfl) rfl ?_;refine Or.inr (Or.inl (zei [] (zei [] (zei _ (zei _ (zei _ (zei _ (zei _ (zai (hcp) (zai rfl (zai True.intro (zai rfl ?_))))))))))));refine qC [12] (by kernel_rfl) rfl ?_;refine zai (by exact ⟨Nat.one_pos,qR (show (es.take (es.length : Int).toNat).length + 1 ≤ 1000000000 by rw [List.length_take];omega) (by decide)⟩) ?_;refine qC [13] (by kernel_rfl) rfl ?_;refine qC [15] (by kernel_rfl) rfl ?_;refine qL 3 5 rfl rfl rfl rfl ?_;refine qL 4 6 rfl rfl rfl rfl ?_;refine qL 6 7 rfl rfl rfl rfl ?_;refine qK (by kernel_rfl) ?_;exact ⟨(),trivial,qP ⟨rfl,rfl,rfl⟩ ⟨rfl,rfl,rfl,rfl,(qS (by rw [Int.toNat_natCast,List.take_length];exact rfl)),rfl⟩ rfl⟩
       ·refine qC [1] (by kernel_rfl) rfl ?_;refine Or.inr (Or.inr (Or.inl ?_));refine zai rfl ?_;refine zei _ (zai (hnow) ?_);refine qE 2 rfl rfl rfl (by kernel_rfl) ?_;refine qC [3] (by kernel_rfl) rfl ?_;refine Or.inr (Or.inl (zei [] (zei [] (zei _ (zei _ (zei _ (zei _ (zei _ (zai (hcp) (zai rfl (zai True.intro (zai rfl ?_))))))))))));refine qC [12] (by kernel_rfl) rfl ?_;refine zai (by exact ⟨Nat.one_pos,qR (show (es.take (es.length : Int).toNat).length + 1 ≤ 1000000000 by rw [List.length_take];omega) (by decide)⟩) ?_;refine qC [13] (by kernel_rfl) rfl ?_;refine qC [15] (by kernel_rfl) rfl ?_;refine qL 3 5 rfl rfl rfl rfl ?_;refine qL 4 6 rfl rfl rfl rfl ?_;refine qL 6 7 rfl rfl rfl rfl ?_;refine qK (by kernel_rfl) ?_;exact ⟨(),trivial,qP ⟨rfl,rfl,rfl⟩ ⟨rfl,rfl,rfl,rfl,(qS (by rw [Int.toNat_natCast,List.take_length];exact rfl)),rfl⟩ rfl⟩
      ·refine qC [1,11] (by kernel_rfl) rfl ?_;refine zai ?_ ?_
       ·refine Or.inr (Or.inr (Or.inl ?_));refine zai rfl ?_;refine zei _ (zai (hnow) ?_);refine qE 2 rfl rfl rfl (by kernel_rfl) ?_;refine qC [3,11] (by kernel_rfl) rfl ?_;refine zai ?_ ?_
        ·refine Or.inr (Or.inl (zei [] (zei [] (zei _ (zei _ (zei _ (zei _ (zei _ (zai (hcp) (zai rfl (zai True.intro (zai rfl ?_))))))))))));refine qC [11] (by kernel_rfl) rfl ?_;refine qC [12] (by kernel_rfl) rfl ?_;refine zai (by exact ⟨Nat.one_pos,qR (show (es.take (es.length : Int).toNat).length + 1 ≤ 1000000000 by rw [List.length_take];omega) (by decide)⟩) ?_;refine qC [13] (by kernel_rfl) rfl ?_;refine qC [15] (by kernel_rfl) rfl ?_;refine qL 3 4 rfl rfl rfl rfl ?_;refine qL 4 5 rfl rfl rfl rfl ?_;refine qL 5 6 rfl rfl rfl rfl ?_;refine qL 6 7 rfl rfl rfl rfl ?_;refine qK (by kernel_rfl) ?_;exact ⟨(),trivial,qP ⟨rfl,rfl,rfl⟩ ⟨rfl,rfl,rfl,rfl,(qS (by rw [Int.toNat_natCast,List.take_length];exact rfl)),rfl⟩ rfl⟩
        ·refine qC [3] (by kernel_rfl) rfl ?_;refine Or.inr (Or.inl (zei [] (zei [] (zei _ (zei _ (zei _ (zei _ (zei _ (zai (hcp) (zai rfl (zai True.intro (zai rfl ?_))))))))))));refine qC [12] (by kernel_rfl) rfl ?_;refine zai (by exact ⟨Nat.one_pos,qR (show (es.take (es.length : Int).toNat).length + 1 ≤ 1000000000 by rw [List.length_take];omega) (by decide)⟩) ?_;refine qC [13] (by kernel_rfl) rfl ?_;refine qC [15] (by kernel_rfl) rfl ?_;refine qL 3 5 rfl rfl rfl rfl ?_;refine qL 4 6 rfl rfl rfl rfl ?_;refine qL 5 6 rfl rfl rfl rfl ?_;refine qL 6 7 rfl rfl rfl rfl ?_;refine qK (by kernel_rfl) ?_;exact ⟨(),trivial,qP ⟨rfl,rfl,rfl⟩ ⟨rfl,rfl,rfl,rfl,(qS (by rw [Int.toNat_natCast,List.take_length];exact rfl)),rfl⟩ rfl⟩
       ·refine qC [1] (by kernel_rfl) rfl ?_;refine Or.inr (Or.inr (Or.inl ?_));refine zai rfl ?_;refine zei _ (zai (hnow) ?_);refine qE 2 rfl rfl rfl (by kernel_rfl) ?_;refine qC [3] (by kernel_rfl) rfl ?_;refine Or.inr (Or.inl (zei [] (zei [] (zei _ (zei _ (zei _ (zei _ (zei _ (zai (hcp) (zai rfl (zai True.intro (zai rfl ?_))))))))))));refine qC [12] (by kernel_rfl) rfl ?_;refine zai (by exact ⟨Nat.one_pos,qR (show (es.take (es.length : Int).toNat).length + 1 ≤ 1000000000 by rw [List.length_take];omega) (by decide)⟩) ?_;refine qC [13] (by kernel_rfl) rfl ?_;refine qC [15] (by kernel_rfl) rfl ?_;refine qL 3 5 rfl rfl rfl rfl ?_;refine qL 4 6 rfl rfl rfl rfl ?_;refine qL 5 6 rfl rfl rfl rfl ?_;refine qL 6 7 rfl rfl rfl rfl ?_;refine qK (by kernel_rfl) ?_;exact ⟨(),trivial,qP ⟨rfl,rfl,rfl⟩ ⟨rfl,rfl,rfl,rfl,(qS (by rw [Int.toNat_natCast,List.take_length];exact rfl)),rfl⟩ rfl⟩
     ·refine qC [1,10] (by kernel_rfl) rfl ?_;refine zai ?_ ?_
      ·refine Or.inr (Or.inr (Or.inl ?_));refine zai rfl ?_;refine zei _ (zai (hnow) ?_);refine qE 2 rfl rfl rfl (by kernel_rfl) ?_;refine qC [3,10] (by kernel_rfl) rfl ?_;refine zai ?_ ?_
       ·refine Or.inr (Or.inl (zei [] (zei [] (zei _ (zei _ (zei _ (zei _ (zei _ (zai (hcp) (zai rfl (zai True.intro (zai rfl ?_))))))))))));refine qC [10] (by kernel_rfl) rfl ?_;refine qC [11] (by kernel_rfl) rfl ?_;refine qC [12] (by kernel_rfl) rfl ?_;refine zai (by exact ⟨Nat.one_pos,qR (show (es.take (es.length : Int).toNat).length + 1 ≤ 1000000000 by rw [List.length_take];omega) (by decide)⟩) ?_;refine qC [13] (by kernel_rfl) rfl ?_;refine qC [15] (by kernel_rfl) rfl ?_;refine qL 3 4 rfl rfl rfl rfl ?_;refine qL 4 5 rfl rfl rfl rfl ?_;refine qL 5 6 rfl rfl rfl rfl ?_;refine qL 6 7 rfl rfl rfl rfl ?_;refine qK (by kernel_rfl) ?_;exact ⟨(),trivial,qP ⟨rfl,rfl,rfl⟩ ⟨rfl,rfl,rfl,rfl,(qS (by rw [Int.toNat_natCast,List.take_length];exact rfl)),rfl⟩ rfl⟩
       ·refine qC [3,11] (by kernel_rfl) rfl ?_;refine zai ?_ ?_
        ·refine Or.inr (Or.inl (zei [] (zei [] (zei _ (zei _ (zei _ (zei _ (zei _ (zai (hcp) (zai rfl (zai True.intro (zai rfl ?_))))))))))));refine qC [11] (by kernel_rfl) rfl ?_;refine qC [12] (by kernel_rfl) rfl ?_;refine zai (by exact ⟨Nat.one_pos,qR (show (es.take (es.length : Int).toNat).length + 1 ≤ 1000000000 by rw [List.length_take];omega) (by decide)⟩) ?_;refine qC [13] (by kernel_rfl) rfl ?_;refine qC [15] (by kernel_rfl) rfl ?_;refine qL 3 4 rfl rfl rfl rfl ?_;refine qL 4 5 rfl rfl rfl rfl ?_;refine qL 5 6 rfl rfl rfl rfl ?_;refine qL 6 7 rfl rfl rfl rfl ?_;refine qK (by kernel_rfl) ?_;exact ⟨(),trivial,qP ⟨rfl,rfl,rfl⟩ ⟨rfl,rfl,rfl,rfl,(qS (by rw [Int.toNat_natCast,List.take_length];exact rfl)),rfl⟩ rfl⟩
        ·refine qC [3] (by kernel_rfl) rfl ?_;refine Or.inr (Or.inl (zei [] (zei [] (zei _ (zei _ (zei _ (zei _ (zei _ (zai (hcp) (zai rfl (zai True.intro (zai rfl ?_))))))))))));refine qC [12] (by kernel_rfl) rfl ?_;refine zai (by exact ⟨Nat.one_pos,qR (show (es.take (es.length : Int).toNat).length + 1 ≤ 1000000000 by rw [List.length_take];omega) (by decide)⟩) ?_;refine qC [13] (by kernel_rfl) rfl ?_;refine qC [15] (by kernel_rfl) rfl ?_;refine qL 3 5 rfl rfl rfl rfl ?_;refine qL 4 6 rfl rfl rfl rfl ?_;refine qL 5 6 rfl rfl rfl rfl ?_;refine qL 6 7 rfl rfl rfl rfl ?_;refine qK (by kernel_rfl) ?_;exact ⟨(),trivial,qP ⟨rfl,rfl,rfl⟩ ⟨rfl,rfl,rfl,rfl,(qS (by rw [Int.toNat_natCast,List.take_length];exact rfl)),rfl⟩ rfl⟩
      ·refine qC [1,11] (by kernel_rfl) rfl ?_;refine zai ?_ ?_
       ·refine Or.inr (Or.inr (Or.inl ?_));refine zai rfl ?_;refine zei _ (zai (hnow) ?_);refine qE 2 rfl rfl rfl (by kernel_rfl) ?_;refine qC [3,11] (by kernel_rfl) rfl ?_;refine zai ?_ ?_
        ·refine Or.inr (Or.inl (zei [] (zei [] (zei _ (zei _ (zei _ (zei _ (zei _ (zai (hcp) (zai rfl (zai True.intro (zai rfl ?_))))))))))));refine qC [11] (by kernel_rfl) rfl ?_;refine qC [12] (by kernel_rfl) rfl ?_;refine zai (by exact ⟨Nat.one_pos,qR (show (es.take (es.length : Int).toNat).length + 1 ≤ 1000000000 by rw [List.length_take];omega) (by decide)⟩) ?_;refine qC [13] (by kernel_rfl) rfl ?_;refine qC [15] (by kernel_rfl) rfl ?_;refine qL 3 4 rfl rfl rfl rfl ?_;refine qL 4 5 rfl rfl rfl rfl ?_;refine qL 5 6 rfl rfl rfl rfl ?_;refine qL 6 7 rfl rfl rfl rfl ?_;refine qK (by kernel_rfl) ?_;exact ⟨(),trivial,qP ⟨rfl,rfl,rfl⟩ ⟨rfl,rfl,rfl,rfl,(qS (by rw [Int.toNat_natCast,List.take_length];exact rfl)),rfl⟩ rfl⟩
        ·refine qC [3] (by kernel_rfl) rfl ?_;refine Or.inr (Or.inl (zei [] (zei [] (zei _ (zei _ (zei _ (zei _ (zei _ (zai (hcp) (zai rfl (zai True.intro (zai rfl ?_))))))))))));refine qC [12] (by kernel_rfl) rfl ?_;refine zai (by exact ⟨Nat.one_pos,qR (show (es.take (es.length : Int).toNat).length + 1 ≤ 1000000000 by rw [List.length_take];omega) (by decide)⟩) ?_;refine qC [13] (by kernel_rfl) rfl ?_;refine qC [15] (by kernel_rfl) rfl ?_;refine qL 3 5 rfl rfl rfl rfl ?_;refine qL 4 6 rfl rfl rfl rfl ?_;refine qL 5 6 rfl rfl rfl rfl ?_;refine qL 6 7 rfl rfl rfl rfl ?_;refine qK (by kernel_rfl) ?_;exact ⟨(),trivial,qP ⟨rfl,rfl,rfl⟩ ⟨rfl,rfl,rfl,rfl,(qS (by rw [Int.toNat_natCast,List.take_length];exact rfl)),rfl⟩ rfl⟩
       ·refine qC [1] (by kernel_rfl) rfl ?_;refine Or.inr (Or.inr (Or.inl ?_));refine zai rfl ?_;refine zei _ (zai (hnow) ?_);refine qE 2 rfl rfl rfl (by kernel_rfl) ?_;refine qC [3] (by kernel_rfl) rfl ?_;refine Or.inr (Or.inl (zei [] (zei [] (zei _ (zei _ (zei _ (zei _ (zei _ (zai (hcp) (zai rfl (zai True.intro (zai rfl ?_))))))))))));refine qC [12] (by kernel_rfl) rfl ?_;refine zai (by exact ⟨Nat.one_pos,qR (show (es.take (es.length : Int).toNat).length + 1 ≤ 1000000000 by rw [List.length_take];omega) (by decide)⟩) ?_;refine qC [13] (by kernel_rfl) rfl ?_;refine qC [15] (by kernel_rfl) rfl ?_;refine qL 3 5 rfl rfl rfl rfl ?_;refine qL 4 6 rfl rfl rfl rfl ?_;refine qL 5 6 rfl rfl rfl rfl ?_;refine qL 6 7 rfl rfl rfl rfl ?_;refine qK (by kernel_rfl) ?_;exact ⟨(),trivial,qP ⟨rfl,rfl,rfl⟩ ⟨rfl,rfl,rfl,rfl,(qS (by rw [Int.toNat_natCast,List.take_length];exact rfl)),rfl⟩ rfl⟩
    ·intro u hcut7;refine qD ?_;refine qD ?_;refine qB ?_;refine Or.inr (Or.inl (zei [] (zei [4,3] (zei _ (zei _ (zei _ (zei _ (zei _ (zai (hdo) (zai rfl (zai (zai (zai rfl rfl) (zai (zai rfl rfl) True.intro)) (zai rfl ?_))))))))))));refine qD ?_;refine qB ?_;refine qM rfl (fun h42=>?_) (fun h42=>?_)
     ·try simp only [Bool.not_eq_true'] at h42
      try simp only [zds] at h42
      simp at h42
     ·try simp only [Bool.not_eq_false'] at h42
      try simp only [zds] at h42
      refine qO ?_;refine qD ?_;refine acode_frz [6,3,4] ?_;refine yE rfl ?_;refine qE 0 rfl rfl rfl (by kernel_rfl) ?_;refine qE 1 rfl rfl rfl (by kernel_rfl) ?_;refine qE 2 rfl rfl rfl (by kernel_rfl) ?_;refine qE 3 rfl rfl rfl (by kernel_rfl) ?_;refine qC [4,5] (by kernel_rfl) rfl ?_;refine zai ?_ ?_
      ·refine qC [5] (by kernel_rfl) rfl ?_;refine qC [6] (by kernel_rfl) rfl ?_;refine qC [7] (by kernel_rfl) rfl ?_;refine zai (by exact qR (show sts.length + 1 ≤ 1000000000 by omega) (by decide)) ?_;refine qE 8 rfl rfl rfl (by kernel_rfl) ?_;refine qE 9 rfl rfl rfl (by kernel_rfl) ?_;refine qC [10] (by kernel_rfl) rfl ?_;refine qK (by kernel_rfl) ?_;refine qD ?_;refine qB ?_;refine qN ?_;exact ⟨rfl,⟨rfl,qS rfl⟩,rfl⟩
      ·refine qC [4,6] (by kernel_rfl) rfl ?_;refine zai ?_ ?_
       ·refine qC [6] (by kernel_rfl) rfl ?_;refine qC [7] (by kernel_rfl) rfl ?_;refine zai (by exact qR (show sts.length + 1 ≤ 1000000000 by omega) (by decide)) ?_;refine qE 8 rfl rfl rfl (by kernel_rfl) ?_;refine qE 9 rfl rfl rfl (by kernel_rfl) ?_;refine qC [10] (by kernel_rfl) rfl ?_;refine qK (by kernel_rfl) ?_;refine qD ?_;refine qB ?_;refine qN ?_;exact ⟨rfl,⟨rfl,qS rfl⟩,rfl⟩
       ·refine qC [4] (by kernel_rfl) rfl ?_;refine qC [7] (by kernel_rfl) rfl ?_;refine zai (by exact qR (show sts.length + 1 ≤ 1000000000 by omega) (by decide)) ?_;refine qE 8 rfl rfl rfl (by kernel_rfl) ?_;refine qE 9 rfl rfl rfl (by kernel_rfl) ?_;refine qC [10] (by kernel_rfl) rfl ?_;refine qK (by kernel_rfl) ?_;refine qD ?_;refine qB ?_;refine qN ?_;exact ⟨rfl,⟨rfl,qS rfl⟩,rfl⟩
abbrev delA2 (id : Int) : A:=.agg [.lit (.int .i64 2),.lit (.int .i64 id),.lit (.slice none 0 0)]
theorem del_rep {ok : Oks} {ρ : Nat → Option Value} {w : World} {id : Int} {v : Value} (h : (delA2 id).rep ok ρ w v) : (A.agg (toL rEdt (2,id,[]))).rep ok ρ w v:=by
  obtain ⟨vs,rfl,a,r,rfl,ha,b,r2,rfl,hb,c,r3,rfl,hc,hz⟩:=h;exact ⟨_,rfl,a,_,rfl,ha,b,_,rfl,hb,c,_,rfl,⟨none,0,hc,Nat.le_refl _,Nat.zero_le _,fun i hi=>absurd hi (by simp)⟩,hz⟩
theorem tbegin_o {k : Nat} (L : Lst) (hL : L.1.length ≤ 1000000) : qW Tryz.prog 16 [.one (.adk k (rLst k) L)] [] 0 (.tup [(false,[.own 3 0]),(false,[.lit .nilIface])]) [(3,.box 123 [.vec 2]),(2,.vec 120 rSt [(L,[])])] 4:=by
  have hcp:=copyL_o (k:=k) L.1 L.2.1 L.2.2 hL;refine qU (rs:=[2,3]) Tryz.func16 rfl rfl rfl teOk (by decide) rfl ?_;refine qD ?_;refine qB ?_;refine qD ?_;refine qD ?_;refine qB ?_;refine qM rfl (fun h5=>?_) (fun h5=>?_)
  ·try simp only [zbq] at h5
   try simp only [zds] at h5
   simp at h5
  ·skip
   refine qO ?_;refine qD ?_;show qV _ _ _ _ _ _ _ _ _;refine acode_frzatB 2 [0,1] ?_;refine Or.inr (Or.inl (zei [] (zei [] (zei _ (zei _ (zei _ (zei _ (zei _ (zai (hcp) (zai rfl (zai True.intro (zai rfl ?_))))))))))));refine qN ?_;exact ⟨rfl,⟨rfl,rfl⟩,rfl⟩
theorem trep1_o (L : Lst) (id : Int) (f : List Fld) (i : Nat) (hi : i < L.1.length) (h : atE L.1 id = i) (hf : FldsOk f) (hc : (chkR f).2 = 0) : qW Tryz.prog 73 [.one (.own 0 0),.one (.addr (.int .i64) id),.one (.addr (.sl rFld) f)] (lsO L) 2 (.one (.lit .nilIface)) (lsO (replE L.1 i (itmOf f),L.2)) 2:=by
  have hr:=lRep_ok (κ:=0) L.1 L.2.1 L.2.2 id f i hi h hf hc;refine qU (rs:=[4]) Tryz.func73 rfl rfl rfl teOk (by decide) rfl ?_;refine qD ?_;refine qB ?_;refine qD ?_;refine qB ?_;refine Or.inr (Or.inl (zei [] (zei [0,1] (zei _ (zei _ (zei _ (zei _ (zei _ (zai (hr) (zai rfl (zai (zai (zai rfl rfl) (zai (zai rfl rfl) True.intro)) (zai rfl ?_))))))))))));refine qN ?_;exact ⟨rfl,⟨rfl,rfl⟩,rfl⟩
theorem tdel1_o (L : Lst) (id : Int) (i : Nat) (hi : i < L.1.length) (h : atE L.1 id = i) (hm : 0 ≤ L.2.2 ∧ L.2.2 ≤ 1000000) (hl : L.1.length ≤ 1000000) : qW Tryz.prog 74 [.one (.own 0 0),.one (.addr (.int .i64) id)] (lsO L) 2 (.one (.lit .nilIface)) (lsO (delE L.1 i,L.2.1,L.2.2 - 1)) 2:=by
  have hr:=lDel_ok L.1 L.2.1 L.2.2 id i hi h hm hl;refine qU (rs:=[3]) Tryz.func74 rfl rfl rfl teOk (by decide) rfl ?_;refine qD ?_;refine qB ?_;refine qD ?_;refine qB ?_;refine Or.inr (Or.inl (zei [] (zei [0,1] (zei _ (zei _ (zei _ (zei _ (zei _ (zai (hr) (zai rfl (zai (zai (zai rfl rfl) (zai (zai rfl rfl) True.intro)) (zai rfl ?_))))))))))));refine qN ?_;exact ⟨rfl,⟨rfl,rfl⟩,rfl⟩
theorem trep_o (sts : List TSt) (L : Lst) (es : List Edt) (id : Int) (f : List Fld) (i : Nat) (hi : i < L.1.length) (h : atE L.1 id = i) (hf : FldsOk f) (hc : (chkR f).2 = 0) (h0 : 0 < sts.length) (h40 : sts.length ≤ 40) (hl : sts.getD (sts.length - 1) ((([] : List Ent),(0 : Int),(0 : Int)),([] : List Edt)) = (L,es)) (he : es.length ≤ 1000) (hL : L.1.length ≤ 1000000) :
    qW Tryz.prog 21 [.one (.own 0 0),ii .i64 id,.one (.sl rFld f)] (txO sts) 2 (.one (.lit .nilIface)) (txO (sts ++ [((replE L.1 i (itmOf f),L.2),es ++ [(1,id,f)])])) 2:=by
  have htk:=ttake2_o (.int .i64) id (.sl rFld) f sts L _ es (1,id,f) h0 h40 hl he hL (trep1_o L id f i hi h hf hc);refine qU (rs:=[6]) Tryz.func21 rfl rfl rfl teOk (by decide) rfl ?_;refine qD ?_;refine qB ?_;refine acode_cut (fun (u : Unit)=>True) (fun (u : Unit)=>[(0,.one (.own 0 0)),(4,.one (.own 2 0)),(5,.one (.own 3 0)),(7,.one (.own 4 0))]) (fun (u : Unit)=>[(0,.box 123 [.vec 1]),(1,.vec 120 rSt sts),(2,.box 3 [.lit (.int .i64 id)]),(3,.box 29 [.sl rFld f]),(4,.box 31 (toL rEdt (1,id,f)))]) 5 ?_ ?_
  ·refine yE rfl ?_;refine qC [0,1,4] (by kernel_rfl) rfl ?_;refine zai ?_ ?_
   ·refine qC [1,4] (by kernel_rfl) rfl ?_;refine zai ?_ ?_
    ·refine qC [2,4] (by kernel_rfl) rfl ?_;refine zai ?_ ?_
     ·refine Or.inl ?_;refine zai (rfl) ?_;refine zei _ (zai (clone_c f (Nat.le_trans hf.1 (by decide))) ?_);refine qC [3,4] (by kernel_rfl) rfl ?_;refine zai ?_ ?_
      ·refine qC [4] (by kernel_rfl) rfl ?_;refine qC [5] (by kernel_rfl) rfl ?_;refine qK (by kernel_rfl) ?_;exact ⟨(),trivial,qP ⟨rfl,rfl,rfl,rfl⟩ ⟨rfl,rfl,rfl,rfl,rfl⟩ rfl⟩
      ·refine qC [3] (by kernel_rfl) rfl ?_;refine qC [5] (by kernel_rfl) rfl ?_;refine qK (by kernel_rfl) ?_;exact ⟨(),trivial,qP ⟨rfl,rfl,rfl,rfl⟩ ⟨rfl,rfl,rfl,rfl,rfl⟩ rfl⟩
     ·refine qC [2] (by kernel_rfl) rfl ?_;refine Or.inl ?_;refine zai (rfl) ?_;refine zei _ (zai (clone_c f (Nat.le_trans hf.1 (by decide))) ?_);refine qC [3] (by kernel_rfl) rfl ?_;refine qC [5] (by kernel_rfl) rfl ?_;refine qK (by kernel_rfl) ?_;exact ⟨(),trivial,qP ⟨rfl,rfl,rfl,rfl⟩ ⟨rfl,rfl,rfl,rfl,rfl⟩ rfl⟩
    ·refine qC [1] (by kernel_rfl) rfl ?_;refine qC [2] (by kernel_rfl) rfl ?_;refine Or.inl ?_;refine zai (rfl) ?_;refine zei _ (zai (clone_c f (Nat.le_trans hf.1 (by decide))) ?_);refine qC [3] (by kernel_rfl) rfl ?_;refine qC [5] (by kernel_rfl) rfl ?_;refine qK (by kernel_rfl) ?_;exact ⟨(),trivial,qP ⟨rfl,rfl,rfl,rfl⟩ ⟨rfl,rfl,rfl,rfl,rfl⟩ rfl⟩
   refine zai ?_ ?_
   ·refine qC [0,2,4] (by kernel_rfl) rfl ?_;refine zai ?_ ?_
    ·refine qC [2,4] (by kernel_rfl) rfl ?_;refine zai ?_ ?_
     ·refine Or.inl ?_;refine zai (rfl) ?_;refine zei _ (zai (clone_c f (Nat.le_trans hf.1 (by decide))) ?_);refine qC [3,4] (by kernel_rfl) rfl ?_;refine zai ?_ ?_
      ·refine qC [4] (by kernel_rfl) rfl ?_;refine qC [5] (by kernel_rfl) rfl ?_;refine qK (by kernel_rfl) ?_;exact ⟨(),trivial,qP ⟨rfl,rfl,rfl,rfl⟩ ⟨rfl,rfl,rfl,rfl,rfl⟩ rfl⟩
      ·refine qC [3] (by kernel_rfl) rfl ?_;refine qC [5] (by kernel_rfl) rfl ?_;refine qK (by kernel_rfl) ?_;exact ⟨(),trivial,qP ⟨rfl,rfl,rfl,rfl⟩ ⟨rfl,rfl,rfl,rfl,rfl⟩ rfl⟩
     ·refine qC [2] (by kernel_rfl) rfl ?_;refine Or.inl ?_;refine zai (rfl) ?_;refine zei _ (zai (clone_c f (Nat.le_trans hf.1 (by decide))) ?_);refine qC [3] (by kernel_rfl) rfl ?_;refine qC [5] (by kernel_rfl) rfl ?_;refine qK (by kernel_rfl) ?_;exact ⟨(),trivial,qP ⟨rfl,rfl,rfl,rfl⟩ ⟨rfl,rfl,rfl,rfl,rfl⟩ rfl⟩
    refine zai ?_ ?_
    ·refine Or.inl ?_;refine zai (rfl) ?_;refine zei _ (zai (clone_c f (Nat.le_trans hf.1 (by decide))) ?_);refine qC [0,4] (by kernel_rfl) rfl ?_;refine zai ?_ ?_
     ·refine qC [3,4] (by kernel_rfl) rfl ?_;refine zai ?_ ?_
      ·refine qC [4] (by kernel_rfl) rfl ?_;refine qC [5] (by kernel_rfl) rfl ?_;refine qK (by kernel_rfl) ?_;exact ⟨(),trivial,qP ⟨rfl,rfl,rfl,rfl⟩ ⟨rfl,rfl,rfl,rfl,rfl⟩ rfl⟩
      ·refine qC [3] (by kernel_rfl) rfl ?_;refine qC [5] (by kernel_rfl) rfl ?_;refine qK (by kernel_rfl) ?_;exact ⟨(),trivial,qP ⟨rfl,rfl,rfl,rfl⟩ ⟨rfl,rfl,rfl,rfl,rfl⟩ rfl⟩
     ·refine qC [0] (by kernel_rfl) rfl ?_;refine qC [3] (by kernel_rfl) rfl ?_;refine qC [5] (by kernel_rfl) rfl ?_;refine qK (by kernel_rfl) ?_;exact ⟨(),trivial,qP ⟨rfl,rfl,rfl,rfl⟩ ⟨rfl,rfl,rfl,rfl,rfl⟩ rfl⟩
    ·refine qC [0,2] (by kernel_rfl) rfl ?_;refine zai ?_ ?_
     ·refine qC [2] (by kernel_rfl) rfl ?_;refine Or.inl ?_;refine zai (rfl) ?_;refine zei _ (zai (clone_c f (Nat.le_trans hf.1 (by decide))) ?_);refine qC [3] (by kernel_rfl) rfl ?_;refine qC [5] (by kernel_rfl) rfl ?_;refine qK (by kernel_rfl) ?_;exact ⟨(),trivial,qP ⟨rfl,rfl,rfl,rfl⟩ ⟨rfl,rfl,rfl,rfl,rfl⟩ rfl⟩
     ·refine Or.inl ?_;refine zai (rfl) ?_;refine zei _ (zai (clone_c f (Nat.le_trans hf.1 (by decide))) ?_);refine qC [0] (by kernel_rfl) rfl ?_;refine qC [3] (by kernel_rfl) rfl ?_;refine qC [5] (by kernel_rfl) rfl ?_;refine qK (by kernel_rfl) ?_;exact ⟨(),trivial,qP ⟨rfl,rfl,rfl,rfl⟩ ⟨rfl,rfl,rfl,rfl,rfl⟩ rfl⟩
   ·refine qC [0,1] (by kernel_rfl) rfl ?_;refine zai ?_ ?_
    ·refine qC [1] (by kernel_rfl) rfl ?_;refine qC [2] (by kernel_rfl) rfl ?_;refine Or.inl ?_;refine zai (rfl) ?_;refine zei _ (zai (clone_c f (Nat.le_trans hf.1 (by decide))) ?_);refine qC [3] (by kernel_rfl) rfl ?_;refine qC [5] (by kernel_rfl) rfl ?_;refine qK (by kernel_rfl) ?_;exact ⟨(),trivial,qP ⟨rfl,rfl,rfl,rfl⟩ ⟨rfl,rfl,rfl,rfl,rfl⟩ rfl⟩
    ·refine qC [0,2] (by kernel_rfl) rfl ?_;refine zai ?_ ?_
     ·refine qC [2] (by kernel_rfl) rfl ?_;refine Or.inl ?_;refine zai (rfl) ?_;refine zei _ (zai (clone_c f (Nat.le_trans hf.1 (by decide))) ?_);refine qC [3] (by kernel_rfl) rfl ?_;refine qC [5] (by kernel_rfl) rfl ?_;refine qK (by kernel_rfl) ?_;exact ⟨(),trivial,qP ⟨rfl,rfl,rfl,rfl⟩ ⟨rfl,rfl,rfl,rfl,rfl⟩ rfl⟩
     ·refine Or.inl ?_;refine zai (rfl) ?_;refine zei _ (zai (clone_c f (Nat.le_trans hf.1 (by decide))) ?_);refine qC [0] (by kernel_rfl) rfl ?_;refine qC [3] (by kernel_rfl) rfl ?_;refine qC [5] (by kernel_rfl) rfl ?_;refine qK (by kernel_rfl) ?_;exact ⟨(),trivial,qP ⟨rfl,rfl,rfl,rfl⟩ ⟨rfl,rfl,rfl,rfl,rfl⟩ rfl⟩
  ·intro u hcut2;refine qD ?_;refine acode_frz [2,3] ?_;refine qB ?_;refine Or.inr (Or.inl (zei [] (zei [0,1] (zei _ (zei _ (zei _ (zei _ (zei _ (zai (htk) (zai rfl (zai (zai (zai rfl rfl) (zai (zai rfl rfl) True.intro)) (zai rfl ?_))))))))))));refine qN ?_;exact ⟨rfl,⟨rfl,rfl⟩,rfl⟩
theorem trepF_o (sts : List TSt) (L : Lst) (es : List Edt) (id : Int) (f : List Fld) (i : Nat) (hi : i < L.1.length) (h : atE L.1 id = i) (hf : FldsOk f) (hc : (chkR f).2 = 0) (h0 : 0 < sts.length) (h40 : sts.length ≤ 40) (hl : sts.getD (sts.length - 1) ((([] : List Ent),(0 : Int),(0 : Int)),([] : List Edt)) = (L,es)) (he : es.length ≤ 1000) (hL : L.1.length ≤ 1000000) :
    qW Tryz.prog 21 [.one (.own 0 0),ii .i64 id,.one (.full rFld f)] (txO sts) 2 (.one (.lit .nilIface)) (txO (sts ++ [((replE L.1 i (itmOf f),L.2),es ++ [(1,id,f)])])) 2:=by
  refine acallo_arg (fun ok ρ w vs h=>?_) (trep_o sts L es id f i hi h hf hc h0 h40 hl he hL);obtain ⟨v,r,rfl,h1,v2,r2,rfl,h2,v3,r3,rfl,h3,h4⟩:=h;exact ⟨v,_,rfl,h1,v2,_,rfl,h2,v3,_,rfl,h3.1,h4⟩
theorem tdel_o (sts : List TSt) (L : Lst) (es : List Edt) (id : Int) (i : Nat) (hi : i < L.1.length) (h : atE L.1 id = i) (hm : 0 ≤ L.2.2 ∧ L.2.2 ≤ 1000000) (h0 : 0 < sts.length) (h40 : sts.length ≤ 40) (hl : sts.getD (sts.length - 1) ((([] : List Ent),(0 : Int),(0 : Int)),([] : List Edt)) = (L,es)) (he : es.length ≤ 1000) (hL : L.1.length ≤ 1000000) :
    qW Tryz.prog 22 [.one (.own 0 0),ii .i64 id] (txO sts) 2 (.one (.lit .nilIface)) (txO (sts ++ [((delE L.1 i,L.2.1,L.2.2 - 1),es ++ [(2,id,[])])])) 2:=by
  have htk':=ttake1_o (.int .i64) id sts L _ es (2,id,[]) h0 h40 hl he hL (tdel1_o L id i hi h hm hL);have htk : qW Tryz.prog 70 [.one (.own 0 0),delA2 id,.one (.clo 74 (.addr (.int .i64) id))] (txO sts) 2 (.one (.lit .nilIface)) (txO (sts ++ [((delE L.1 i,L.2.1,L.2.2 - 1),es ++ [(2,id,[])])])) 2:=by
    refine acallo_arg (fun ok ρ w vs h=>?_) htk';obtain ⟨v,r,rfl,h1,v2,r2,rfl,h2,h3⟩:=h;exact ⟨v,_,rfl,h1,v2,_,rfl,del_rep h2,h3⟩
  refine qU (rs:=[4]) Tryz.func22 rfl rfl rfl teOk (by decide) rfl ?_;refine qD ?_;refine qB ?_;refine qD ?_;refine acode_frz [2] ?_;refine qB ?_;refine Or.inr (Or.inl (zei [] (zei [0,1] (zei _ (zei _ (zei _ (zei _ (zei _ (zai (htk) (zai rfl (zai (zai (zai rfl rfl) (zai (zai rfl rfl) True.intro)) (zai rfl ?_))))))))))));refine qN ?_;exact ⟨rfl,⟨rfl,rfl⟩,rfl⟩
theorem tback_o (sts : List TSt) (m : Nat) (hm : m + 1 < sts.length) (hl : sts.length ≤ 1000000) : qW Tryz.prog 23 [.one (.own 0 0),ii .i64 m] (txO sts) 2 (.one (.lit .nilIface)) (txO (sts.take (m + 1))) 2:=by
  refine qU (rs:=[4]) Tryz.func23 rfl rfl rfl teOk (by decide) rfl ?_;refine qD ?_;refine qB ?_;refine qD ?_;refine qQ ?_;refine qD ?_;refine qB ?_;refine Or.inr (Or.inr (Or.inl ?_));refine zai rfl ?_;refine zei _ (zai (topen_c sts) ?_);refine qM rfl (fun h5=>?_) (fun h5=>?_)
  ·try simp only [decide_eq_false_iff_not,Bool.not_eq_true'] at h5
   try simp only [zds] at h5
   exfalso
   simp at h5;have h9 : sts.length = 0:=(by rw [h5];rfl);omega
  ·try simp only [decide_eq_true_eq,Bool.not_eq_false'] at h5
   try simp only [zds] at h5
   refine qD ?_;refine qB ?_;refine zai (fun h=>trivial) ?_;refine zai (fun h=>trivial) ?_;refine Or.inr (zai (by (simp [gq])) (zai (by repeat' (first|exact True.intro|apply zai|rfl|decide|simp)) ?_));refine Or.inr (Or.inr (Or.inl ?_));refine zai rfl ?_;refine zei _ (zai (tmark_c sts (by omega)) ?_);refine zai (fun h=>⟨⟨h,trivial⟩,trivial⟩) ?_;refine zai (by first|(intro h;rw [h];rfl)|(intro h;cases h)) ?_;refine qM rfl (fun h10=>?_) (fun h10=>?_)
   ·try simp only [decide_eq_true_eq,Bool.or_eq_true] at h10
    try simp only [zds] at h10
    exfalso
    omega
   ·try simp only [decide_eq_false_iff_not,Bool.or_eq_false_iff,Int.not_lt] at h10
    try simp only [zds] at h10
    refine qO ?_;refine qD ?_;refine acode_part [_,_,_,_,_,_,_] [_,_,_,_] rfl (zai (by omega) (Eq.refl _)) ?_;intro hte rd n cx e1 e2 ρ a w hs;refine cut_sound (kk:=m + 1) Tryz.underlying121 tyTst rfl rfl rfl rfl (by rw [e1];decide) hs rfl rfl rfl (by omega) (fun ρ a hs'=>?_);refine awp_last hte e1 e2 [_,_,_] hs' (Eq.refl _) ?_;clear hs hte hs';refine qD ?_;refine qB ?_;refine qN ?_;exact ⟨rfl,⟨rfl,rfl⟩,rfl⟩
theorem tlist_o {k : Nat} (sts : List TSt) (L : Lst) (es : List Edt) (h : 0 < sts.length) (hl : sts.getD (sts.length - 1) ((([] : List Ent),(0 : Int),(0 : Int)),([] : List Edt)) = (L,es)) (hL : L.1.length ≤ 1000000) : qW Tryz.prog 24 [.one (.adk k (.slk k rSt) sts)] [] 0 (.one (.own 1 0)) [(1,.box 134 [.vec 0,.lit (.int .i64 L.2.1),.lit (.int .i64 L.2.2)]),(0,.vec 138 rEnt L.1)] 2:=by
  have hnow:=tnow_c (k:=k) sts h;rw [hl] at hnow;have hcp:=copyL_o (k:=0) L.1 L.2.1 L.2.2 hL;refine qU (rs:=[2]) Tryz.func24 rfl rfl rfl teOk (by decide) rfl ?_;refine qD ?_;refine qB ?_;refine qD ?_;refine qD ?_;refine qB ?_;refine Or.inl ?_;refine zai (rfl) ?_;refine zei _ (zai (topen_c sts) ?_);refine qM rfl (fun h5=>?_) (fun h5=>?_)
  ·try simp only [decide_eq_false_iff_not,Bool.not_eq_true'] at h5
   try simp only [zds] at h5
   exfalso
   simp at h5;have h9 : sts.length = 0:=(by rw [h5];rfl);omega
  ·try simp only [decide_eq_true_eq,Bool.not_eq_false'] at h5
   try simp only [zds] at h5
   refine qO ?_;refine qD ?_;refine qB ?_;refine Or.inl ?_;refine zai (rfl) ?_;refine zei _ (zai (hnow) ?_);refine Or.inr (Or.inl (zei [] (zei [] (zei _ (zei _ (zei _ (zei _ (zei _ (zai (hcp) (zai rfl (zai True.intro (zai rfl ?_))))))))))));refine qN ?_;exact ⟨rfl,⟨rfl,rfl⟩,rfl⟩
theorem tedits_c {k : Nat} (sts : List TSt) (L : Lst) (es : List Edt) (h : 0 < sts.length) (hl : sts.getD (sts.length - 1) ((([] : List Ent),(0 : Int),(0 : Int)),([] : List Edt)) = (L,es)) (hf : ∀ e ∈ es,e.2.2.length ≤ 1000000) (he : es.length ≤ 1000000) : yB Tryz.prog 25 [.one (.adk k (.slk k rSt) sts)] (.one (.sl rEdt es)):=by
  have hnow:=tnow_c (k:=k) sts h;rw [hl] at hnow;have hcp:=copyT_c es hf he;refine qZ (rs:=[2]) Tryz.func25 rfl rfl rfl teOk rfl ?_;refine qD ?_;refine qB ?_;refine qD ?_;refine qD ?_;refine qB ?_;refine Or.inl ?_;refine zai (rfl) ?_;refine zei _ (zai (topen_c sts) ?_);refine qM rfl (fun h5=>?_) (fun h5=>?_)
  ·try simp only [decide_eq_false_iff_not,Bool.not_eq_true'] at h5
   try simp only [zds] at h5
   exfalso
   simp at h5;have h9 : sts.length = 0:=(by rw [h5];rfl);omega
  ·try simp only [decide_eq_true_eq,Bool.not_eq_false'] at h5
   try simp only [zds] at h5
   refine qO ?_;refine qD ?_;refine qB ?_;refine Or.inl ?_;refine zai (rfl) ?_;refine zei _ (zai (hnow) ?_);refine Or.inl ?_;refine zai (rfl) ?_;refine zei _ (zai (hcp) ?_);refine qN ?_;rfl
theorem troll_o (sts : List TSt) : qW Tryz.prog 17 [.one (.own 0 0)] (txO sts) 2 (.tup []) [(0,.box 123 [.lit (.slice none 0 0)])] 2:=by
  refine qU (rs:=[]) Tryz.func17 rfl rfl rfl teOk (by decide) rfl ?_;refine qD ?_;refine qB ?_;refine qM rfl (fun h3=>?_) (fun h3=>?_)
  ·skip
   refine qB ?_;exact ⟨rfl,rfl,rfl⟩
  ·try simp only [zbq] at h3
   try simp only [zds] at h3
   simp at h3
theorem tcommit_o (sts : List TSt) (L : Lst) (es : List Edt) (h : 1 < sts.length) (hl : sts.getD (sts.length - 1) ((([] : List Ent),(0 : Int),(0 : Int)),([] : List Edt)) = (L,es)) (hf : ∀ e ∈ es,e.2.2.length ≤ 1000000) (he : es.length ≤ 1000000) : qW Tryz.prog 19 [.one (.own 0 0)] (txO sts) 2 (.tup [(false,[.sl rEdt es]),(false,[.lit .nilIface])]) [(0,.box 123 [.lit (.slice none 0 0)])] 2:=by
  have hed:=tedits_c (k:=1) sts L es (by omega) hl hf he;refine qU (rs:=[2,3]) Tryz.func19 rfl rfl rfl teOk (by decide) rfl ?_;refine qD ?_;refine qB ?_;refine qD ?_;refine qQ ?_;refine qD ?_;refine qB ?_;refine Or.inr (Or.inr (Or.inl ?_));refine zai rfl ?_;refine zei _ (zai (topen_c sts) ?_);refine qM rfl (fun h5=>?_) (fun h5=>?_)
  ·try simp only [decide_eq_false_iff_not,Bool.not_eq_true'] at h5
   try simp only [zds] at h5
   exfalso
   simp at h5;have h9 : sts.length = 0:=(by rw [h5];rfl);omega
  ·try simp only [decide_eq_true_eq,Bool.not_eq_false'] at h5
   try simp only [zds] at h5
   refine qD ?_;refine qB ?_;refine Or.inr (Or.inr (Or.inl ?_));refine zai rfl ?_;refine zei _ (zai (tmark_c sts (by omega)) ?_);refine qM rfl (fun h10=>?_) (fun h10=>?_)
   ·try simp only [decide_eq_true_eq] at h10
    try simp only [zds] at h10
    exfalso
    omega
   ·try simp only [decide_eq_false_iff_not] at h10
    try simp only [zds] at h10
    refine qO ?_;refine qD ?_;refine qB ?_;refine Or.inr (Or.inr (Or.inl ?_));refine zai rfl ?_;refine zei _ (zai (hed) ?_);refine qD ?_;refine qB ?_;refine Or.inr (Or.inl (zei [] (zei [0,1] (zei _ (zei _ (zei _ (zei _ (zei _ (zai (troll_o sts) (zai rfl (zai (zai (zai rfl rfl) (zai (zai rfl rfl) True.intro)) (zai rfl ?_))))))))))));refine qD ?_;refine qB ?_;refine qN ?_;exact ⟨rfl,rfl,rfl⟩
end Q
end Ab
end Go.Proofs.YtojipboabgebfaaGreatDoor
namespace Go.Proofs.YtojipboabgebfaaGreatDoor
open Go.RowKit
namespace Ab
set_option maxRecDepth 100000
abbrev rItm3 : Rd Itm:=rItm.kd 3
namespace Q
theorem spoil7_c : ASpoil Tryz.prog 14:=by
  refine aspoil_of Tryz.func14 rfl rfl rfl teOk rfl (fun xs=>?_);refine qD ?_;refine qB ?_;intro l0_1
  try simp only [zds] at l0_1
  refine qQ ?_;refine qY (fun (i : Nat)=>i ≤ xs.length) (fun (i : Nat)=>[(0,.one (.slk 7 rUnk2 xs)),(4,ii .i64 xs.length),(5,ii .i64 i)]) (fun (i : Nat)=>[]) 1000000 (fun (i : Nat)=>xs.length - i) 0 (Nat.zero_le _) (qP ⟨rfl,rfl,rfl⟩ trivial rfl) ?_;intro i hI0;refine qD ?_;refine qB ?_;refine qD ?_;refine qM rfl (fun h6=>?_) (fun h6=>?_)
  · try simp only [decide_eq_true_eq] at h6
    try simp only [zds] at h6
    refine qO ?_;refine qD ?_;refine qQ ?_;refine qD ?_;refine qB ?_;show qV _ _ _ _ _ _ _ _ _;refine acode_store7 4 rfl rfl rfl (by rfl) ?_;refine zai (by first|omega|assumption|decide|(simp only [zds];omega)|(simp <;> omega)) ?_;refine zei _ (zei _ (zei _ (zei _ (zei _ (zai rfl (zai rfl (zai rfl (zai rfl ?_))))))));refine qB ?_;refine zai (by first|omega|assumption|decide|(simp only [zds];omega)|(simp <;> omega)) ?_;exact ⟨i + 1,by omega,by first|omega|(simp <;> omega),qP ⟨rfl,rfl,(yH (by omega))⟩ trivial rfl⟩
  · try simp only [decide_eq_false_iff_not,Int.not_lt] at h6
    try simp only [zds] at h6
    refine yA ?_;exact Or.inr rfl
end Q
end Ab
end Go.Proofs.YtojipboabgebfaaGreatDoor
namespace Go.Proofs.YtojipboabgebfaaGreatDoor
open Go.RowKit
namespace Ab
set_option maxRecDepth 100000
abbrev rSqz : Rd (Unit × Int × Int):=.st .unk (.st (.int .i64) (.int .i64))
abbrev rFt (κ : Nat) : Rd (List Fld × Bool):=.st (.slk κ rFld) .bool
theorem mp_eq {α : Type} {g : Bool} {R : Rd α} {xs ys : List (Int × α)} (h : xs = ys) : some (Ob.map g R xs) = some (Ob.map g R ys):=by rw [h]
namespace Q
theorem clonek3_c {k : Nat} (l : List Fld) (hl : l.length ≤ 1000000) : yB Tryz.prog 69 [.one (.slk k rFld l)] (.one (.slk 3 rFld l)):=by
  refine qZ (rs:=[2]) Tryz.func69 rfl rfl rfl teOk rfl ?_;refine qD ?_;refine qB ?_;refine qD ?_;refine qD ?_;refine acode_isnil (q:=k) [_] _ (R:=rFld) (xs:=l) rfl rfl rfl rfl (e:=107) rfl rfl ?_;refine ⟨rfl,fun b hb=>?_⟩;refine qM rfl (fun h4=>?_) (fun h4=>?_)
  ·have hl0:=hb h4;subst hl0;refine qD ?_;refine qB ?_;refine yU 2 107 rFld rfl ?_;refine acode_frzk 0 3 rfl ?_;refine qN ?_;rfl
  ·refine qO ?_;refine qD ?_;refine qB ?_;refine zai (by first|exact qR (show l.length ≤ 1000000000 by omega) (by decide)|exact qR (show 0 + l.length ≤ 1000000000 by omega) (by decide)) ?_;refine acode_frzk 0 3 rfl ?_;refine qN ?_;rfl
theorem copykE_c {κ κ' : Nat} (s : List Edt) (hf : ∀ e ∈ s,e.2.2.length ≤ 1000000) (hl : s.length ≤ 1000000) : yB Tryz.prog 65 [.one (.slk κ (rEdk κ') s)] (.one (.sl rEdt s)):=by
  refine qZ (rs:=[2]) Tryz.func65 rfl rfl rfl teOk rfl ?_;refine qD ?_;refine qB ?_;refine qD ?_;refine qB ?_;refine qD ?_;refine qD ?_;refine yU 3 31 rEdt rfl ?_;refine qB ?_;intro l2_1
  try simp only [zds] at l2_1
  refine qQ ?_;refine qY (fun (i : Nat)=>i ≤ s.length) (fun (i : Nat)=>[(3,.one (.vec 0)),(6,.one (.slk κ (rEdk κ') s)),(7,ii .i64 s.length),(8,ii .i64 i)]) (fun (i : Nat)=>[(0,.vec 31 rEdt (s.take i))]) 1 (fun (i : Nat)=>s.length - i) 0 (Nat.zero_le _) (qP ⟨rfl,rfl,rfl,rfl⟩ rfl rfl) ?_;intro i hI0;refine qD ?_;refine qB ?_;refine qD ?_;refine qM rfl (fun h9=>?_) (fun h9=>?_)
  ·try simp only [decide_eq_true_eq] at h9
   try simp only [zds] at h9
   have hil : i < s.length:=(by omega);refine qO ?_;refine qD ?_;refine qQ ?_;refine qD ?_;refine qB ?_;refine zai (by first|omega|assumption|decide|(simp only [zds];omega)|(simp <;> omega)) ?_;refine qD ?_;refine qB ?_;refine Or.inl ?_;refine zai (rfl) ?_;refine zei _ (zai (clone_c (k:=κ') (s.getD i ((0 : Int),(0 : Int),([] : List Fld))).2.2 (hf _ (yN hil ((0 : Int),(0 : Int),([] : List Fld))))) ?_);refine qB ?_;refine zai (by exact qR (show (s.take i).length + 1 ≤ 1000000000 by rw [List.length_take];omega) (by decide)) ?_;refine qB ?_;refine zai (by first|omega|assumption|decide|(simp only [zds];omega)|(simp <;> omega)) ?_;exact ⟨i + 1,by omega,by first|omega|(simp <;> omega),qP ⟨rfl,rfl,rfl,(yH (by omega))⟩ (qS (by rw [← yG ((0 : Int),(0 : Int),([] : List Fld)) hil];try exact rfl)) rfl⟩
  ·try simp only [decide_eq_false_iff_not,Int.not_lt] at h9
   try simp only [zds] at h9
   refine yA ?_;refine qD ?_;refine qB ?_;refine qN ?_;rw [List.take_of_length_le (by omega)];exact rfl
theorem copykE3_o {κ κ' : Nat} (s : List Edt) (hf : ∀ e ∈ s,e.2.2.length ≤ 1000000) (hl : s.length ≤ 1000000) : qW Tryz.prog 65 [.one (.slk κ (rEdk κ') s)] [] 0 (.one (.vec 0)) [(0,.vec 31 (rEdk 3) s)] 1:=by
  refine qU (rs:=[2]) Tryz.func65 rfl rfl rfl (mapTe_ok (q:=3) teOk) (by decide) rfl ?_;refine qD ?_;refine qB ?_;refine qD ?_;refine qB ?_;refine qD ?_;refine qD ?_;refine yU 3 31 (rEdk 3) rfl ?_;refine qB ?_;intro l2_1
  try simp only [zds] at l2_1
  refine qQ ?_;refine qY (fun (i : Nat)=>i ≤ s.length) (fun (i : Nat)=>[(3,.one (.vec 0)),(6,.one (.slk κ (rEdk κ') s)),(7,ii .i64 s.length),(8,ii .i64 i)]) (fun (i : Nat)=>[(0,.vec 31 (rEdk 3) (s.take i))]) 1 (fun (i : Nat)=>s.length - i) 0 (Nat.zero_le _) (qP ⟨rfl,rfl,rfl,rfl⟩ rfl rfl) ?_;intro i hI0;refine qD ?_;refine qB ?_;refine qD ?_;refine qM rfl (fun h9=>?_) (fun h9=>?_)
  ·try simp only [decide_eq_true_eq] at h9
   try simp only [zds] at h9
   have hil : i < s.length:=(by omega);refine qO ?_;refine qD ?_;refine qQ ?_;refine qD ?_;refine qB ?_;refine zai (by first|omega|assumption|decide|(simp only [zds];omega)|(simp <;> omega)) ?_;refine qD ?_;refine qB ?_;refine Or.inl ?_;refine zai (rfl) ?_;refine zei _ (zai (clonek3_c (k:=κ') (s.getD i ((0 : Int),(0 : Int),([] : List Fld))).2.2 (hf _ (yN hil ((0 : Int),(0 : Int),([] : List Fld))))) ?_);refine qB ?_;refine zai (by exact qR (show (s.take i).length + 1 ≤ 1000000000 by rw [List.length_take];omega) (by decide)) ?_;refine qB ?_;refine zai (by first|omega|assumption|decide|(simp only [zds];omega)|(simp <;> omega)) ?_;exact ⟨i + 1,by omega,by first|omega|(simp <;> omega),qP ⟨rfl,rfl,rfl,(yH (by omega))⟩ (qS (by rw [← yG ((0 : Int),(0 : Int),([] : List Fld)) hil];try exact rfl)) rfl⟩
  ·try simp only [decide_eq_false_iff_not,Int.not_lt] at h9
   try simp only [zds] at h9
   refine yA ?_;refine qD ?_;refine qB ?_;refine qN ?_;rw [List.take_of_length_le (by omega)];exact ⟨rfl,rfl,rfl⟩
theorem given_c {k : Nat} (u : Unit) (f n id : Int) : yB Tryz.prog 107 [.one (.adk k rSqz (u,f,n)),ii .i64 id] (ib (decide (f ≤ id) && decide (id < n))):=by
  refine qZ (rs:=[4]) Tryz.func107 rfl rfl rfl teOk rfl ?_;refine qD ?_;refine qB ?_;refine qD ?_;refine qB ?_;refine zai (fun h=>trivial) ?_;refine zai (fun h=>trivial) ?_;refine zai (fun h=>⟨⟨h,trivial⟩,trivial⟩) ?_;refine zai (fun h=>⟨⟨h,trivial⟩,trivial⟩) ?_;refine zai (fun h=>⟨⟨h,trivial⟩,trivial⟩) ?_;refine zai (fun h=>⟨⟨h,trivial⟩,⟨h,trivial⟩,trivial⟩) ?_;refine zai (by exact fun h=>h) ?_;refine qN ?_;rfl
theorem yL (f n : Int) (M : List (Int × Fate)) (x : Edt) (h3 : x.1 = 3) (h : (getM M (n - 1)).isSome = true ∧ ((getM M (n - 1)).getD ([],false)).2 = false) : xG n M x = (x.1,x.2.1,((getM M (n - 1)).getD ([],false)).1) ∧ keepN n x = n - 1 ∧ keepM M x = M ∧ xO f n M x = true:=by
  unfold xG keepN keepM xO;rw [if_pos h3,if_pos h3,if_neg (by omega),if_neg (by omega),if_neg (by omega)];refine ⟨?_,rfl,rfl,rfl⟩;cases hg : getM M (n - 1) with
  | none=>rw [hg] at h;cases h.1
  | some g =>
    obtain ⟨g,b⟩:=g;rw [hg] at h;cases b with
    | true=>cases h.2
    | false=>rfl
theorem yM (f n : Int) (M : List (Int × Fate)) (x : Edt) (h3 : x.1 = 3) (h : getM M (n - 1) = none ∨ ((getM M (n - 1)).getD ([],false)).2 = true) : xG n M x = x ∧ keepN n x = n - 1 ∧ keepM M x = M ∧ xO f n M x = true:=by
  unfold xG keepN keepM xO;rw [if_pos h3,if_pos h3,if_neg (by omega),if_neg (by omega),if_neg (by omega)];refine ⟨?_,rfl,rfl,rfl⟩;have : fatF (getM M (n - 1)) x.2.2 = x.2.2:=by
    apply fatF_gone;cases hg : getM M (n - 1) with
    | none=>exact .inl rfl
    | some g =>
      obtain ⟨g,b⟩:=g;rw [hg] at h;cases b with
      | true=>exact .inr ⟨g,rfl⟩
      | false=>rcases h with h|h <;> cases h
  rw [this]
theorem yY (f n : Int) (M : List (Int × Fate)) (x : Edt) (h2 : x.1 = 2) : xG n M x = x ∧ keepN n x = n ∧ keepM M x = setM M x.2.1 ([],true) ∧ xO f n M x = true:=by
  unfold xG keepN keepM xO;rw [if_neg (by omega),if_neg (by omega),if_pos h2,if_neg (by omega)];exact ⟨rfl,rfl,rfl,rfl⟩
theorem yW (f n : Int) (M : List (Int × Fate)) (x : Edt) (h1 : x.1 = 1) : xG n M x = x ∧ keepN n x = n ∧ xO f n M x = (!(getM M x.2.1).isSome && !(decide (f ≤ x.2.1) && decide (x.2.1 < n))):=by
  unfold xG keepN xO;rw [if_neg (by omega),if_neg (by omega),if_pos h1];exact ⟨rfl,rfl,rfl⟩
theorem xE (M : List (Int × Fate)) (x : Edt) (h1 : x.1 = 1) (h : (getM M x.2.1).isSome = true) : keepM M x = M:=by
  unfold keepM;rw [if_neg (by omega),if_pos h1,if_pos h]
theorem xF (M : List (Int × Fate)) (x : Edt) (h1 : x.1 = 1) (h : (getM M x.2.1).isSome = false) : keepM M x = setM M x.2.1 (x.2.2,false):=by
  unfold keepM;rw [if_neg (by omega),if_pos h1,if_neg (by rw [h];decide)]
theorem yX (f n : Int) (M : List (Int × Fate)) (x : Edt) (h3 : x.1 ≠ 3) (h2 : x.1 ≠ 2) (h1 : x.1 ≠ 1) : xG n M x = x ∧ keepN n x = n ∧ keepM M x = M ∧ xO f n M x = true:=by
  unfold xG keepN keepM xO;rw [if_neg h3,if_neg h3,if_neg h2,if_neg h1,if_neg h1];exact ⟨rfl,rfl,rfl,rfl⟩
def sqO (f n : Int) (κ : Nat) (M : List (Int × Fate)) : Obs:=[(0,.box 112 [.mp 1,.lit (.int .i64 f),.lit (.int .i64 n)]),(1,.map true (rFt κ) M)]
set_option maxHeartbeats 8000000 in
theorem keep_o0 (f n : Int) (M : List (Int × Fate)) (x : Edt) (hn : x.1 = 3 → -1000000000000 ≤ n ∧ n ≤ 1000000000000) : qW Tryz.prog 66 [.one (.own 0 0),.agg (toL (rEdk 0) x)] (sqO f n 0 M) 2 (.tup [(true,toL (rEdk 0) (xG n M x)),(false,[.lit (.bool (xO f n M x))])]) (sqO f (keepN n x) 0 (keepM M x)) 2:=by
  refine acallo_ofc (t:=4) (ty:=31) (u:=5) Tryz.func66 rfl rfl rfl teOk rfl rfl ?_;refine qD ?_;refine qB ?_;refine qD ?_;refine qD ?_;refine qB ?_;refine qQ ?_;refine qD ?_;refine qB ?_;refine qM rfl (fun h12=>?_) (fun h12=>?_)
  ·try simp only [decide_eq_true_eq] at h12
   try simp only [zds] at h12
   refine qD ?_;refine qB ?_;refine zai (by first|omega|assumption|decide|(simp only [zds];omega)|(simp <;> omega)) ?_;refine acode_cut (fun (u : Unit)=>True) (fun (u : Unit)=>[(0,.one (.own 0 0)),(3,.one (.own 2 0)),(4,.one (.own 3 0)),(6,.one (.own 4 0)),(7,.one (.lit (.bool (getM M (n - 1)).isSome)))]) (fun (u : Unit)=>[(0,.box 112 [.mp 1,.lit (.int .i64 f),.lit (.int .i64 (n - 1))]),(1,.map true (rFt 0) M),(2,.box 31 (toL (rEdk 0) x)),(3,.box 31 [.lit (.int .i64 0),.lit (.int .i64 0),.lit (.slice none 0 0)]),(4,.box 196 (toL (rFt 0) ((getM M (n - 1)).getD ([],false))))]) 5 ?_ ?_
   ·refine yE rfl ?_;refine qE 0 rfl rfl rfl (by kernel_rfl) ?_;refine qE 1 rfl rfl rfl (by kernel_rfl) ?_;refine qE 2 rfl rfl rfl (by kernel_rfl) ?_;refine qE 4 rfl rfl rfl (by kernel_rfl) ?_;refine qE 5 rfl rfl rfl (by kernel_rfl) ?_;refine qE 6 rfl rfl rfl (by kernel_rfl) ?_;refine qC [3,7,12] (by kernel_rfl) rfl ?_;refine zai ?_ ?_
    ·refine qC [7,12] (by kernel_rfl) rfl ?_;refine zai ?_ ?_
     ·refine qC [8,12] (by kernel_rfl) rfl ?_;refine zai ?_ ?_
      ·refine qE 9 rfl rfl rfl (by kernel_rfl) ?_;refine qE 10 rfl rfl rfl (by kernel_rfl) ?_;refine qE 11 rfl rfl rfl (by kernel_rfl) ?_;refine qC [12] (by kernel_rfl) rfl ?_;refine qC [13] (by kernel_rfl) rfl ?_;refine qE 14 rfl rfl rfl (by kernel_rfl) ?_;refine qK (by kernel_rfl) ?_;exact ⟨(),trivial,qP ⟨rfl,rfl,rfl,rfl,rfl⟩ ⟨rfl,rfl,rfl,rfl,rfl⟩ rfl⟩
      ·refine qC [8] (by kernel_rfl) rfl ?_;refine qE 9 rfl rfl rfl (by kernel_rfl) ?_;refine qE 10 rfl rfl rfl (by kernel_rfl) ?_;refine qE 11 rfl rfl rfl (by kernel_rfl) ?_;refine qC [13] (by kernel_rfl) rfl ?_;refine qE 14 rfl rfl rfl (by kernel_rfl) ?_;refine qK (by kernel_rfl) ?_;exact ⟨(),trivial,qP ⟨rfl,rfl,rfl,rfl,rfl⟩ ⟨rfl,rfl,rfl,rfl,rfl⟩ rfl⟩
     ·refine qC [7] (by kernel_rfl) rfl ?_;refine qC [8] (by kernel_rfl) rfl ?_;refine qE 9 rfl rfl rfl (by kernel_rfl) ?_;refine qE 10 rfl rfl rfl (by kernel_rfl) ?_;refine qE 11 rfl rfl rfl (by kernel_rfl) ?_;refine qC [13] (by kernel_rfl) rfl ?_;refine qE 14 rfl rfl rfl (by kernel_rfl) ?_;refine qK (by kernel_rfl) ?_;exact ⟨(),trivial,qP ⟨rfl,rfl,rfl,rfl,rfl⟩ ⟨rfl,rfl,rfl,rfl,rfl⟩ rfl⟩
    refine zai ?_ ?_
    ·refine qC [3,12] (by kernel_rfl) rfl ?_;refine zai ?_ ?_
     ·refine qC [8,12] (by kernel_rfl) rfl ?_;refine zai ?_ ?_
      ·refine qE 9 rfl rfl rfl (by kernel_rfl) ?_;refine qE 10 rfl rfl rfl (by kernel_rfl) ?_;refine qE 11 rfl rfl rfl (by kernel_rfl) ?_;refine qC [12] (by kernel_rfl) rfl ?_;refine qC [13] (by kernel_rfl) rfl ?_;refine qE 14 rfl rfl rfl (by kernel_rfl) ?_;refine qK (by kernel_rfl) ?_;exact ⟨(),trivial,qP ⟨rfl,rfl,rfl,rfl,rfl⟩ ⟨rfl,rfl,rfl,rfl,rfl⟩ rfl⟩
      ·refine qC [8] (by kernel_rfl) rfl ?_;refine qE 9 rfl rfl rfl (by kernel_rfl) ?_;refine qE 10 rfl rfl rfl (by kernel_rfl) ?_;refine qE 11 rfl rfl rfl (by kernel_rfl) ?_;refine qC [13] (by kernel_rfl) rfl ?_;refine qE 14 rfl rfl rfl (by kernel_rfl) ?_;refine qK (by kernel_rfl) ?_;exact ⟨(),trivial,qP ⟨rfl,rfl,rfl,rfl,rfl⟩ ⟨rfl,rfl,rfl,rfl,rfl⟩ rfl⟩
     ·refine qC [3] (by kernel_rfl) rfl ?_;refine qC [8] (by kernel_rfl) rfl ?_;refine qE 9 rfl rfl rfl (by kernel_rfl) ?_;refine qE 10 rfl rfl rfl (by kernel_rfl) ?_;refine qE 11 rfl rfl rfl (by kernel_rfl) ?_;refine qC [13] (by kernel_rfl) rfl ?_;refine qE 14 rfl rfl rfl (by kernel_rfl) ?_;refine qK (by kernel_rfl) ?_;exact ⟨(),trivial,qP ⟨rfl,rfl,rfl,rfl,rfl⟩ ⟨rfl,rfl,rfl,rfl,rfl⟩ rfl⟩
    ·refine qC [3,7] (by kernel_rfl) rfl ?_;refine zai ?_ ?_
     ·refine qC [7] (by kernel_rfl) rfl ?_;refine qC [8] (by kernel_rfl) rfl ?_;refine qE 9 rfl rfl rfl (by kernel_rfl) ?_;refine qE 10 rfl rfl rfl (by kernel_rfl) ?_;refine qE 11 rfl rfl rfl (by kernel_rfl) ?_;refine qC [13] (by kernel_rfl) rfl ?_;refine qE 14 rfl rfl rfl (by kernel_rfl) ?_;refine qK (by kernel_rfl) ?_;exact ⟨(),trivial,qP ⟨rfl,rfl,rfl,rfl,rfl⟩ ⟨rfl,rfl,rfl,rfl,rfl⟩ rfl⟩
     ·refine qC [3] (by kernel_rfl) rfl ?_;refine qC [8] (by kernel_rfl) rfl ?_;refine qE 9 rfl rfl rfl (by kernel_rfl) ?_;refine qE 10 rfl rfl rfl (by kernel_rfl) ?_;refine qE 11 rfl rfl rfl (by kernel_rfl) ?_;refine qC [13] (by kernel_rfl) rfl ?_;refine qE 14 rfl rfl rfl (by kernel_rfl) ?_;refine qK (by kernel_rfl) ?_;exact ⟨(),trivial,qP ⟨rfl,rfl,rfl,rfl,rfl⟩ ⟨rfl,rfl,rfl,rfl,rfl⟩ rfl⟩
   ·intro u hcut5;refine qD ?_;refine qB ?_;refine zai (fun h=>trivial) ?_;refine zai (fun h=>⟨⟨h,trivial⟩,trivial⟩) ?_;refine zai (fun h=>⟨⟨h,trivial⟩,trivial⟩) ?_;refine zai (by exact fun h=>h) ?_;refine qM rfl (fun h38=>?_) (fun h38=>?_)
    ·try simp only [Bool.and_eq_true,Bool.not_eq_true'] at h38
     try simp only [zds] at h38
     refine qB ?_;refine qD ?_;refine qB ?_;refine qN ?_
     first|(obtain ⟨e1,e2,e3,e4⟩:=yL f n M x h12 h38;rw [e1,e2,e3,e4];exact ⟨rfl,⟨rfl,rfl⟩,rfl⟩)|(obtain ⟨e1,e2,e3,e4⟩:=yM f n M x h12 (by simpa using h38);rw [e1,e2,e3,e4];exact ⟨rfl,⟨rfl,rfl⟩,rfl⟩)|(obtain ⟨e1,e2,e3,e4⟩:=yY f n M x h42;rw [e1,e2,e3,e4];exact ⟨rfl,⟨rfl,rfl⟩,rfl⟩)|(obtain ⟨e1,e2,e3⟩:=yW f n M x h51;rw [e1,e2,e3];exact ⟨rfl,⟨rfl,rfl⟩,rfl⟩)|(obtain ⟨e1,e2,e3,e4⟩:=yX f n M x h12 h42 h51;rw [e1,e2,e3,e4];exact ⟨rfl,⟨rfl,rfl⟩,rfl⟩)
    ·try simp only [Bool.not_eq_false',Bool.and_eq_false_iff] at h38
     try simp only [zds] at h38
     refine qO ?_;refine qD ?_;refine qB ?_;refine qN ?_
     first|(obtain ⟨e1,e2,e3,e4⟩:=yL f n M x h12 h38;rw [e1,e2,e3,e4];exact ⟨rfl,⟨rfl,rfl⟩,rfl⟩)|(obtain ⟨e1,e2,e3,e4⟩:=yM f n M x h12 (by simpa using h38);rw [e1,e2,e3,e4];exact ⟨rfl,⟨rfl,rfl⟩,rfl⟩)|(obtain ⟨e1,e2,e3,e4⟩:=yY f n M x h42;rw [e1,e2,e3,e4];exact ⟨rfl,⟨rfl,rfl⟩,rfl⟩)|(obtain ⟨e1,e2,e3⟩:=yW f n M x h51;rw [e1,e2,e3];exact ⟨rfl,⟨rfl,rfl⟩,rfl⟩)|(obtain ⟨e1,e2,e3,e4⟩:=yX f n M x h12 h42 h51;rw [e1,e2,e3,e4];exact ⟨rfl,⟨rfl,rfl⟩,rfl⟩)
  ·try simp only [decide_eq_false_iff_not] at h12
   try simp only [zds] at h12
   refine qD ?_;refine qB ?_;refine qM rfl (fun h42=>?_) (fun h42=>?_)
   ·try simp only [decide_eq_true_eq] at h42
    try simp only [zds] at h42
    refine yE rfl ?_;refine qE 0 rfl rfl rfl (by kernel_rfl) ?_;refine qE 1 rfl rfl rfl (by kernel_rfl) ?_;refine qE 2 rfl rfl rfl (by kernel_rfl) ?_;refine qE 4 rfl rfl rfl (by kernel_rfl) ?_;refine qC [3,5,6] (by kernel_rfl) rfl ?_;refine zai ?_ ?_
    ·refine qC [5,6] (by kernel_rfl) rfl ?_;refine zai ?_ ?_
     ·refine qC [6] (by kernel_rfl) rfl ?_;refine qC [7] (by kernel_rfl) rfl ?_;refine qK (by kernel_rfl) ?_;refine qD ?_;refine qB ?_;refine qN ?_
      first|(obtain ⟨e1,e2,e3,e4⟩:=yL f n M x h12 h38;rw [e1,e2,e3,e4];exact ⟨rfl,⟨rfl,rfl⟩,rfl⟩)|(obtain ⟨e1,e2,e3,e4⟩:=yM f n M x h12 (by simpa using h38);rw [e1,e2,e3,e4];exact ⟨rfl,⟨rfl,rfl⟩,rfl⟩)|(obtain ⟨e1,e2,e3,e4⟩:=yY f n M x h42;rw [e1,e2,e3,e4];exact ⟨rfl,⟨rfl,rfl⟩,rfl⟩)|(obtain ⟨e1,e2,e3⟩:=yW f n M x h51;rw [e1,e2,e3];exact ⟨rfl,⟨rfl,rfl⟩,rfl⟩)|(obtain ⟨e1,e2,e3,e4⟩:=yX f n M x h12 h42 h51;rw [e1,e2,e3,e4];exact ⟨rfl,⟨rfl,rfl⟩,rfl⟩)
     ·refine qC [5] (by kernel_rfl) rfl ?_;refine qC [7] (by kernel_rfl) rfl ?_;refine qK (by kernel_rfl) ?_;refine qD ?_;refine qB ?_;refine qN ?_
      first|(obtain ⟨e1,e2,e3,e4⟩:=yL f n M x h12 h38;rw [e1,e2,e3,e4];exact ⟨rfl,⟨rfl,rfl⟩,rfl⟩)|(obtain ⟨e1,e2,e3,e4⟩:=yM f n M x h12 (by simpa using h38);rw [e1,e2,e3,e4];exact ⟨rfl,⟨rfl,rfl⟩,rfl⟩)|(obtain ⟨e1,e2,e3,e4⟩:=yY f n M x h42;rw [e1,e2,e3,e4];exact ⟨rfl,⟨rfl,rfl⟩,rfl⟩)|(obtain ⟨e1,e2,e3⟩:=yW f n M x h51;rw [e1,e2,e3];exact ⟨rfl,⟨rfl,rfl⟩,rfl⟩)|(obtain ⟨e1,e2,e3,e4⟩:=yX f n M x h12 h42 h51;rw [e1,e2,e3,e4];exact ⟨rfl,⟨rfl,rfl⟩,rfl⟩)
    refine zai ?_ ?_
    ·refine qC [3,6] (by kernel_rfl) rfl ?_;refine zai ?_ ?_
     ·refine qC [6] (by kernel_rfl) rfl ?_;refine qC [7] (by kernel_rfl) rfl ?_;refine qK (by kernel_rfl) ?_;refine qD ?_;refine qB ?_;refine qN ?_
      first|(obtain ⟨e1,e2,e3,e4⟩:=yL f n M x h12 h38;rw [e1,e2,e3,e4];exact ⟨rfl,⟨rfl,rfl⟩,rfl⟩)|(obtain ⟨e1,e2,e3,e4⟩:=yM f n M x h12 (by simpa using h38);rw [e1,e2,e3,e4];exact ⟨rfl,⟨rfl,rfl⟩,rfl⟩)|(obtain ⟨e1,e2,e3,e4⟩:=yY f n M x h42;rw [e1,e2,e3,e4];exact ⟨rfl,⟨rfl,rfl⟩,rfl⟩)|(obtain ⟨e1,e2,e3⟩:=yW f n M x h51;rw [e1,e2,e3];exact ⟨rfl,⟨rfl,rfl⟩,rfl⟩)|(obtain ⟨e1,e2,e3,e4⟩:=yX f n M x h12 h42 h51;rw [e1,e2,e3,e4];exact ⟨rfl,⟨rfl,rfl⟩,rfl⟩)
     ·refine qC [3] (by kernel_rfl) rfl ?_;refine qC [7] (by kernel_rfl) rfl ?_;refine qK (by kernel_rfl) ?_;refine qD ?_;refine qB ?_;refine qN ?_
      first|(obtain ⟨e1,e2,e3,e4⟩:=yL f n M x h12 h38;rw [e1,e2,e3,e4];exact ⟨rfl,⟨rfl,rfl⟩,rfl⟩)|(obtain ⟨e1,e2,e3,e4⟩:=yM f n M x h12 (by simpa using h38);rw [e1,e2,e3,e4];exact ⟨rfl,⟨rfl,rfl⟩,rfl⟩)|(obtain ⟨e1,e2,e3,e4⟩:=yY f n M x h42;rw [e1,e2,e3,e4];exact ⟨rfl,⟨rfl,rfl⟩,rfl⟩)|(obtain ⟨e1,e2,e3⟩:=yW f n M x h51;rw [e1,e2,e3];exact ⟨rfl,⟨rfl,rfl⟩,rfl⟩)|(obtain ⟨e1,e2,e3,e4⟩:=yX f n M x h12 h42 h51;rw [e1,e2,e3,e4];exact ⟨rfl,⟨rfl,rfl⟩,rfl⟩)
    ·refine qC [3,5] (by kernel_rfl) rfl ?_;refine zai ?_ ?_
     ·refine qC [5] (by kernel_rfl) rfl ?_;refine qC [7] (by kernel_rfl) rfl ?_;refine qK (by kernel_rfl) ?_;refine qD ?_;refine qB ?_;refine qN ?_
      first|(obtain ⟨e1,e2,e3,e4⟩:=yL f n M x h12 h38;rw [e1,e2,e3,e4];exact ⟨rfl,⟨rfl,rfl⟩,rfl⟩)|(obtain ⟨e1,e2,e3,e4⟩:=yM f n M x h12 (by simpa using h38);rw [e1,e2,e3,e4];exact ⟨rfl,⟨rfl,rfl⟩,rfl⟩)|(obtain ⟨e1,e2,e3,e4⟩:=yY f n M x h42;rw [e1,e2,e3,e4];exact ⟨rfl,⟨rfl,rfl⟩,rfl⟩)|(obtain ⟨e1,e2,e3⟩:=yW f n M x h51;rw [e1,e2,e3];exact ⟨rfl,⟨rfl,rfl⟩,rfl⟩)|(obtain ⟨e1,e2,e3,e4⟩:=yX f n M x h12 h42 h51;rw [e1,e2,e3,e4];exact ⟨rfl,⟨rfl,rfl⟩,rfl⟩)
     ·refine qC [3] (by kernel_rfl) rfl ?_;refine qC [7] (by kernel_rfl) rfl ?_;refine qK (by kernel_rfl) ?_;refine qD ?_;refine qB ?_;refine qN ?_
      first|(obtain ⟨e1,e2,e3,e4⟩:=yL f n M x h12 h38;rw [e1,e2,e3,e4];exact ⟨rfl,⟨rfl,rfl⟩,rfl⟩)|(obtain ⟨e1,e2,e3,e4⟩:=yM f n M x h12 (by simpa using h38);rw [e1,e2,e3,e4];exact ⟨rfl,⟨rfl,rfl⟩,rfl⟩)|(obtain ⟨e1,e2,e3,e4⟩:=yY f n M x h42;rw [e1,e2,e3,e4];exact ⟨rfl,⟨rfl,rfl⟩,rfl⟩)|(obtain ⟨e1,e2,e3⟩:=yW f n M x h51;rw [e1,e2,e3];exact ⟨rfl,⟨rfl,rfl⟩,rfl⟩)|(obtain ⟨e1,e2,e3,e4⟩:=yX f n M x h12 h42 h51;rw [e1,e2,e3,e4];exact ⟨rfl,⟨rfl,rfl⟩,rfl⟩)
   ·try simp only [decide_eq_false_iff_not] at h42
    try simp only [zds] at h42
    refine qD ?_;refine qB ?_;refine qM rfl (fun h51=>?_) (fun h51=>?_)
    ·try simp only [decide_eq_true_eq] at h51
     try simp only [zds] at h51
     refine acode_cut (fun (u : Unit)=>True) (fun (u : Unit)=>[(0,.one (.own 0 0)),(3,.one (.own 2 0)),(4,.one (.own 3 0)),(9,.one (.lit (.bool (getM M x.2.1).isSome)))]) (fun (u : Unit)=>[(0,.box 112 [.mp 1,.lit (.int .i64 f),.lit (.int .i64 n)]),(1,.map true (rFt 0) M),(2,.box 31 (toL (rEdk 0) x)),(3,.box 31 [.lit (.int .i64 0),.lit (.int .i64 0),.lit (.slice none 0 0)])]) 4 ?_ ?_
     ·refine yE rfl ?_;refine qE 0 rfl rfl rfl (by kernel_rfl) ?_;refine qE 1 rfl rfl rfl (by kernel_rfl) ?_;refine qE 2 rfl rfl rfl (by kernel_rfl) ?_;refine qE 4 rfl rfl rfl (by kernel_rfl) ?_;refine qC [3,5,10] (by kernel_rfl) rfl ?_;refine zai ?_ ?_
      ·refine qC [5,10] (by kernel_rfl) rfl ?_;refine zai ?_ ?_
       ·refine qC [6,10] (by kernel_rfl) rfl ?_;refine zai ?_ ?_
        ·refine qE 7 rfl rfl rfl (by kernel_rfl) ?_;refine qE 8 rfl rfl rfl (by kernel_rfl) ?_;refine qE 9 rfl rfl rfl (by kernel_rfl) ?_;refine qC [10] (by kernel_rfl) rfl ?_;refine qC [11] (by kernel_rfl) rfl ?_;refine qE 12 rfl rfl rfl (by kernel_rfl) ?_;refine qK (by kernel_rfl) ?_;exact ⟨(),trivial,qP ⟨rfl,rfl,rfl,rfl⟩ ⟨rfl,rfl,rfl,rfl⟩ rfl⟩
        ·refine qC [6] (by kernel_rfl) rfl ?_;refine qE 7 rfl rfl rfl (by kernel_rfl) ?_;refine qE 8 rfl rfl rfl (by kernel_rfl) ?_;refine qE 9 rfl rfl rfl (by kernel_rfl) ?_;refine qC [11] (by kernel_rfl) rfl ?_;refine qE 12 rfl rfl rfl (by kernel_rfl) ?_;refine qK (by kernel_rfl) ?_;exact ⟨(),trivial,qP ⟨rfl,rfl,rfl,rfl⟩ ⟨rfl,rfl,rfl,rfl⟩ rfl⟩
       ·refine qC [5] (by kernel_rfl) rfl ?_;refine qC [6] (by kernel_rfl) rfl ?_;refine qE 7 rfl rfl rfl (by kernel_rfl) ?_;refine qE 8 rfl rfl rfl (by kernel_rfl) ?_;refine qE 9 rfl rfl rfl (by kernel_rfl) ?_;refine qC [11] (by kernel_rfl) rfl ?_;refine qE 12 rfl rfl rfl (by kernel_rfl) ?_;refine qK (by kernel_rfl) ?_;exact ⟨(),trivial,qP ⟨rfl,rfl,rfl,rfl⟩ ⟨rfl,rfl,rfl,rfl⟩ rfl⟩
      refine zai ?_ ?_
      ·refine qC [3,10] (by kernel_rfl) rfl ?_;refine zai ?_ ?_
       ·refine qC [6,10] (by kernel_rfl) rfl ?_;refine zai ?_ ?_
        ·refine qE 7 rfl rfl rfl (by kernel_rfl) ?_;refine qE 8 rfl rfl rfl (by kernel_rfl) ?_;refine qE 9 rfl rfl rfl (by kernel_rfl) ?_;refine qC [10] (by kernel_rfl) rfl ?_;refine qC [11] (by kernel_rfl) rfl ?_;refine qE 12 rfl rfl rfl (by kernel_rfl) ?_;refine qK (by kernel_rfl) ?_;exact ⟨(),trivial,qP ⟨rfl,rfl,rfl,rfl⟩ ⟨rfl,rfl,rfl,rfl⟩ rfl⟩
        ·refine qC [6] (by kernel_rfl) rfl ?_;refine qE 7 rfl rfl rfl (by kernel_rfl) ?_;refine qE 8 rfl rfl rfl (by kernel_rfl) ?_;refine qE 9 rfl rfl rfl (by kernel_rfl) ?_;refine qC [11] (by kernel_rfl) rfl ?_;refine qE 12 rfl rfl rfl (by kernel_rfl) ?_;refine qK (by kernel_rfl) ?_;exact ⟨(),trivial,qP ⟨rfl,rfl,rfl,rfl⟩ ⟨rfl,rfl,rfl,rfl⟩ rfl⟩
       ·refine qC [3] (by kernel_rfl) rfl ?_;refine qC [6] (by kernel_rfl) rfl ?_;refine qE 7 rfl rfl rfl (by kernel_rfl) ?_;refine qE 8 rfl rfl rfl (by kernel_rfl) ?_;refine qE 9 rfl rfl rfl (by kernel_rfl) ?_;refine qC [11] (by kernel_rfl) rfl ?_;refine qE 12 rfl rfl rfl (by kernel_rfl) ?_;refine qK (by kernel_rfl) ?_;exact ⟨(),trivial,qP ⟨rfl,rfl,rfl,rfl⟩ ⟨rfl,rfl,rfl,rfl⟩ rfl⟩
      ·refine qC [3,5] (by kernel_rfl) rfl ?_;refine zai ?_ ?_
       ·refine qC [5] (by kernel_rfl) rfl ?_;refine qC [6] (by kernel_rfl) rfl ?_;refine qE 7 rfl rfl rfl (by kernel_rfl) ?_;refine qE 8 rfl rfl rfl (by kernel_rfl) ?_;refine qE 9 rfl rfl rfl (by kernel_rfl) ?_;refine qC [11] (by kernel_rfl) rfl ?_;refine qE 12 rfl rfl rfl (by kernel_rfl) ?_;refine qK (by kernel_rfl) ?_;exact ⟨(),trivial,qP ⟨rfl,rfl,rfl,rfl⟩ ⟨rfl,rfl,rfl,rfl⟩ rfl⟩
       ·refine qC [3] (by kernel_rfl) rfl ?_;refine qC [6] (by kernel_rfl) rfl ?_;refine qE 7 rfl rfl rfl (by kernel_rfl) ?_;refine qE 8 rfl rfl rfl (by kernel_rfl) ?_;refine qE 9 rfl rfl rfl (by kernel_rfl) ?_;refine qC [11] (by kernel_rfl) rfl ?_;refine qE 12 rfl rfl rfl (by kernel_rfl) ?_;refine qK (by kernel_rfl) ?_;exact ⟨(),trivial,qP ⟨rfl,rfl,rfl,rfl⟩ ⟨rfl,rfl,rfl,rfl⟩ rfl⟩
     ·intro u hcut11;refine acode_cut (fun (u : Unit)=>True) (fun (u : Unit)=>[(0,.one (.own 0 0)),(3,.one (.own 2 0)),(4,.one (.own 3 0)),(9,.one (.lit (.bool (getM M x.2.1).isSome)))]) (fun (u : Unit)=>[(0,.box 112 [.mp 1,.lit (.int .i64 f),.lit (.int .i64 n)]),(1,.map true (rFt 0) (keepM M x)),(2,.box 31 (toL (rEdk 0) x)),(3,.box 31 [.lit (.int .i64 0),.lit (.int .i64 0),.lit (.slice none 0 0)])]) 4 ?_ ?_
      ·refine qD ?_;refine qB ?_;refine qM rfl (fun h64=>?_) (fun h64=>?_)
       ·try simp only [Bool.not_eq_true'] at h64
        try simp only [zds] at h64
        refine yE rfl ?_;refine qE 0 rfl rfl rfl (by kernel_rfl) ?_;refine qE 1 rfl rfl rfl (by kernel_rfl) ?_;refine qE 2 rfl rfl rfl (by kernel_rfl) ?_;refine qE 4 rfl rfl rfl (by kernel_rfl) ?_;refine qE 6 rfl rfl rfl (by kernel_rfl) ?_;refine qC [3,5,7] (by kernel_rfl) rfl ?_;refine zai ?_ ?_
        ·refine qC [5,7] (by kernel_rfl) rfl ?_;refine zai ?_ ?_
         ·refine qC [7] (by kernel_rfl) rfl ?_;refine qC [8] (by kernel_rfl) rfl ?_;refine qC [9] (by kernel_rfl) rfl ?_;refine qK (by kernel_rfl) ?_;exact ⟨(),trivial,qP ⟨rfl,rfl,rfl,rfl⟩ ⟨rfl,(mp_eq (by first|exact (xF M x h51 (by simpa using h64)).symm|exact (xE M x h51 (by simpa using h64)).symm)),rfl,rfl⟩ rfl⟩
         ·refine qC [5,8] (by kernel_rfl) rfl ?_;refine zai ?_ ?_
          ·refine qC [8] (by kernel_rfl) rfl ?_;refine qC [9] (by kernel_rfl) rfl ?_;refine qK (by kernel_rfl) ?_;exact ⟨(),trivial,qP ⟨rfl,rfl,rfl,rfl⟩ ⟨rfl,(mp_eq (by first|exact (xF M x h51 (by simpa using h64)).symm|exact (xE M x h51 (by simpa using h64)).symm)),rfl,rfl⟩ rfl⟩
          ·refine qC [5] (by kernel_rfl) rfl ?_;refine qC [9] (by kernel_rfl) rfl ?_;refine qK (by kernel_rfl) ?_;exact ⟨(),trivial,qP ⟨rfl,rfl,rfl,rfl⟩ ⟨rfl,(mp_eq (by first|exact (xF M x h51 (by simpa using h64)).symm|exact (xE M x h51 (by simpa using h64)).symm)),rfl,rfl⟩ rfl⟩
        refine zai ?_ ?_
        ·refine qC [3,7] (by kernel_rfl) rfl ?_;refine zai ?_ ?_
         ·refine qC [7] (by kernel_rfl) rfl ?_;refine qC [8] (by kernel_rfl) rfl ?_;refine qC [9] (by kernel_rfl) rfl ?_;refine qK (by kernel_rfl) ?_;exact ⟨(),trivial,qP ⟨rfl,rfl,rfl,rfl⟩ ⟨rfl,(mp_eq (by first|exact (xF M x h51 (by simpa using h64)).symm|exact (xE M x h51 (by simpa using h64)).symm)),rfl,rfl⟩ rfl⟩
         ·refine qC [3,8] (by kernel_rfl) rfl ?_;refine zai ?_ ?_
          ·refine qC [8] (by kernel_rfl) rfl ?_;refine qC [9] (by kernel_rfl) rfl ?_;refine qK (by kernel_rfl) ?_;exact ⟨(),trivial,qP ⟨rfl,rfl,rfl,rfl⟩ ⟨rfl,(mp_eq (by first|exact (xF M x h51 (by simpa using h64)).symm|exact (xE M x h51 (by simpa using h64)).symm)),rfl,rfl⟩ rfl⟩
          ·refine qC [3] (by kernel_rfl) rfl ?_;refine qC [9] (by kernel_rfl) rfl ?_;refine qK (by kernel_rfl) ?_;exact ⟨(),trivial,qP ⟨rfl,rfl,rfl,rfl⟩ ⟨rfl,(mp_eq (by first|exact (xF M x h51 (by simpa using h64)).symm|exact (xE M x h51 (by simpa using h64)).symm)),rfl,rfl⟩ rfl⟩
        ·refine qC [3,5,8] (by kernel_rfl) rfl ?_;refine zai ?_ ?_
         ·refine qC [5,8] (by kernel_rfl) rfl ?_;refine zai ?_ ?_
          ·refine qC [8] (by kernel_rfl) rfl ?_;refine qC [9] (by kernel_rfl) rfl ?_;refine qK (by kernel_rfl) ?_;exact ⟨(),trivial,qP ⟨rfl,rfl,rfl,rfl⟩ ⟨rfl,(mp_eq (by first|exact (xF M x h51 (by simpa using h64)).symm|exact (xE M x h51 (by simpa using h64)).symm)),rfl,rfl⟩ rfl⟩
          ·refine qC [5] (by kernel_rfl) rfl ?_;refine qC [9] (by kernel_rfl) rfl ?_;refine qK (by kernel_rfl) ?_;exact ⟨(),trivial,qP ⟨rfl,rfl,rfl,rfl⟩ ⟨rfl,(mp_eq (by first|exact (xF M x h51 (by simpa using h64)).symm|exact (xE M x h51 (by simpa using h64)).symm)),rfl,rfl⟩ rfl⟩
         refine zai ?_ ?_
         ·refine qC [3,8] (by kernel_rfl) rfl ?_;refine zai ?_ ?_
          ·refine qC [8] (by kernel_rfl) rfl ?_;refine qC [9] (by kernel_rfl) rfl ?_;refine qK (by kernel_rfl) ?_;exact ⟨(),trivial,qP ⟨rfl,rfl,rfl,rfl⟩ ⟨rfl,(mp_eq (by first|exact (xF M x h51 (by simpa using h64)).symm|exact (xE M x h51 (by simpa using h64)).symm)),rfl,rfl⟩ rfl⟩
          ·refine qC [3] (by kernel_rfl) rfl ?_;refine qC [9] (by kernel_rfl) rfl ?_;refine qK (by kernel_rfl) ?_;exact ⟨(),trivial,qP ⟨rfl,rfl,rfl,rfl⟩ ⟨rfl,(mp_eq (by first|exact (xF M x h51 (by simpa using h64)).symm|exact (xE M x h51 (by simpa using h64)).symm)),rfl,rfl⟩ rfl⟩
         ·refine qC [3,5] (by kernel_rfl) rfl ?_;refine zai ?_ ?_
          ·refine qC [5] (by kernel_rfl) rfl ?_;refine qC [9] (by kernel_rfl) rfl ?_;refine qK (by kernel_rfl) ?_;exact ⟨(),trivial,qP ⟨rfl,rfl,rfl,rfl⟩ ⟨rfl,(mp_eq (by first|exact (xF M x h51 (by simpa using h64)).symm|exact (xE M x h51 (by simpa using h64)).symm)),rfl,rfl⟩ rfl⟩
          ·refine qC [3] (by kernel_rfl) rfl ?_;refine qC [9] (by kernel_rfl) rfl ?_;refine qK (by kernel_rfl) ?_;exact ⟨(),trivial,qP ⟨rfl,rfl,rfl,rfl⟩ ⟨rfl,(mp_eq (by first|exact (xF M x h51 (by simpa using h64)).symm|exact (xE M x h51 (by simpa using h64)).symm)),rfl,rfl⟩ rfl⟩
       ·try simp only [Bool.not_eq_false'] at h64
        try simp only [zds] at h64
        refine qO ?_;exact ⟨(),trivial,qP ⟨rfl,rfl,rfl,rfl⟩ ⟨rfl,(mp_eq (by first|exact (xF M x h51 (by simpa using h64)).symm|exact (xE M x h51 (by simpa using h64)).symm)),rfl,rfl⟩ rfl⟩
      ·intro u hcut13;refine qD ?_;refine yE rfl ?_;refine qE 1 rfl rfl rfl (by kernel_rfl) ?_;refine qC [0,2] (by kernel_rfl) rfl ?_;refine zai ?_ ?_
       ·refine qC [2] (by kernel_rfl) rfl ?_;refine qE 3 rfl rfl rfl (by kernel_rfl) ?_;refine aord_lightG 4 rfl rfl rfl (by kernel_rfl) ?_;refine zai (fun h=>trivial) ?_;refine aord_lightG 5 rfl rfl rfl (by kernel_rfl) ?_;refine zai (fun h=>trivial) ?_;refine qC [6] (by kernel_rfl) rfl ?_;refine zai (fun h=>⟨⟨h,trivial⟩,trivial⟩) ?_;refine qC [7] (by kernel_rfl) rfl ?_;refine Or.inl ?_;refine zai (rfl) ?_;refine zei _ (zai (fun h=>⟨⟨⟨h,trivial⟩,⟨h,trivial⟩,trivial⟩,given_c (k:=1) () f n x.2.1⟩) ?_);refine qC [8,10] (by kernel_rfl) rfl ?_;refine zai ?_ ?_
        ·refine zai (fun h=>⟨⟨h,trivial⟩,trivial⟩) ?_;refine qE 9 rfl rfl rfl (by kernel_rfl) ?_;refine zai (by exact fun h=>h) ?_;refine qC [10] (by kernel_rfl) rfl ?_;refine qE 11 rfl rfl rfl (by kernel_rfl) ?_;refine qK (by kernel_rfl) ?_;refine qN ?_
         first|(obtain ⟨e1,e2,e3,e4⟩:=yL f n M x h12 h38;rw [e1,e2,e3,e4];exact ⟨rfl,⟨rfl,rfl⟩,rfl⟩)|(obtain ⟨e1,e2,e3,e4⟩:=yM f n M x h12 (by simpa using h38);rw [e1,e2,e3,e4];exact ⟨rfl,⟨rfl,rfl⟩,rfl⟩)|(obtain ⟨e1,e2,e3,e4⟩:=yY f n M x h42;rw [e1,e2,e3,e4];exact ⟨rfl,⟨rfl,rfl⟩,rfl⟩)|(obtain ⟨e1,e2,e3⟩:=yW f n M x h51;rw [e1,e2,e3];exact ⟨rfl,⟨rfl,rfl⟩,rfl⟩)|(obtain ⟨e1,e2,e3,e4⟩:=yX f n M x h12 h42 h51;rw [e1,e2,e3,e4];exact ⟨rfl,⟨rfl,rfl⟩,rfl⟩)
        ·refine qC [8] (by kernel_rfl) rfl ?_;refine zai (fun h=>⟨⟨h,trivial⟩,trivial⟩) ?_;refine qE 9 rfl rfl rfl (by kernel_rfl) ?_;refine zai (by exact fun h=>h) ?_;refine qE 11 rfl rfl rfl (by kernel_rfl) ?_;refine qK (by kernel_rfl) ?_;refine qN ?_
         first|(obtain ⟨e1,e2,e3,e4⟩:=yL f n M x h12 h38;rw [e1,e2,e3,e4];exact ⟨rfl,⟨rfl,rfl⟩,rfl⟩)|(obtain ⟨e1,e2,e3,e4⟩:=yM f n M x h12 (by simpa using h38);rw [e1,e2,e3,e4];exact ⟨rfl,⟨rfl,rfl⟩,rfl⟩)|(obtain ⟨e1,e2,e3,e4⟩:=yY f n M x h42;rw [e1,e2,e3,e4];exact ⟨rfl,⟨rfl,rfl⟩,rfl⟩)|(obtain ⟨e1,e2,e3⟩:=yW f n M x h51;rw [e1,e2,e3];exact ⟨rfl,⟨rfl,rfl⟩,rfl⟩)|(obtain ⟨e1,e2,e3,e4⟩:=yX f n M x h12 h42 h51;rw [e1,e2,e3,e4];exact ⟨rfl,⟨rfl,rfl⟩,rfl⟩)
       ·refine qE 3 rfl rfl rfl (by kernel_rfl) ?_;refine aord_lightG 4 rfl rfl rfl (by kernel_rfl) ?_;refine zai (fun h=>trivial) ?_;refine aord_lightG 5 rfl rfl rfl (by kernel_rfl) ?_;refine zai (fun h=>trivial) ?_;refine qC [0,6] (by kernel_rfl) rfl ?_;refine zai ?_ ?_
        ·refine qC [6] (by kernel_rfl) rfl ?_;refine zai (fun h=>⟨⟨h,trivial⟩,trivial⟩) ?_;refine qC [7] (by kernel_rfl) rfl ?_;refine Or.inl ?_;refine zai (rfl) ?_;refine zei _ (zai (fun h=>⟨⟨⟨h,trivial⟩,⟨h,trivial⟩,trivial⟩,given_c (k:=1) () f n x.2.1⟩) ?_);refine qC [8,10] (by kernel_rfl) rfl ?_;refine zai ?_ ?_
         ·refine zai (fun h=>⟨⟨h,trivial⟩,trivial⟩) ?_;refine qE 9 rfl rfl rfl (by kernel_rfl) ?_;refine zai (by exact fun h=>h) ?_;refine qC [10] (by kernel_rfl) rfl ?_;refine qE 11 rfl rfl rfl (by kernel_rfl) ?_;refine qK (by kernel_rfl) ?_;refine qN ?_
          first|(obtain ⟨e1,e2,e3,e4⟩:=yL f n M x h12 h38;rw [e1,e2,e3,e4];exact ⟨rfl,⟨rfl,rfl⟩,rfl⟩)|(obtain ⟨e1,e2,e3,e4⟩:=yM f n M x h12 (by simpa using h38);rw [e1,e2,e3,e4];exact ⟨rfl,⟨rfl,rfl⟩,rfl⟩)|(obtain ⟨e1,e2,e3,e4⟩:=yY f n M x h42;rw [e1,e2,e3,e4];exact ⟨rfl,⟨rfl,rfl⟩,rfl⟩)|(obtain ⟨e1,e2,e3⟩:=yW f n M x h51;rw [e1,e2,e3];exact ⟨rfl,⟨rfl,rfl⟩,rfl⟩)|(obtain ⟨e1,e2,e3,e4⟩:=yX f n M x h12 h42 h51;rw [e1,e2,e3,e4];exact ⟨rfl,⟨rfl,rfl⟩,rfl⟩)
         ·refine qC [8] (by kernel_rfl) rfl ?_;refine zai (fun h=>⟨⟨h,trivial⟩,trivial⟩) ?_;refine qE 9 rfl rfl rfl (by kernel_rfl) ?_;refine zai (by exact fun h=>h) ?_;refine qE 11 rfl rfl rfl (by kernel_rfl) ?_;refine qK (by kernel_rfl) ?_;refine qN ?_
          first|(obtain ⟨e1,e2,e3,e4⟩:=yL f n M x h12 h38;rw [e1,e2,e3,e4];exact ⟨rfl,⟨rfl,rfl⟩,rfl⟩)|(obtain ⟨e1,e2,e3,e4⟩:=yM f n M x h12 (by simpa using h38);rw [e1,e2,e3,e4];exact ⟨rfl,⟨rfl,rfl⟩,rfl⟩)|(obtain ⟨e1,e2,e3,e4⟩:=yY f n M x h42;rw [e1,e2,e3,e4];exact ⟨rfl,⟨rfl,rfl⟩,rfl⟩)|(obtain ⟨e1,e2,e3⟩:=yW f n M x h51;rw [e1,e2,e3];exact ⟨rfl,⟨rfl,rfl⟩,rfl⟩)|(obtain ⟨e1,e2,e3,e4⟩:=yX f n M x h12 h42 h51;rw [e1,e2,e3,e4];exact ⟨rfl,⟨rfl,rfl⟩,rfl⟩)
        ·refine zai (fun h=>⟨⟨h,trivial⟩,trivial⟩) ?_;refine qC [0,7] (by kernel_rfl) rfl ?_;refine zai ?_ ?_
         ·refine qC [7] (by kernel_rfl) rfl ?_;refine Or.inl ?_;refine zai (rfl) ?_;refine zei _ (zai (fun h=>⟨⟨⟨h,trivial⟩,⟨h,trivial⟩,trivial⟩,given_c (k:=1) () f n x.2.1⟩) ?_);refine qC [8,10] (by kernel_rfl) rfl ?_;refine zai ?_ ?_
          ·refine zai (fun h=>⟨⟨h,trivial⟩,trivial⟩) ?_;refine qE 9 rfl rfl rfl (by kernel_rfl) ?_;refine zai (by exact fun h=>h) ?_;refine qC [10] (by kernel_rfl) rfl ?_;refine qE 11 rfl rfl rfl (by kernel_rfl) ?_;refine qK (by kernel_rfl) ?_;refine qN ?_
           first|(obtain ⟨e1,e2,e3,e4⟩:=yL f n M x h12 h38;rw [e1,e2,e3,e4];exact ⟨rfl,⟨rfl,rfl⟩,rfl⟩)|(obtain ⟨e1,e2,e3,e4⟩:=yM f n M x h12 (by simpa using h38);rw [e1,e2,e3,e4];exact ⟨rfl,⟨rfl,rfl⟩,rfl⟩)|(obtain ⟨e1,e2,e3,e4⟩:=yY f n M x h42;rw [e1,e2,e3,e4];exact ⟨rfl,⟨rfl,rfl⟩,rfl⟩)|(obtain ⟨e1,e2,e3⟩:=yW f n M x h51;rw [e1,e2,e3];exact ⟨rfl,⟨rfl,rfl⟩,rfl⟩)|(obtain ⟨e1,e2,e3,e4⟩:=yX f n M x h12 h42 h51;rw [e1,e2,e3,e4];exact ⟨rfl,⟨rfl,rfl⟩,rfl⟩)
          ·refine qC [8] (by kernel_rfl) rfl ?_;refine zai (fun h=>⟨⟨h,trivial⟩,trivial⟩) ?_;refine qE 9 rfl rfl rfl (by kernel_rfl) ?_;refine zai (by exact fun h=>h) ?_;refine qE 11 rfl rfl rfl (by kernel_rfl) ?_;refine qK (by kernel_rfl) ?_;refine qN ?_
           first|(obtain ⟨e1,e2,e3,e4⟩:=yL f n M x h12 h38;rw [e1,e2,e3,e4];exact ⟨rfl,⟨rfl,rfl⟩,rfl⟩)|(obtain ⟨e1,e2,e3,e4⟩:=yM f n M x h12 (by simpa using h38);rw [e1,e2,e3,e4];exact ⟨rfl,⟨rfl,rfl⟩,rfl⟩)|(obtain ⟨e1,e2,e3,e4⟩:=yY f n M x h42;rw [e1,e2,e3,e4];exact ⟨rfl,⟨rfl,rfl⟩,rfl⟩)|(obtain ⟨e1,e2,e3⟩:=yW f n M x h51;rw [e1,e2,e3];exact ⟨rfl,⟨rfl,rfl⟩,rfl⟩)|(obtain ⟨e1,e2,e3,e4⟩:=yX f n M x h12 h42 h51;rw [e1,e2,e3,e4];exact ⟨rfl,⟨rfl,rfl⟩,rfl⟩)
         ·refine Or.inl ?_;refine zai (rfl) ?_;refine zei _ (zai (fun h=>⟨⟨⟨h,trivial⟩,⟨h,trivial⟩,trivial⟩,given_c (k:=1) () f n x.2.1⟩) ?_);refine qC [0,8] (by kernel_rfl) rfl ?_;refine zai ?_ ?_
          ·refine qC [8,10] (by kernel_rfl) rfl ?_;refine zai ?_ ?_
           ·refine zai (fun h=>⟨⟨h,trivial⟩,trivial⟩) ?_;refine qE 9 rfl rfl rfl (by kernel_rfl) ?_;refine zai (by exact fun h=>h) ?_;refine qC [10] (by kernel_rfl) rfl ?_;refine qE 11 rfl rfl rfl (by kernel_rfl) ?_;refine qK (by kernel_rfl) ?_;refine qN ?_
            first|(obtain ⟨e1,e2,e3,e4⟩:=yL f n M x h12 h38;rw [e1,e2,e3,e4];exact ⟨rfl,⟨rfl,rfl⟩,rfl⟩)|(obtain ⟨e1,e2,e3,e4⟩:=yM f n M x h12 (by simpa using h38);rw [e1,e2,e3,e4];exact ⟨rfl,⟨rfl,rfl⟩,rfl⟩)|(obtain ⟨e1,e2,e3,e4⟩:=yY f n M x h42;rw [e1,e2,e3,e4];exact ⟨rfl,⟨rfl,rfl⟩,rfl⟩)|(obtain ⟨e1,e2,e3⟩:=yW f n M x h51;rw [e1,e2,e3];exact ⟨rfl,⟨rfl,rfl⟩,rfl⟩)|(obtain ⟨e1,e2,e3,e4⟩:=yX f n M x h12 h42 h51;rw [e1,e2,e3,e4];exact ⟨rfl,⟨rfl,rfl⟩,rfl⟩)
           ·refine qC [8] (by kernel_rfl) rfl ?_;refine zai (fun h=>⟨⟨h,trivial⟩,trivial⟩) ?_;refine qE 9 rfl rfl rfl (by kernel_rfl) ?_;refine zai (by exact fun h=>h) ?_;refine qE 11 rfl rfl rfl (by kernel_rfl) ?_;refine qK (by kernel_rfl) ?_;refine qN ?_
            first|(obtain ⟨e1,e2,e3,e4⟩:=yL f n M x h12 h38;rw [e1,e2,e3,e4];exact ⟨rfl,⟨rfl,rfl⟩,rfl⟩)|(obtain ⟨e1,e2,e3,e4⟩:=yM f n M x h12 (by simpa using h38);rw [e1,e2,e3,e4];exact ⟨rfl,⟨rfl,rfl⟩,rfl⟩)|(obtain ⟨e1,e2,e3,e4⟩:=yY f n M x h42;rw [e1,e2,e3,e4];exact ⟨rfl,⟨rfl,rfl⟩,rfl⟩)|(obtain ⟨e1,e2,e3⟩:=yW f n M x h51;rw [e1,e2,e3];exact ⟨rfl,⟨rfl,rfl⟩,rfl⟩)|(obtain ⟨e1,e2,e3,e4⟩:=yX f n M x h12 h42 h51;rw [e1,e2,e3,e4];exact ⟨rfl,⟨rfl,rfl⟩,rfl⟩)
          ·refine zai (fun h=>⟨⟨h,trivial⟩,trivial⟩) ?_;refine qE 9 rfl rfl rfl (by kernel_rfl) ?_;refine zai (by exact fun h=>h) ?_;refine qC [0] (by kernel_rfl) rfl ?_;refine qC [10] (by kernel_rfl) rfl ?_;refine qE 11 rfl rfl rfl (by kernel_rfl) ?_;refine qK (by kernel_rfl) ?_;refine qN ?_
           first|(obtain ⟨e1,e2,e3,e4⟩:=yL f n M x h12 h38;rw [e1,e2,e3,e4];exact ⟨rfl,⟨rfl,rfl⟩,rfl⟩)|(obtain ⟨e1,e2,e3,e4⟩:=yM f n M x h12 (by simpa using h38);rw [e1,e2,e3,e4];exact ⟨rfl,⟨rfl,rfl⟩,rfl⟩)|(obtain ⟨e1,e2,e3,e4⟩:=yY f n M x h42;rw [e1,e2,e3,e4];exact ⟨rfl,⟨rfl,rfl⟩,rfl⟩)|(obtain ⟨e1,e2,e3⟩:=yW f n M x h51;rw [e1,e2,e3];exact ⟨rfl,⟨rfl,rfl⟩,rfl⟩)|(obtain ⟨e1,e2,e3,e4⟩:=yX f n M x h12 h42 h51;rw [e1,e2,e3,e4];exact ⟨rfl,⟨rfl,rfl⟩,rfl⟩)
    ·try simp only [decide_eq_false_iff_not] at h51
     try simp only [zds] at h51
     refine qO ?_;refine qD ?_;refine qB ?_;refine qN ?_
     first|(obtain ⟨e1,e2,e3,e4⟩:=yL f n M x h12 h38;rw [e1,e2,e3,e4];exact ⟨rfl,⟨rfl,rfl⟩,rfl⟩)|(obtain ⟨e1,e2,e3,e4⟩:=yM f n M x h12 (by simpa using h38);rw [e1,e2,e3,e4];exact ⟨rfl,⟨rfl,rfl⟩,rfl⟩)|(obtain ⟨e1,e2,e3,e4⟩:=yY f n M x h42;rw [e1,e2,e3,e4];exact ⟨rfl,⟨rfl,rfl⟩,rfl⟩)|(obtain ⟨e1,e2,e3⟩:=yW f n M x h51;rw [e1,e2,e3];exact ⟨rfl,⟨rfl,rfl⟩,rfl⟩)|(obtain ⟨e1,e2,e3,e4⟩:=yX f n M x h12 h42 h51;rw [e1,e2,e3,e4];exact ⟨rfl,⟨rfl,rfl⟩,rfl⟩)
set_option maxHeartbeats 8000000 in
theorem keep_o3 (f n : Int) (M : List (Int × Fate)) (x : Edt) (hn : x.1 = 3 → -1000000000000 ≤ n ∧ n ≤ 1000000000000) : qW Tryz.prog 66 [.one (.own 0 0),.agg (toL (rEdk 3) x)] (sqO f n 3 M) 2 (.tup [(true,toL (rEdk 3) (xG n M x)),(false,[.lit (.bool (xO f n M x))])]) (sqO f (keepN n x) 3 (keepM M x)) 2:=by
  refine acallo_ofc (t:=4) (ty:=31) (u:=5) Tryz.func66 rfl rfl rfl teOk rfl rfl ?_;refine qD ?_;refine qB ?_;refine qD ?_;refine qD ?_;refine qB ?_;refine qQ ?_;refine qD ?_;refine qB ?_;refine qM rfl (fun h12=>?_) (fun h12=>?_)
  ·try simp only [decide_eq_true_eq] at h12
   try simp only [zds] at h12
   refine qD ?_;refine qB ?_;refine zai (by first|omega|assumption|decide|(simp only [zds];omega)|(simp <;> omega)) ?_;refine acode_cut (fun (u : Unit)=>True) (fun (u : Unit)=>[(0,.one (.own 0 0)),(3,.one (.own 2 0)),(4,.one (.own 3 0)),(6,.one (.own 4 0)),(7,.one (.lit (.bool (getM M (n - 1)).isSome)))]) (fun (u : Unit)=>[(0,.box 112 [.mp 1,.lit (.int .i64 f),.lit (.int .i64 (n - 1))]),(1,.map true (rFt 3) M),(2,.box 31 (toL (rEdk 3) x)),(3,.box 31 [.lit (.int .i64 0),.lit (.int .i64 0),.lit (.slice none 0 0)]),(4,.box 196 (toL (rFt 3) ((getM M (n - 1)).getD ([],false))))]) 5 ?_ ?_
   ·refine yE rfl ?_;refine qE 0 rfl rfl rfl (by kernel_rfl) ?_;refine qE 1 rfl rfl rfl (by kernel_rfl) ?_;refine qE 2 rfl rfl rfl (by kernel_rfl) ?_;refine qE 4 rfl rfl rfl (by kernel_rfl) ?_;refine qE 5 rfl rfl rfl (by kernel_rfl) ?_;refine qE 6 rfl rfl rfl (by kernel_rfl) ?_;refine qC [3,7,12] (by kernel_rfl) rfl ?_;refine zai ?_ ?_
    ·refine qC [7,12] (by kernel_rfl) rfl ?_;refine zai ?_ ?_
     ·refine qC [8,12] (by kernel_rfl) rfl ?_;refine zai ?_ ?_
      ·refine qE 9 rfl rfl rfl (by kernel_rfl) ?_;refine qE 10 rfl rfl rfl (by kernel_rfl) ?_;refine qE 11 rfl rfl rfl (by kernel_rfl) ?_;refine qC [12] (by kernel_rfl) rfl ?_;refine qC [13] (by kernel_rfl) rfl ?_;refine qE 14 rfl rfl rfl (by kernel_rfl) ?_;refine qK (by kernel_rfl) ?_;exact ⟨(),trivial,qP ⟨rfl,rfl,rfl,rfl,rfl⟩ ⟨rfl,rfl,rfl,rfl,rfl⟩ rfl⟩
      ·refine qC [8] (by kernel_rfl) rfl ?_;refine qE 9 rfl rfl rfl (by kernel_rfl) ?_;refine qE 10 rfl rfl rfl (by kernel_rfl) ?_;refine qE 11 rfl rfl rfl (by kernel_rfl) ?_;refine qC [13] (by kernel_rfl) rfl ?_;refine qE 14 rfl rfl rfl (by kernel_rfl) ?_;refine qK (by kernel_rfl) ?_;exact ⟨(),trivial,qP ⟨rfl,rfl,rfl,rfl,rfl⟩ ⟨rfl,rfl,rfl,rfl,rfl⟩ rfl⟩
     ·refine qC [7] (by kernel_rfl) rfl ?_;refine qC [8] (by kernel_rfl) rfl ?_;refine qE 9 rfl rfl rfl (by kernel_rfl) ?_;refine qE 10 rfl rfl rfl (by kernel_rfl) ?_;refine qE 11 rfl rfl rfl (by kernel_rfl) ?_;refine qC [13] (by kernel_rfl) rfl ?_;refine qE 14 rfl rfl rfl (by kernel_rfl) ?_;refine qK (by kernel_rfl) ?_;exact ⟨(),trivial,qP ⟨rfl,rfl,rfl,rfl,rfl⟩ ⟨rfl,rfl,rfl,rfl,rfl⟩ rfl⟩
    refine zai ?_ ?_
    ·refine qC [3,12] (by kernel_rfl) rfl ?_;refine zai ?_ ?_
     ·refine qC [8,12] (by kernel_rfl) rfl ?_;refine zai ?_ ?_
      ·refine qE 9 rfl rfl rfl (by kernel_rfl) ?_;refine qE 10 rfl rfl rfl (by kernel_rfl) ?_;refine qE 11 rfl rfl rfl (by kernel_rfl) ?_;refine qC [12] (by kernel_rfl) rfl ?_;refine qC [13] (by kernel_rfl) rfl ?_;refine qE 14 rfl rfl rfl (by kernel_rfl) ?_;refine qK (by kernel_rfl) ?_;exact ⟨(),trivial,qP ⟨rfl,rfl,rfl,rfl,rfl⟩ ⟨rfl,rfl,rfl,rfl,rfl⟩ rfl⟩
      ·refine qC [8] (by kernel_rfl) rfl ?_;refine qE 9 rfl rfl rfl (by kernel_rfl) ?_;refine qE 10 rfl rfl rfl (by kernel_rfl) ?_;refine qE 11 rfl rfl rfl (by kernel_rfl) ?_;refine qC [13] (by kernel_rfl) rfl ?_;refine qE 14 rfl rfl rfl (by kernel_rfl) ?_;refine qK (by kernel_rfl) ?_;exact ⟨(),trivial,qP ⟨rfl,rfl,rfl,rfl,rfl⟩ ⟨rfl,rfl,rfl,rfl,rfl⟩ rfl⟩
     ·refine qC [3] (by kernel_rfl) rfl ?_;refine qC [8] (by kernel_rfl) rfl ?_;refine qE 9 rfl rfl rfl (by kernel_rfl) ?_;refine qE 10 rfl rfl rfl (by kernel_rfl) ?_;refine qE 11 rfl rfl rfl (by kernel_rfl) ?_;refine qC [13] (by kernel_rfl) rfl ?_;refine qE 14 rfl rfl rfl (by kernel_rfl) ?_;refine qK (by kernel_rfl) ?_;exact ⟨(),trivial,qP ⟨rfl,rfl,rfl,rfl,rfl⟩ ⟨rfl,rfl,rfl,rfl,rfl⟩ rfl⟩
    ·refine qC [3,7] (by kernel_rfl) rfl ?_;refine zai ?_ ?_
     ·refine qC [7] (by kernel_rfl) rfl ?_;refine qC [8] (by kernel_rfl) rfl ?_;refine qE 9 rfl rfl rfl (by kernel_rfl) ?_;refine qE 10 rfl rfl rfl (by kernel_rfl) ?_;refine qE 11 rfl rfl rfl (by kernel_rfl) ?_;refine qC [13] (by kernel_rfl) rfl ?_;refine qE 14 rfl rfl rfl (by kernel_rfl) ?_;refine qK (by kernel_rfl) ?_;exact ⟨(),trivial,qP ⟨rfl,rfl,rfl,rfl,rfl⟩ ⟨rfl,rfl,rfl,rfl,rfl⟩ rfl⟩
     ·refine qC [3] (by kernel_rfl) rfl ?_;refine qC [8] (by kernel_rfl) rfl ?_;refine qE 9 rfl rfl rfl (by kernel_rfl) ?_;refine qE 10 rfl rfl rfl (by kernel_rfl) ?_;refine qE 11 rfl rfl rfl (by kernel_rfl) ?_;refine qC [13] (by kernel_rfl) rfl ?_;refine qE 14 rfl rfl rfl (by kernel_rfl) ?_;refine qK (by kernel_rfl) ?_;exact ⟨(),trivial,qP ⟨rfl,rfl,rfl,rfl,rfl⟩ ⟨rfl,rfl,rfl,rfl,rfl⟩ rfl⟩
   ·intro u hcut5;refine qD ?_;refine qB ?_;refine zai (fun h=>trivial) ?_;refine zai (fun h=>⟨⟨h,trivial⟩,trivial⟩) ?_;refine zai (fun h=>⟨⟨h,trivial⟩,trivial⟩) ?_;refine zai (by exact fun h=>h) ?_;refine qM rfl (fun h38=>?_) (fun h38=>?_)
    ·try simp only [Bool.and_eq_true,Bool.not_eq_true'] at h38
     try simp only [zds] at h38
     refine qB ?_;refine qD ?_;refine qB ?_;refine qN ?_
     first|(obtain ⟨e1,e2,e3,e4⟩:=yL f n M x h12 h38;rw [e1,e2,e3,e4];exact ⟨rfl,⟨rfl,rfl⟩,rfl⟩)|(obtain ⟨e1,e2,e3,e4⟩:=yM f n M x h12 (by simpa using h38);rw [e1,e2,e3,e4];exact ⟨rfl,⟨rfl,rfl⟩,rfl⟩)|(obtain ⟨e1,e2,e3,e4⟩:=yY f n M x h42;rw [e1,e2,e3,e4];exact ⟨rfl,⟨rfl,rfl⟩,rfl⟩)|(obtain ⟨e1,e2,e3⟩:=yW f n M x h51;rw [e1,e2,e3];exact ⟨rfl,⟨rfl,rfl⟩,rfl⟩)|(obtain ⟨e1,e2,e3,e4⟩:=yX f n M x h12 h42 h51;rw [e1,e2,e3,e4];exact ⟨rfl,⟨rfl,rfl⟩,rfl⟩)
    ·try simp only [Bool.not_eq_false',Bool.and_eq_false_iff] at h38
     try simp only [zds] at h38
     refine qO ?_;refine qD ?_;refine qB ?_;refine qN ?_
     first|(obtain ⟨e1,e2,e3,e4⟩:=yL f n M x h12 h38;rw [e1,e2,e3,e4];exact ⟨rfl,⟨rfl,rfl⟩,rfl⟩)|(obtain ⟨e1,e2,e3,e4⟩:=yM f n M x h12 (by simpa using h38);rw [e1,e2,e3,e4];exact ⟨rfl,⟨rfl,rfl⟩,rfl⟩)|(obtain ⟨e1,e2,e3,e4⟩:=yY f n M x h42;rw [e1,e2,e3,e4];exact ⟨rfl,⟨rfl,rfl⟩,rfl⟩)|(obtain ⟨e1,e2,e3⟩:=yW f n M x h51;rw [e1,e2,e3];exact ⟨rfl,⟨rfl,rfl⟩,rfl⟩)|(obtain ⟨e1,e2,e3,e4⟩:=yX f n M x h12 h42 h51;rw [e1,e2,e3,e4];exact ⟨rfl,⟨rfl,rfl⟩,rfl⟩)
  ·try simp only [decide_eq_false_iff_not] at h12
   try simp only [zds] at h12
   refine qD ?_;refine qB ?_;refine qM rfl (fun h42=>?_) (fun h42=>?_)
   ·try simp only [decide_eq_true_eq] at h42
    try simp only [zds] at h42
    refine yE rfl ?_;refine qE 0 rfl rfl rfl (by kernel_rfl) ?_;refine qE 1 rfl rfl rfl (by kernel_rfl) ?_;refine qE 2 rfl rfl rfl (by kernel_rfl) ?_;refine qE 4 rfl rfl rfl (by kernel_rfl) ?_;refine qC [3,5,6] (by kernel_rfl) rfl ?_;refine zai ?_ ?_
    ·refine qC [5,6] (by kernel_rfl) rfl ?_;refine zai ?_ ?_
     ·refine qC [6] (by kernel_rfl) rfl ?_;refine qC [7] (by kernel_rfl) rfl ?_;refine qK (by kernel_rfl) ?_;refine qD ?_;refine qB ?_;refine qN ?_
      first|(obtain ⟨e1,e2,e3,e4⟩:=yL f n M x h12 h38;rw [e1,e2,e3,e4];exact ⟨rfl,⟨rfl,rfl⟩,rfl⟩)|(obtain ⟨e1,e2,e3,e4⟩:=yM f n M x h12 (by simpa using h38);rw [e1,e2,e3,e4];exact ⟨rfl,⟨rfl,rfl⟩,rfl⟩)|(obtain ⟨e1,e2,e3,e4⟩:=yY f n M x h42;rw [e1,e2,e3,e4];exact ⟨rfl,⟨rfl,rfl⟩,rfl⟩)|(obtain ⟨e1,e2,e3⟩:=yW f n M x h51;rw [e1,e2,e3];exact ⟨rfl,⟨rfl,rfl⟩,rfl⟩)|(obtain ⟨e1,e2,e3,e4⟩:=yX f n M x h12 h42 h51;rw [e1,e2,e3,e4];exact ⟨rfl,⟨rfl,rfl⟩,rfl⟩)
     ·refine qC [5] (by kernel_rfl) rfl ?_;refine qC [7] (by kernel_rfl) rfl ?_;refine qK (by kernel_rfl) ?_;refine qD ?_;refine qB ?_;refine qN ?_
      first|(obtain ⟨e1,e2,e3,e4⟩:=yL f n M x h12 h38;rw [e1,e2,e3,e4];exact ⟨rfl,⟨rfl,rfl⟩,rfl⟩)|(obtain ⟨e1,e2,e3,e4⟩:=yM f n M x h12 (by simpa using h38);rw [e1,e2,e3,e4];exact ⟨rfl,⟨rfl,rfl⟩,rfl⟩)|(obtain ⟨e1,e2,e3,e4⟩:=yY f n M x h42;rw [e1,e2,e3,e4];exact ⟨rfl,⟨rfl,rfl⟩,rfl⟩)|(obtain ⟨e1,e2,e3⟩:=yW f n M x h51;rw [e1,e2,e3];exact ⟨rfl,⟨rfl,rfl⟩,rfl⟩)|(obtain ⟨e1,e2,e3,e4⟩:=yX f n M x h12 h42 h51;rw [e1,e2,e3,e4];exact ⟨rfl,⟨rfl,rfl⟩,rfl⟩)
    refine zai ?_ ?_
    ·refine qC [3,6] (by kernel_rfl) rfl ?_;refine zai ?_ ?_
     ·refine qC [6] (by kernel_rfl) rfl ?_;refine qC [7] (by kernel_rfl) rfl ?_;refine qK (by kernel_rfl) ?_;refine qD ?_;refine qB ?_;refine qN ?_
      first|(obtain ⟨e1,e2,e3,e4⟩:=yL f n M x h12 h38;rw [e1,e2,e3,e4];exact ⟨rfl,⟨rfl,rfl⟩,rfl⟩)|(obtain ⟨e1,e2,e3,e4⟩:=yM f n M x h12 (by simpa using h38);rw [e1,e2,e3,e4];exact ⟨rfl,⟨rfl,rfl⟩,rfl⟩)|(obtain ⟨e1,e2,e3,e4⟩:=yY f n M x h42;rw [e1,e2,e3,e4];exact ⟨rfl,⟨rfl,rfl⟩,rfl⟩)|(obtain ⟨e1,e2,e3⟩:=yW f n M x h51;rw [e1,e2,e3];exact ⟨rfl,⟨rfl,rfl⟩,rfl⟩)|(obtain ⟨e1,e2,e3,e4⟩:=yX f n M x h12 h42 h51;rw [e1,e2,e3,e4];exact ⟨rfl,⟨rfl,rfl⟩,rfl⟩)
     ·refine qC [3] (by kernel_rfl) rfl ?_;refine qC [7] (by kernel_rfl) rfl ?_;refine qK (by kernel_rfl) ?_;refine qD ?_;refine qB ?_;refine qN ?_
      first|(obtain ⟨e1,e2,e3,e4⟩:=yL f n M x h12 h38;rw [e1,e2,e3,e4];exact ⟨rfl,⟨rfl,rfl⟩,rfl⟩)|(obtain ⟨e1,e2,e3,e4⟩:=yM f n M x h12 (by simpa using h38);rw [e1,e2,e3,e4];exact ⟨rfl,⟨rfl,rfl⟩,rfl⟩)|(obtain ⟨e1,e2,e3,e4⟩:=yY f n M x h42;rw [e1,e2,e3,e4];exact ⟨rfl,⟨rfl,rfl⟩,rfl⟩)|(obtain ⟨e1,e2,e3⟩:=yW f n M x h51;rw [e1,e2,e3];exact ⟨rfl,⟨rfl,rfl⟩,rfl⟩)|(obtain ⟨e1,e2,e3,e4⟩:=yX f n M x h12 h42 h51;rw [e1,e2,e3,e4];exact ⟨rfl,⟨rfl,rfl⟩,rfl⟩)
    ·refine qC [3,5] (by kernel_rfl) rfl ?_;refine zai ?_ ?_
     ·refine qC [5] (by kernel_rfl) rfl ?_;refine qC [7] (by kernel_rfl) rfl ?_;refine qK (by kernel_rfl) ?_;refine qD ?_;refine qB ?_;refine qN ?_
      first|(obtain ⟨e1,e2,e3,e4⟩:=yL f n M x h12 h38;rw [e1,e2,e3,e4];exact ⟨rfl,⟨rfl,rfl⟩,rfl⟩)|(obtain ⟨e1,e2,e3,e4⟩:=yM f n M x h12 (by simpa using h38);rw [e1,e2,e3,e4];exact ⟨rfl,⟨rfl,rfl⟩,rfl⟩)|(obtain ⟨e1,e2,e3,e4⟩:=yY f n M x h42;rw [e1,e2,e3,e4];exact ⟨rfl,⟨rfl,rfl⟩,rfl⟩)|(obtain ⟨e1,e2,e3⟩:=yW f n M x h51;rw [e1,e2,e3];exact ⟨rfl,⟨rfl,rfl⟩,rfl⟩)|(obtain ⟨e1,e2,e3,e4⟩:=yX f n M x h12 h42 h51;rw [e1,e2,e3,e4];exact ⟨rfl,⟨rfl,rfl⟩,rfl⟩)
     ·refine qC [3] (by kernel_rfl) rfl ?_;refine qC [7] (by kernel_rfl) rfl ?_;refine qK (by kernel_rfl) ?_;refine qD ?_;refine qB ?_;refine qN ?_
      first|(obtain ⟨e1,e2,e3,e4⟩:=yL f n M x h12 h38;rw [e1,e2,e3,e4];exact ⟨rfl,⟨rfl,rfl⟩,rfl⟩)|(obtain ⟨e1,e2,e3,e4⟩:=yM f n M x h12 (by simpa using h38);rw [e1,e2,e3,e4];exact ⟨rfl,⟨rfl,rfl⟩,rfl⟩)|(obtain ⟨e1,e2,e3,e4⟩:=yY f n M x h42;rw [e1,e2,e3,e4];exact ⟨rfl,⟨rfl,rfl⟩,rfl⟩)|(obtain ⟨e1,e2,e3⟩:=yW f n M x h51;rw [e1,e2,e3];exact ⟨rfl,⟨rfl,rfl⟩,rfl⟩)|(obtain ⟨e1,e2,e3,e4⟩:=yX f n M x h12 h42 h51;rw [e1,e2,e3,e4];exact ⟨rfl,⟨rfl,rfl⟩,rfl⟩)
   ·try simp only [decide_eq_false_iff_not] at h42
    try simp only [zds] at h42
    refine qD ?_;refine qB ?_;refine qM rfl (fun h51=>?_) (fun h51=>?_)
    ·try simp only [decide_eq_true_eq] at h51
     try simp only [zds] at h51
     refine acode_cut (fun (u : Unit)=>True) (fun (u : Unit)=>[(0,.one (.own 0 0)),(3,.one (.own 2 0)),(4,.one (.own 3 0)),(9,.one (.lit (.bool (getM M x.2.1).isSome)))]) (fun (u : Unit)=>[(0,.box 112 [.mp 1,.lit (.int .i64 f),.lit (.int .i64 n)]),(1,.map true (rFt 3) M),(2,.box 31 (toL (rEdk 3) x)),(3,.box 31 [.lit (.int .i64 0),.lit (.int .i64 0),.lit (.slice none 0 0)])]) 4 ?_ ?_
     ·refine yE rfl ?_;refine qE 0 rfl rfl rfl (by kernel_rfl) ?_;refine qE 1 rfl rfl rfl (by kernel_rfl) ?_;refine qE 2 rfl rfl rfl (by kernel_rfl) ?_;refine qE 4 rfl rfl rfl (by kernel_rfl) ?_;refine qC [3,5,10] (by kernel_rfl) rfl ?_;refine zai ?_ ?_
      ·refine qC [5,10] (by kernel_rfl) rfl ?_;refine zai ?_ ?_
       ·refine qC [6,10] (by kernel_rfl) rfl ?_;refine zai ?_ ?_
        ·refine qE 7 rfl rfl rfl (by kernel_rfl) ?_;refine qE 8 rfl rfl rfl (by kernel_rfl) ?_;refine qE 9 rfl rfl rfl (by kernel_rfl) ?_;refine qC [10] (by kernel_rfl) rfl ?_;refine qC [11] (by kernel_rfl) rfl ?_;refine qE 12 rfl rfl rfl (by kernel_rfl) ?_;refine qK (by kernel_rfl) ?_;exact ⟨(),trivial,qP ⟨rfl,rfl,rfl,rfl⟩ ⟨rfl,rfl,rfl,rfl⟩ rfl⟩
        ·refine qC [6] (by kernel_rfl) rfl ?_;refine qE 7 rfl rfl rfl (by kernel_rfl) ?_;refine qE 8 rfl rfl rfl (by kernel_rfl) ?_;refine qE 9 rfl rfl rfl (by kernel_rfl) ?_;refine qC [11] (by kernel_rfl) rfl ?_;refine qE 12 rfl rfl rfl (by kernel_rfl) ?_;refine qK (by kernel_rfl) ?_;exact ⟨(),trivial,qP ⟨rfl,rfl,rfl,rfl⟩ ⟨rfl,rfl,rfl,rfl⟩ rfl⟩
       ·refine qC [5] (by kernel_rfl) rfl ?_;refine qC [6] (by kernel_rfl) rfl ?_;refine qE 7 rfl rfl rfl (by kernel_rfl) ?_;refine qE 8 rfl rfl rfl (by kernel_rfl) ?_;refine qE 9 rfl rfl rfl (by kernel_rfl) ?_;refine qC [11] (by kernel_rfl) rfl ?_;refine qE 12 rfl rfl rfl (by kernel_rfl) ?_;refine qK (by kernel_rfl) ?_;exact ⟨(),trivial,qP ⟨rfl,rfl,rfl,rfl⟩ ⟨rfl,rfl,rfl,rfl⟩ rfl⟩
      refine zai ?_ ?_
      ·refine qC [3,10] (by kernel_rfl) rfl ?_;refine zai ?_ ?_
       ·refine qC [6,10] (by kernel_rfl) rfl ?_;refine zai ?_ ?_
        ·refine qE 7 rfl rfl rfl (by kernel_rfl) ?_;refine qE 8 rfl rfl rfl (by kernel_rfl) ?_;refine qE 9 rfl rfl rfl (by kernel_rfl) ?_;refine qC [10] (by kernel_rfl) rfl ?_;refine qC [11] (by kernel_rfl) rfl ?_;refine qE 12 rfl rfl rfl (by kernel_rfl) ?_;refine qK (by kernel_rfl) ?_;exact ⟨(),trivial,qP ⟨rfl,rfl,rfl,rfl⟩ ⟨rfl,rfl,rfl,rfl⟩ rfl⟩
        ·refine qC [6] (by kernel_rfl) rfl ?_;refine qE 7 rfl rfl rfl (by kernel_rfl) ?_;refine qE 8 rfl rfl rfl (by kernel_rfl) ?_;refine qE 9 rfl rfl rfl (by kernel_rfl) ?_;refine qC [11] (by kernel_rfl) rfl ?_;refine qE 12 rfl rfl rfl (by kernel_rfl) ?_;refine qK (by kernel_rfl) ?_;exact ⟨(),trivial,qP ⟨rfl,rfl,rfl,rfl⟩ ⟨rfl,rfl,rfl,rfl⟩ rfl⟩
       ·refine qC [3] (by kernel_rfl) rfl ?_;refine qC [6] (by kernel_rfl) rfl ?_;refine qE 7 rfl rfl rfl (by kernel_rfl) ?_;refine qE 8 rfl rfl rfl (by kernel_rfl) ?_;refine qE 9 rfl rfl rfl (by kernel_rfl) ?_;refine qC [11] (by kernel_rfl) rfl ?_;refine qE 12 rfl rfl rfl (by kernel_rfl) ?_;refine qK (by kernel_rfl) ?_;exact ⟨(),trivial,qP ⟨rfl,rfl,rfl,rfl⟩ ⟨rfl,rfl,rfl,rfl⟩ rfl⟩
      ·refine qC [3,5] (by kernel_rfl) rfl ?_;refine zai ?_ ?_
       ·refine qC [5] (by kernel_rfl) rfl ?_;refine qC [6] (by kernel_rfl) rfl ?_;refine qE 7 rfl rfl rfl (by kernel_rfl) ?_;refine qE 8 rfl rfl rfl (by kernel_rfl) ?_;refine qE 9 rfl rfl rfl (by kernel_rfl) ?_;refine qC [11] (by kernel_rfl) rfl ?_;refine qE 12 rfl rfl rfl (by kernel_rfl) ?_;refine qK (by kernel_rfl) ?_;exact ⟨(),trivial,qP ⟨rfl,rfl,rfl,rfl⟩ ⟨rfl,rfl,rfl,rfl⟩ rfl⟩
       ·refine qC [3] (by kernel_rfl) rfl ?_;refine qC [6] (by kernel_rfl) rfl ?_;refine qE 7 rfl rfl rfl (by kernel_rfl) ?_;refine qE 8 rfl rfl rfl (by kernel_rfl) ?_;refine qE 9 rfl rfl rfl (by kernel_rfl) ?_;refine qC [11] (by kernel_rfl) rfl ?_;refine qE 12 rfl rfl rfl (by kernel_rfl) ?_;refine qK (by kernel_rfl) ?_;exact ⟨(),trivial,qP ⟨rfl,rfl,rfl,rfl⟩ ⟨rfl,rfl,rfl,rfl⟩ rfl⟩
     ·intro u hcut11;refine acode_cut (fun (u : Unit)=>True) (fun (u : Unit)=>[(0,.one (.own 0 0)),(3,.one (.own 2 0)),(4,.one (.own 3 0)),(9,.one (.lit (.bool (getM M x.2.1).isSome)))]) (fun (u : Unit)=>[(0,.box 112 [.mp 1,.lit (.int .i64 f),.lit (.int .i64 n)]),(1,.map true (rFt 3) (keepM M x)),(2,.box 31 (toL (rEdk 3) x)),(3,.box 31 [.lit (.int .i64 0),.lit (.int .i64 0),.lit (.slice none 0 0)])]) 4 ?_ ?_
      ·refine qD ?_;refine qB ?_;refine qM rfl (fun h64=>?_) (fun h64=>?_)
       ·try simp only [Bool.not_eq_true'] at h64
        try simp only [zds] at h64
        refine yE rfl ?_;refine qE 0 rfl rfl rfl (by kernel_rfl) ?_;refine qE 1 rfl rfl rfl (by kernel_rfl) ?_;refine qE 2 rfl rfl rfl (by kernel_rfl) ?_;refine qE 4 rfl rfl rfl (by kernel_rfl) ?_;refine qE 6 rfl rfl rfl (by kernel_rfl) ?_;refine qC [3,5,7] (by kernel_rfl) rfl ?_;refine zai ?_ ?_
        ·refine qC [5,7] (by kernel_rfl) rfl ?_;refine zai ?_ ?_
         ·refine qC [7] (by kernel_rfl) rfl ?_;refine qC [8] (by kernel_rfl) rfl ?_;refine qC [9] (by kernel_rfl) rfl ?_;refine qK (by kernel_rfl) ?_;exact ⟨(),trivial,qP ⟨rfl,rfl,rfl,rfl⟩ ⟨rfl,(mp_eq (by first|exact (xF M x h51 (by simpa using h64)).symm|exact (xE M x h51 (by simpa using h64)).symm)),rfl,rfl⟩ rfl⟩
         ·refine qC [5,8] (by kernel_rfl) rfl ?_;refine zai ?_ ?_
          ·refine qC [8] (by kernel_rfl) rfl ?_;refine qC [9] (by kernel_rfl) rfl ?_;refine qK (by kernel_rfl) ?_;exact ⟨(),trivial,qP ⟨rfl,rfl,rfl,rfl⟩ ⟨rfl,(mp_eq (by first|exact (xF M x h51 (by simpa using h64)).symm|exact (xE M x h51 (by simpa using h64)).symm)),rfl,rfl⟩ rfl⟩
          ·refine qC [5] (by kernel_rfl) rfl ?_;refine qC [9] (by kernel_rfl) rfl ?_;refine qK (by kernel_rfl) ?_;exact ⟨(),trivial,qP ⟨rfl,rfl,rfl,rfl⟩ ⟨rfl,(mp_eq (by first|exact (xF M x h51 (by simpa using h64)).symm|exact (xE M x h51 (by simpa using h64)).symm)),rfl,rfl⟩ rfl⟩
        refine zai ?_ ?_
        ·refine qC [3,7] (by kernel_rfl) rfl ?_;refine zai ?_ ?_
         ·refine qC [7] (by kernel_rfl) rfl ?_;refine qC [8] (by kernel_rfl) rfl ?_;refine qC [9] (by kernel_rfl) rfl ?_;refine qK (by kernel_rfl) ?_;exact ⟨(),trivial,qP ⟨rfl,rfl,rfl,rfl⟩ ⟨rfl,(mp_eq (by first|exact (xF M x h51 (by simpa using h64)).symm|exact (xE M x h51 (by simpa using h64)).symm)),rfl,rfl⟩ rfl⟩
         ·refine qC [3,8] (by kernel_rfl) rfl ?_;refine zai ?_ ?_
          ·refine qC [8] (by kernel_rfl) rfl ?_;refine qC [9] (by kernel_rfl) rfl ?_;refine qK (by kernel_rfl) ?_;exact ⟨(),trivial,qP ⟨rfl,rfl,rfl,rfl⟩ ⟨rfl,(mp_eq (by first|exact (xF M x h51 (by simpa using h64)).symm|exact (xE M x h51 (by simpa using h64)).symm)),rfl,rfl⟩ rfl⟩
          ·refine qC [3] (by kernel_rfl) rfl ?_;refine qC [9] (by kernel_rfl) rfl ?_;refine qK (by kernel_rfl) ?_;exact ⟨(),trivial,qP ⟨rfl,rfl,rfl,rfl⟩ ⟨rfl,(mp_eq (by first|exact (xF M x h51 (by simpa using h64)).symm|exact (xE M x h51 (by simpa using h64)).symm)),rfl,rfl⟩ rfl⟩
        ·refine qC [3,5,8] (by kernel_rfl) rfl ?_;refine zai ?_ ?_
         ·refine qC [5,8] (by kernel_rfl) rfl ?_;refine zai ?_ ?_
          ·refine qC [8] (by kernel_rfl) rfl ?_;refine qC [9] (by kernel_rfl) rfl ?_;refine qK (by kernel_rfl) ?_;exact ⟨(),trivial,qP ⟨rfl,rfl,rfl,rfl⟩ ⟨rfl,(mp_eq (by first|exact (xF M x h51 (by simpa using h64)).symm|exact (xE M x h51 (by simpa using h64)).symm)),rfl,rfl⟩ rfl⟩
          ·refine qC [5] (by kernel_rfl) rfl ?_;refine qC [9] (by kernel_rfl) rfl ?_;refine qK (by kernel_rfl) ?_;exact ⟨(),trivial,qP ⟨rfl,rfl,rfl,rfl⟩ ⟨rfl,(mp_eq (by first|exact (xF M x h51 (by simpa using h64)).symm|exact (xE M x h51 (by simpa using h64)).symm)),rfl,rfl⟩ rfl⟩
         refine zai ?_ ?_
         ·refine qC [3,8] (by kernel_rfl) rfl ?_;refine zai ?_ ?_
          ·refine qC [8] (by kernel_rfl) rfl ?_;refine qC [9] (by kernel_rfl) rfl ?_;refine qK (by kernel_rfl) ?_;exact ⟨(),trivial,qP ⟨rfl,rfl,rfl,rfl⟩ ⟨rfl,(mp_eq (by first|exact (xF M x h51 (by simpa using h64)).symm|exact (xE M x h51 (by simpa using h64)).symm)),rfl,rfl⟩ rfl⟩
          ·refine qC [3] (by kernel_rfl) rfl ?_;refine qC [9] (by kernel_rfl) rfl ?_;refine qK (by kernel_rfl) ?_;exact ⟨(),trivial,qP ⟨rfl,rfl,rfl,rfl⟩ ⟨rfl,(mp_eq (by first|exact (xF M x h51 (by simpa using h64)).symm|exact (xE M x h51 (by simpa using h64)).symm)),rfl,rfl⟩ rfl⟩
         ·refine qC [3,5] (by kernel_rfl) rfl ?_;refine zai ?_ ?_
          ·refine qC [5] (by kernel_rfl) rfl ?_;refine qC [9] (by kernel_rfl) rfl ?_;refine qK (by kernel_rfl) ?_;exact ⟨(),trivial,qP ⟨rfl,rfl,rfl,rfl⟩ ⟨rfl,(mp_eq (by first|exact (xF M x h51 (by simpa using h64)).symm|exact (xE M x h51 (by simpa using h64)).symm)),rfl,rfl⟩ rfl⟩
          ·refine qC [3] (by kernel_rfl) rfl ?_;refine qC [9] (by kernel_rfl) rfl ?_;refine qK (by kernel_rfl) ?_;exact ⟨(),trivial,qP ⟨rfl,rfl,rfl,rfl⟩ ⟨rfl,(mp_eq (by first|exact (xF M x h51 (by simpa using h64)).symm|exact (xE M x h51 (by simpa using h64)).symm)),rfl,rfl⟩ rfl⟩
       ·try simp only [Bool.not_eq_false'] at h64
        try simp only [zds] at h64
        refine qO ?_;exact ⟨(),trivial,qP ⟨rfl,rfl,rfl,rfl⟩ ⟨rfl,(mp_eq (by first|exact (xF M x h51 (by simpa using h64)).symm|exact (xE M x h51 (by simpa using h64)).symm)),rfl,rfl⟩ rfl⟩
      ·intro u hcut13;refine qD ?_;refine yE rfl ?_;refine qE 1 rfl rfl rfl (by kernel_rfl) ?_;refine qC [0,2] (by kernel_rfl) rfl ?_;refine zai ?_ ?_
       ·refine qC [2] (by kernel_rfl) rfl ?_;refine qE 3 rfl rfl rfl (by kernel_rfl) ?_;refine aord_lightG 4 rfl rfl rfl (by kernel_rfl) ?_;refine zai (fun h=>trivial) ?_;refine aord_lightG 5 rfl rfl rfl (by kernel_rfl) ?_;refine zai (fun h=>trivial) ?_;refine qC [6] (by kernel_rfl) rfl ?_;refine zai (fun h=>⟨⟨h,trivial⟩,trivial⟩) ?_;refine qC [7] (by kernel_rfl) rfl ?_;refine Or.inl ?_;refine zai (rfl) ?_;refine zei _ (zai (fun h=>⟨⟨⟨h,trivial⟩,⟨h,trivial⟩,trivial⟩,given_c (k:=1) () f n x.2.1⟩) ?_);refine qC [8,10] (by kernel_rfl) rfl ?_;refine zai ?_ ?_
        ·refine zai (fun h=>⟨⟨h,trivial⟩,trivial⟩) ?_;refine qE 9 rfl rfl rfl (by kernel_rfl) ?_;refine zai (by exact fun h=>h) ?_;refine qC [10] (by kernel_rfl) rfl ?_;refine qE 11 rfl rfl rfl (by kernel_rfl) ?_;refine qK (by kernel_rfl) ?_;refine qN ?_
         first|(obtain ⟨e1,e2,e3,e4⟩:=yL f n M x h12 h38;rw [e1,e2,e3,e4];exact ⟨rfl,⟨rfl,rfl⟩,rfl⟩)|(obtain ⟨e1,e2,e3,e4⟩:=yM f n M x h12 (by simpa using h38);rw [e1,e2,e3,e4];exact ⟨rfl,⟨rfl,rfl⟩,rfl⟩)|(obtain ⟨e1,e2,e3,e4⟩:=yY f n M x h42;rw [e1,e2,e3,e4];exact ⟨rfl,⟨rfl,rfl⟩,rfl⟩)|(obtain ⟨e1,e2,e3⟩:=yW f n M x h51;rw [e1,e2,e3];exact ⟨rfl,⟨rfl,rfl⟩,rfl⟩)|(obtain ⟨e1,e2,e3,e4⟩:=yX f n M x h12 h42 h51;rw [e1,e2,e3,e4];exact ⟨rfl,⟨rfl,rfl⟩,rfl⟩)
        ·refine qC [8] (by kernel_rfl) rfl ?_;refine zai (fun h=>⟨⟨h,trivial⟩,trivial⟩) ?_;refine qE 9 rfl rfl rfl (by kernel_rfl) ?_;refine zai (by exact fun h=>h) ?_;refine qE 11 rfl rfl rfl (by kernel_rfl) ?_;refine qK (by kernel_rfl) ?_;refine qN ?_
         first|(obtain ⟨e1,e2,e3,e4⟩:=yL f n M x h12 h38;rw [e1,e2,e3,e4];exact ⟨rfl,⟨rfl,rfl⟩,rfl⟩)|(obtain ⟨e1,e2,e3,e4⟩:=yM f n M x h12 (by simpa using h38);rw [e1,e2,e3,e4];exact ⟨rfl,⟨rfl,rfl⟩,rfl⟩)|(obtain ⟨e1,e2,e3,e4⟩:=yY f n M x h42;rw [e1,e2,e3,e4];exact ⟨rfl,⟨rfl,rfl⟩,rfl⟩)|(obtain ⟨e1,e2,e3⟩:=yW f n M x h51;rw [e1,e2,e3];exact ⟨rfl,⟨rfl,rfl⟩,rfl⟩)|(obtain ⟨e1,e2,e3,e4⟩:=yX f n M x h12 h42 h51;rw [e1,e2,e3,e4];exact ⟨rfl,⟨rfl,rfl⟩,rfl⟩)
       ·refine qE 3 rfl rfl rfl (by kernel_rfl) ?_;refine aord_lightG 4 rfl rfl rfl (by kernel_rfl) ?_;refine zai (fun h=>trivial) ?_;refine aord_lightG 5 rfl rfl rfl (by kernel_rfl) ?_;refine zai (fun h=>trivial) ?_;refine qC [0,6] (by kernel_rfl) rfl ?_;refine zai ?_ ?_
        ·refine qC [6] (by kernel_rfl) rfl ?_;refine zai (fun h=>⟨⟨h,trivial⟩,trivial⟩) ?_;refine qC [7] (by kernel_rfl) rfl ?_;refine Or.inl ?_;refine zai (rfl) ?_;refine zei _ (zai (fun h=>⟨⟨⟨h,trivial⟩,⟨h,trivial⟩,trivial⟩,given_c (k:=1) () f n x.2.1⟩) ?_);refine qC [8,10] (by kernel_rfl) rfl ?_;refine zai ?_ ?_
         ·refine zai (fun h=>⟨⟨h,trivial⟩,trivial⟩) ?_;refine qE 9 rfl rfl rfl (by kernel_rfl) ?_;refine zai (by exact fun h=>h) ?_;refine qC [10] (by kernel_rfl) rfl ?_;refine qE 11 rfl rfl rfl (by kernel_rfl) ?_;refine qK (by kernel_rfl) ?_;refine qN ?_
          first|(obtain ⟨e1,e2,e3,e4⟩:=yL f n M x h12 h38;rw [e1,e2,e3,e4];exact ⟨rfl,⟨rfl,rfl⟩,rfl⟩)|(obtain ⟨e1,e2,e3,e4⟩:=yM f n M x h12 (by simpa using h38);rw [e1,e2,e3,e4];exact ⟨rfl,⟨rfl,rfl⟩,rfl⟩)|(obtain ⟨e1,e2,e3,e4⟩:=yY f n M x h42;rw [e1,e2,e3,e4];exact ⟨rfl,⟨rfl,rfl⟩,rfl⟩)|(obtain ⟨e1,e2,e3⟩:=yW f n M x h51;rw [e1,e2,e3];exact ⟨rfl,⟨rfl,rfl⟩,rfl⟩)|(obtain ⟨e1,e2,e3,e4⟩:=yX f n M x h12 h42 h51;rw [e1,e2,e3,e4];exact ⟨rfl,⟨rfl,rfl⟩,rfl⟩)
         ·refine qC [8] (by kernel_rfl) rfl ?_;refine zai (fun h=>⟨⟨h,trivial⟩,trivial⟩) ?_;refine qE 9 rfl rfl rfl (by kernel_rfl) ?_;refine zai (by exact fun h=>h) ?_;refine qE 11 rfl rfl rfl (by kernel_rfl) ?_;refine qK (by kernel_rfl) ?_;refine qN ?_
          first|(obtain ⟨e1,e2,e3,e4⟩:=yL f n M x h12 h38;rw [e1,e2,e3,e4];exact ⟨rfl,⟨rfl,rfl⟩,rfl⟩)|(obtain ⟨e1,e2,e3,e4⟩:=yM f n M x h12 (by simpa using h38);rw [e1,e2,e3,e4];exact ⟨rfl,⟨rfl,rfl⟩,rfl⟩)|(obtain ⟨e1,e2,e3,e4⟩:=yY f n M x h42;rw [e1,e2,e3,e4];exact ⟨rfl,⟨rfl,rfl⟩,rfl⟩)|(obtain ⟨e1,e2,e3⟩:=yW f n M x h51;rw [e1,e2,e3];exact ⟨rfl,⟨rfl,rfl⟩,rfl⟩)|(obtain ⟨e1,e2,e3,e4⟩:=yX f n M x h12 h42 h51;rw [e1,e2,e3,e4];exact ⟨rfl,⟨rfl,rfl⟩,rfl⟩)
        ·refine zai (fun h=>⟨⟨h,trivial⟩,trivial⟩) ?_;refine qC [0,7] (by kernel_rfl) rfl ?_;refine zai ?_ ?_
         ·refine qC [7] (by kernel_rfl) rfl ?_;refine Or.inl ?_;refine zai (rfl) ?_;refine zei _ (zai (fun h=>⟨⟨⟨h,trivial⟩,⟨h,trivial⟩,trivial⟩,given_c (k:=1) () f n x.2.1⟩) ?_);refine qC [8,10] (by kernel_rfl) rfl ?_;refine zai ?_ ?_
          ·refine zai (fun h=>⟨⟨h,trivial⟩,trivial⟩) ?_;refine qE 9 rfl rfl rfl (by kernel_rfl) ?_;refine zai (by exact fun h=>h) ?_;refine qC [10] (by kernel_rfl) rfl ?_;refine qE 11 rfl rfl rfl (by kernel_rfl) ?_;refine qK (by kernel_rfl) ?_;refine qN ?_
           first|(obtain ⟨e1,e2,e3,e4⟩:=yL f n M x h12 h38;rw [e1,e2,e3,e4];exact ⟨rfl,⟨rfl,rfl⟩,rfl⟩)|(obtain ⟨e1,e2,e3,e4⟩:=yM f n M x h12 (by simpa using h38);rw [e1,e2,e3,e4];exact ⟨rfl,⟨rfl,rfl⟩,rfl⟩)|(obtain ⟨e1,e2,e3,e4⟩:=yY f n M x h42;rw [e1,e2,e3,e4];exact ⟨rfl,⟨rfl,rfl⟩,rfl⟩)|(obtain ⟨e1,e2,e3⟩:=yW f n M x h51;rw [e1,e2,e3];exact ⟨rfl,⟨rfl,rfl⟩,rfl⟩)|(obtain ⟨e1,e2,e3,e4⟩:=yX f n M x h12 h42 h51;rw [e1,e2,e3,e4];exact ⟨rfl,⟨rfl,rfl⟩,rfl⟩)
          ·refine qC [8] (by kernel_rfl) rfl ?_;refine zai (fun h=>⟨⟨h,trivial⟩,trivial⟩) ?_;refine qE 9 rfl rfl rfl (by kernel_rfl) ?_;refine zai (by exact fun h=>h) ?_;refine qE 11 rfl rfl rfl (by kernel_rfl) ?_;refine qK (by kernel_rfl) ?_;refine qN ?_
           first|(obtain ⟨e1,e2,e3,e4⟩:=yL f n M x h12 h38;rw [e1,e2,e3,e4];exact ⟨rfl,⟨rfl,rfl⟩,rfl⟩)|(obtain ⟨e1,e2,e3,e4⟩:=yM f n M x h12 (by simpa using h38);rw [e1,e2,e3,e4];exact ⟨rfl,⟨rfl,rfl⟩,rfl⟩)|(obtain ⟨e1,e2,e3,e4⟩:=yY f n M x h42;rw [e1,e2,e3,e4];exact ⟨rfl,⟨rfl,rfl⟩,rfl⟩)|(obtain ⟨e1,e2,e3⟩:=yW f n M x h51;rw [e1,e2,e3];exact ⟨rfl,⟨rfl,rfl⟩,rfl⟩)|(obtain ⟨e1,e2,e3,e4⟩:=yX f n M x h12 h42 h51;rw [e1,e2,e3,e4];exact ⟨rfl,⟨rfl,rfl⟩,rfl⟩)
         ·refine Or.inl ?_;refine zai (rfl) ?_;refine zei _ (zai (fun h=>⟨⟨⟨h,trivial⟩,⟨h,trivial⟩,trivial⟩,given_c (k:=1) () f n x.2.1⟩) ?_);refine qC [0,8] (by kernel_rfl) rfl ?_;refine zai ?_ ?_
          ·refine qC [8,10] (by kernel_rfl) rfl ?_;refine zai ?_ ?_
           ·refine zai (fun h=>⟨⟨h,trivial⟩,trivial⟩) ?_;refine qE 9 rfl rfl rfl (by kernel_rfl) ?_;refine zai (by exact fun h=>h) ?_;refine qC [10] (by kernel_rfl) rfl ?_;refine qE 11 rfl rfl rfl (by kernel_rfl) ?_;refine qK (by kernel_rfl) ?_;refine qN ?_
            first|(obtain ⟨e1,e2,e3,e4⟩:=yL f n M x h12 h38;rw [e1,e2,e3,e4];exact ⟨rfl,⟨rfl,rfl⟩,rfl⟩)|(obtain ⟨e1,e2,e3,e4⟩:=yM f n M x h12 (by simpa using h38);rw [e1,e2,e3,e4];exact ⟨rfl,⟨rfl,rfl⟩,rfl⟩)|(obtain ⟨e1,e2,e3,e4⟩:=yY f n M x h42;rw [e1,e2,e3,e4];exact ⟨rfl,⟨rfl,rfl⟩,rfl⟩)|(obtain ⟨e1,e2,e3⟩:=yW f n M x h51;rw [e1,e2,e3];exact ⟨rfl,⟨rfl,rfl⟩,rfl⟩)|(obtain ⟨e1,e2,e3,e4⟩:=yX f n M x h12 h42 h51;rw [e1,e2,e3,e4];exact ⟨rfl,⟨rfl,rfl⟩,rfl⟩)
           ·refine qC [8] (by kernel_rfl) rfl ?_;refine zai (fun h=>⟨⟨h,trivial⟩,trivial⟩) ?_;refine qE 9 rfl rfl rfl (by kernel_rfl) ?_;refine zai (by exact fun h=>h) ?_;refine qE 11 rfl rfl rfl (by kernel_rfl) ?_;refine qK (by kernel_rfl) ?_;refine qN ?_
            first|(obtain ⟨e1,e2,e3,e4⟩:=yL f n M x h12 h38;rw [e1,e2,e3,e4];exact ⟨rfl,⟨rfl,rfl⟩,rfl⟩)|(obtain ⟨e1,e2,e3,e4⟩:=yM f n M x h12 (by simpa using h38);rw [e1,e2,e3,e4];exact ⟨rfl,⟨rfl,rfl⟩,rfl⟩)|(obtain ⟨e1,e2,e3,e4⟩:=yY f n M x h42;rw [e1,e2,e3,e4];exact ⟨rfl,⟨rfl,rfl⟩,rfl⟩)|(obtain ⟨e1,e2,e3⟩:=yW f n M x h51;rw [e1,e2,e3];exact ⟨rfl,⟨rfl,rfl⟩,rfl⟩)|(obtain ⟨e1,e2,e3,e4⟩:=yX f n M x h12 h42 h51;rw [e1,e2,e3,e4];exact ⟨rfl,⟨rfl,rfl⟩,rfl⟩)
          ·refine zai (fun h=>⟨⟨h,trivial⟩,trivial⟩) ?_;refine qE 9 rfl rfl rfl (by kernel_rfl) ?_;refine zai (by exact fun h=>h) ?_;refine qC [0] (by kernel_rfl) rfl ?_;refine qC [10] (by kernel_rfl) rfl ?_;refine qE 11 rfl rfl rfl (by kernel_rfl) ?_;refine qK (by kernel_rfl) ?_;refine qN ?_
           first|(obtain ⟨e1,e2,e3,e4⟩:=yL f n M x h12 h38;rw [e1,e2,e3,e4];exact ⟨rfl,⟨rfl,rfl⟩,rfl⟩)|(obtain ⟨e1,e2,e3,e4⟩:=yM f n M x h12 (by simpa using h38);rw [e1,e2,e3,e4];exact ⟨rfl,⟨rfl,rfl⟩,rfl⟩)|(obtain ⟨e1,e2,e3,e4⟩:=yY f n M x h42;rw [e1,e2,e3,e4];exact ⟨rfl,⟨rfl,rfl⟩,rfl⟩)|(obtain ⟨e1,e2,e3⟩:=yW f n M x h51;rw [e1,e2,e3];exact ⟨rfl,⟨rfl,rfl⟩,rfl⟩)|(obtain ⟨e1,e2,e3,e4⟩:=yX f n M x h12 h42 h51;rw [e1,e2,e3,e4];exact ⟨rfl,⟨rfl,rfl⟩,rfl⟩)
    ·try simp only [decide_eq_false_iff_not] at h51
     try simp only [zds] at h51
     refine qO ?_;refine qD ?_;refine qB ?_;refine qN ?_
     first|(obtain ⟨e1,e2,e3,e4⟩:=yL f n M x h12 h38;rw [e1,e2,e3,e4];exact ⟨rfl,⟨rfl,rfl⟩,rfl⟩)|(obtain ⟨e1,e2,e3,e4⟩:=yM f n M x h12 (by simpa using h38);rw [e1,e2,e3,e4];exact ⟨rfl,⟨rfl,rfl⟩,rfl⟩)|(obtain ⟨e1,e2,e3,e4⟩:=yY f n M x h42;rw [e1,e2,e3,e4];exact ⟨rfl,⟨rfl,rfl⟩,rfl⟩)|(obtain ⟨e1,e2,e3⟩:=yW f n M x h51;rw [e1,e2,e3];exact ⟨rfl,⟨rfl,rfl⟩,rfl⟩)|(obtain ⟨e1,e2,e3,e4⟩:=yX f n M x h12 h42 h51;rw [e1,e2,e3,e4];exact ⟨rfl,⟨rfl,rfl⟩,rfl⟩)
end Q
end Ab
end Go.Proofs.YtojipboabgebfaaGreatDoor
namespace Go.Proofs.YtojipboabgebfaaGreatDoor
open Go.RowKit
namespace Ab
set_option maxRecDepth 100000
namespace Q
def RevI (xs : List Edt) (i : Nat) (ys : List Edt) : Prop:=ys.length = xs.length ∧ ∀ k,k < xs.length → ys.getD k ((0 : Int),(0 : Int),([] : List Fld)) = if k < i ∨ xs.length - i ≤ k then xs.getD (xs.length - 1 - k) ((0 : Int),(0 : Int),([] : List Fld)) else xs.getD k ((0 : Int),(0 : Int),([] : List Fld))
theorem getD_set {ys : List Edt} {i k : Nat} {y : Edt} (h : k < ys.length) : (ys.set i y).getD k ((0 : Int),(0 : Int),([] : List Fld)) = if i = k then y else ys.getD k ((0 : Int),(0 : Int),([] : List Fld)):=by
  rw [List.getD_eq_getElem?_getD,List.getElem?_set,List.getD_eq_getElem?_getD];split
  · rename_i e;rw [if_pos (by omega)];rfl
  · rfl
theorem rev_step {xs ys : List Edt} {i : Nat} (h : RevI xs i ys) (hi : 2 * i + 1 < xs.length) : RevI xs (i + 1) ((ys.set i (ys.getD (xs.length - 1 - i) ((0 : Int),(0 : Int),([] : List Fld)))).set (xs.length - 1 - i) (ys.getD i ((0 : Int),(0 : Int),([] : List Fld)))):=by
  obtain ⟨h1,h2⟩:=h;refine ⟨by rw [List.length_set,List.length_set,h1],fun k hk=>?_⟩;rw [getD_set (by rw [List.length_set];omega),getD_set (by omega)]
  by_cases e1 : xs.length - 1 - i = k
  · rw [if_pos e1,if_pos (by omega),h2 i (by omega),if_neg (by omega),← e1];rw [show xs.length - 1 - (xs.length - 1 - i) = i by omega]
  · rw [if_neg e1]
    by_cases e2 : i = k
    · rw [if_pos e2,if_pos (by omega),h2 _ (by omega),if_neg (by omega),e2]
    · rw [if_neg e2,h2 k hk]
      by_cases e3 : k < i ∨ xs.length - i ≤ k
      · rw [if_pos e3,if_pos (by omega)]
      · rw [if_neg e3,if_neg (by omega)]
theorem rev_end {xs ys : List Edt} {i : Nat} (h : RevI xs i ys) (hi : xs.length ≤ 2 * i + 1) : ys = xs.reverse:=by
  obtain ⟨h1,h2⟩:=h;apply List.ext_getElem (by rw [h1,List.length_reverse]);intro k hk hk';have hkx : k < xs.length:=by omega
  have:=h2 k hkx;rw [List.getElem_reverse];have e1 : ys[k] = ys.getD k ((0 : Int),(0 : Int),([] : List Fld)):=(List.getElem_eq_getD ((0 : Int),(0 : Int),([] : List Fld)));have e2 : xs[xs.length - 1 - k] = xs.getD (xs.length - 1 - k) ((0 : Int),(0 : Int),([] : List Fld)):=(List.getElem_eq_getD ((0 : Int),(0 : Int),([] : List Fld)));rw [e1,e2,this];split
  · rfl
  · rw [show xs.length - 1 - k = k by omega]
theorem revE_o0 (xs : List Edt) (hl : xs.length ≤ 1000000) : qW Tryz.prog 67 [.one (.vec 1)] [(0,.box 22 [.vec 1]),(1,.vec 31 (rEdk 0) xs)] 2 (.tup []) [(0,.box 22 [.vec 1]),(1,.vec 31 (rEdk 0) xs.reverse)] 2:=by
  refine qU (rs:=[]) Tryz.func67 rfl rfl rfl teOk (by decide) rfl ?_;refine qD ?_;refine qB ?_;intro l0_1
  try simp only [zds] at l0_1
  refine zai (by first|omega|assumption|decide|(simp only [zds];omega)|(simp <;> omega)) ?_;refine qQ ?_;refine qY (fun (p : Nat × List Edt)=>RevI xs p.1 p.2 ∧ p.1 ≤ xs.length) (fun (p : Nat × List Edt)=>[(0,.one (.vec 1)),(2,ii .i64 p.1),(3,ii .i64 ((xs.length : Int) - 1 - p.1))]) (fun (p : Nat × List Edt)=>[(0,.box 22 [.vec 1]),(1,.vec 31 (rEdk 0) p.2)]) 2 (fun (p : Nat × List Edt)=>xs.length - p.1) (0,xs) (⟨⟨rfl,fun k hk=>by rw [if_neg (by omega)]⟩,Nat.zero_le _⟩) (qP ⟨rfl,rfl,(yH (by omega))⟩ ⟨rfl,rfl⟩ rfl) ?_;intro p hI0;obtain ⟨hI,hil⟩:=hI0;have hyl:=hI.1;refine qD ?_;refine qD ?_;refine qB ?_;refine qM rfl (fun h9=>?_) (fun h9=>?_)
  ·try simp only [decide_eq_true_eq] at h9
   try simp only [zds] at h9
   have hii : 2 * p.1 + 1 < xs.length:=(by omega);have hst:=rev_step hI hii;refine qO ?_;refine qD ?_;refine qQ ?_;refine yE rfl ?_;refine qE 0 rfl rfl rfl (by kernel_rfl) ?_;refine qE 1 rfl rfl rfl (by kernel_rfl) ?_;refine qE 2 rfl rfl rfl (by kernel_rfl) ?_;refine qE 3 rfl rfl rfl (by kernel_rfl) ?_;refine qE 4 rfl rfl rfl (by kernel_rfl) ?_;refine qE 5 rfl rfl rfl (by kernel_rfl) ?_;refine qE 6 rfl rfl rfl (by kernel_rfl) ?_;refine zai (by first|omega|assumption|decide|(simp only [zds];omega)|(simp <;> omega)) ?_;refine qE 8 rfl rfl rfl (by kernel_rfl) ?_;refine qE 9 rfl rfl rfl (by kernel_rfl) ?_;refine qE 10 rfl rfl rfl (by kernel_rfl) ?_;refine zai (by first|omega|assumption|decide|(simp only [zds];omega)|(simp <;> omega)) ?_;refine qC [7,11] (by kernel_rfl) rfl ?_;refine zai ?_ ?_
   ·refine zai (by omega) ?_;refine qC [11] (by kernel_rfl) rfl ?_;refine zai (by omega) ?_;refine qE 12 rfl rfl rfl (by kernel_rfl) ?_;refine zai (by first|omega|assumption|decide|(simp only [zds];omega)|(simp <;> omega)) ?_;refine qC [13] (by kernel_rfl) rfl ?_;refine zai (by omega) ?_;refine qE 14 rfl rfl rfl (by kernel_rfl) ?_;refine zai (by first|omega|assumption|decide|(simp only [Int.toNat_natCast,qJ,qI,qG];omega)|(simp <;> omega)) ?_;refine qC [15] (by kernel_rfl) rfl ?_;refine zai (by (try simp only [List.length_set]);omega) ?_;refine qK (by kernel_rfl) ?_;refine qB ?_;refine zai (by first|omega|assumption|decide|(simp only [zds];omega)|(simp <;> omega)) ?_;refine zai (by first|omega|assumption|decide|(simp only [zds];omega)|(simp <;> omega)) ?_;exact ⟨(p.1 + 1,(p.2.set p.1 (p.2.getD (xs.length - 1 - p.1) ((0 : Int),(0 : Int),([] : List Fld)))).set (xs.length - 1 - p.1) (p.2.getD p.1 ((0 : Int),(0 : Int),([] : List Fld)))),⟨hst,by show p.1 + 1 ≤ xs.length;omega⟩,by first|omega|(simp <;> omega),qP ⟨rfl,(yH (by omega)),(yH (by omega))⟩ ⟨rfl,(qS (by rw [show ((xs.length : Int) - 1 - (p.1 : Int)).toNat = xs.length - 1 - p.1 by omega];try exact rfl))⟩ rfl⟩
   ·refine zai (by omega) ?_;refine qC [7] (by kernel_rfl) rfl ?_;refine zai (by omega) ?_;refine qE 12 rfl rfl rfl (by kernel_rfl) ?_;refine zai (by first|omega|assumption|decide|(simp only [zds];omega)|(simp <;> omega)) ?_;refine qC [13] (by kernel_rfl) rfl ?_;refine zai (by omega) ?_;refine qE 14 rfl rfl rfl (by kernel_rfl) ?_;refine zai (by first|omega|assumption|decide|(simp only [Int.toNat_natCast,qJ,qI,qG];omega)|(simp <;> omega)) ?_;refine qC [15] (by kernel_rfl) rfl ?_;refine zai (by (try simp only [List.length_set]);omega) ?_;refine qK (by kernel_rfl) ?_;refine qB ?_;refine zai (by first|omega|assumption|decide|(simp only [zds];omega)|(simp <;> omega)) ?_;refine zai (by first|omega|assumption|decide|(simp only [zds];omega)|(simp <;> omega)) ?_;exact ⟨(p.1 + 1,(p.2.set p.1 (p.2.getD (xs.length - 1 - p.1) ((0 : Int),(0 : Int),([] : List Fld)))).set (xs.length - 1 - p.1) (p.2.getD p.1 ((0 : Int),(0 : Int),([] : List Fld)))),⟨hst,by show p.1 + 1 ≤ xs.length;omega⟩,by first|omega|(simp <;> omega),qP ⟨rfl,(yH (by omega)),(yH (by omega))⟩ ⟨rfl,(qS (by rw [show ((xs.length : Int) - 1 - (p.1 : Int)).toNat = xs.length - 1 - p.1 by omega];try exact rfl))⟩ rfl⟩
  ·try simp only [decide_eq_false_iff_not,Int.not_lt] at h9
   try simp only [zds] at h9
   refine yA ?_;have e1 : p.2 = xs.reverse:=rev_end hI (by omega);exact ⟨rfl,⟨rfl,qS e1⟩,rfl⟩
theorem revE_o3 (xs : List Edt) (hl : xs.length ≤ 1000000) : qW Tryz.prog 67 [.one (.vec 1)] [(0,.box 22 [.vec 1]),(1,.vec 31 (rEdk 3) xs)] 2 (.tup []) [(0,.box 22 [.vec 1]),(1,.vec 31 (rEdk 3) xs.reverse)] 2:=by
  refine qU (rs:=[]) Tryz.func67 rfl rfl rfl teOk (by decide) rfl ?_;refine qD ?_;refine qB ?_;intro l0_1
  try simp only [zds] at l0_1
  refine zai (by first|omega|assumption|decide|(simp only [zds];omega)|(simp <;> omega)) ?_;refine qQ ?_;refine qY (fun (p : Nat × List Edt)=>RevI xs p.1 p.2 ∧ p.1 ≤ xs.length) (fun (p : Nat × List Edt)=>[(0,.one (.vec 1)),(2,ii .i64 p.1),(3,ii .i64 ((xs.length : Int) - 1 - p.1))]) (fun (p : Nat × List Edt)=>[(0,.box 22 [.vec 1]),(1,.vec 31 (rEdk 3) p.2)]) 2 (fun (p : Nat × List Edt)=>xs.length - p.1) (0,xs) (⟨⟨rfl,fun k hk=>by rw [if_neg (by omega)]⟩,Nat.zero_le _⟩) (qP ⟨rfl,rfl,(yH (by omega))⟩ ⟨rfl,rfl⟩ rfl) ?_;intro p hI0;obtain ⟨hI,hil⟩:=hI0;have hyl:=hI.1;refine qD ?_;refine qD ?_;refine qB ?_;refine qM rfl (fun h9=>?_) (fun h9=>?_)
  ·try simp only [decide_eq_true_eq] at h9
   try simp only [zds] at h9
   have hii : 2 * p.1 + 1 < xs.length:=(by omega);have hst:=rev_step hI hii;refine qO ?_;refine qD ?_;refine qQ ?_;refine yE rfl ?_;refine qE 0 rfl rfl rfl (by kernel_rfl) ?_;refine qE 1 rfl rfl rfl (by kernel_rfl) ?_;refine qE 2 rfl rfl rfl (by kernel_rfl) ?_;refine qE 3 rfl rfl rfl (by kernel_rfl) ?_;refine qE 4 rfl rfl rfl (by kernel_rfl) ?_;refine qE 5 rfl rfl rfl (by kernel_rfl) ?_;refine qE 6 rfl rfl rfl (by kernel_rfl) ?_;refine zai (by first|omega|assumption|decide|(simp only [zds];omega)|(simp <;> omega)) ?_;refine qE 8 rfl rfl rfl (by kernel_rfl) ?_;refine qE 9 rfl rfl rfl (by kernel_rfl) ?_;refine qE 10 rfl rfl rfl (by kernel_rfl) ?_;refine zai (by first|omega|assumption|decide|(simp only [zds];omega)|(simp <;> omega)) ?_;refine qC [7,11] (by kernel_rfl) rfl ?_;refine zai ?_ ?_
   ·refine zai (by omega) ?_;refine qC [11] (by kernel_rfl) rfl ?_;refine zai (by omega) ?_;refine qE 12 rfl rfl rfl (by kernel_rfl) ?_;refine zai (by first|omega|assumption|decide|(simp only [zds];omega)|(simp <;> omega)) ?_;refine qC [13] (by kernel_rfl) rfl ?_;refine zai (by omega) ?_;refine qE 14 rfl rfl rfl (by kernel_rfl) ?_;refine zai (by first|omega|assumption|decide|(simp only [Int.toNat_natCast,qI,qG];omega)|(simp <;> omega)) ?_;refine qC [15] (by kernel_rfl) rfl ?_;refine zai (by (try simp only [List.length_set]);omega) ?_;refine qK (by kernel_rfl) ?_;refine qB ?_;refine zai (by first|omega|assumption|decide|(simp only [zds];omega)|(simp <;> omega)) ?_;refine zai (by first|omega|assumption|decide|(simp only [zds];omega)|(simp <;> omega)) ?_;exact ⟨(p.1 + 1,(p.2.set p.1 (p.2.getD (xs.length - 1 - p.1) ((0 : Int),(0 : Int),([] : List Fld)))).set (xs.length - 1 - p.1) (p.2.getD p.1 ((0 : Int),(0 : Int),([] : List Fld)))),⟨hst,by show p.1 + 1 ≤ xs.length;omega⟩,by first|omega|(simp <;> omega),qP ⟨rfl,(yH (by omega)),(yH (by omega))⟩ ⟨rfl,(qS (by rw [show ((xs.length : Int) - 1 - (p.1 : Int)).toNat = xs.length - 1 - p.1 by omega];try exact rfl))⟩ rfl⟩
   ·refine zai (by omega) ?_;refine qC [7] (by kernel_rfl) rfl ?_;refine zai (by omega) ?_;refine qE 12 rfl rfl rfl (by kernel_rfl) ?_;refine zai (by first|omega|assumption|decide|(simp only [zds];omega)|(simp <;> omega)) ?_;refine qC [13] (by kernel_rfl) rfl ?_;refine zai (by omega) ?_;refine qE 14 rfl rfl rfl (by kernel_rfl) ?_;refine zai (by first|omega|assumption|decide|(simp only [Int.toNat_natCast,qI,qG];omega)|(simp <;> omega)) ?_;refine qC [15] (by kernel_rfl) rfl ?_;refine zai (by (try simp only [List.length_set]);omega) ?_;refine qK (by kernel_rfl) ?_;refine qB ?_;refine zai (by first|omega|assumption|decide|(simp only [zds];omega)|(simp <;> omega)) ?_;refine zai (by first|omega|assumption|decide|(simp only [zds];omega)|(simp <;> omega)) ?_;exact ⟨(p.1 + 1,(p.2.set p.1 (p.2.getD (xs.length - 1 - p.1) ((0 : Int),(0 : Int),([] : List Fld)))).set (xs.length - 1 - p.1) (p.2.getD p.1 ((0 : Int),(0 : Int),([] : List Fld)))),⟨hst,by show p.1 + 1 ≤ xs.length;omega⟩,by first|omega|(simp <;> omega),qP ⟨rfl,(yH (by omega)),(yH (by omega))⟩ ⟨rfl,(qS (by rw [show ((xs.length : Int) - 1 - (p.1 : Int)).toNat = xs.length - 1 - p.1 by omega];try exact rfl))⟩ rfl⟩
  ·try simp only [decide_eq_false_iff_not,Int.not_lt] at h9
   try simp only [zds] at h9
   refine yA ?_;have e1 : p.2 = xs.reverse:=rev_end hI (by omega);exact ⟨rfl,⟨rfl,qS e1⟩,rfl⟩
def itE (κ : Nat) (l : List Edt) : List (List A):=(List.range l.length).map fun j=>[ii .i64 ((l.length - 1 - j : Nat) : Int),.agg (toL (rEdk κ) (l.getD (l.length - 1 - j) ((0 : Int),(0 : Int),([] : List Fld))))]
theorem itE_len (κ : Nat) (l : List Edt) : (itE κ l).length = l.length:=by unfold itE;rw [List.length_map,List.length_range]
theorem itE_get (κ : Nat) (l : List Edt) {i : Nat} (h : i < (itE κ l).length) : (itE κ l)[i] = [ii .i64 ((l.length - 1 - i : Nat) : Int),.agg (toL (rEdk κ) (l.getD (l.length - 1 - i) ((0 : Int),(0 : Int),([] : List Fld))))]:=by
  simp only [itE,List.getElem_map,List.getElem_range]
theorem itE_at (κ : Nat) (l : List Edt) {p : Nat} (h : p < l.length) : ∃ hk : l.length - (p + 1) < (itE κ l).length,(itE κ l)[l.length - (p + 1)] = [ii .i64 (p : Int),.agg (toL (rEdk κ) (l.getD p ((0 : Int),(0 : Int),([] : List Fld))))]:=by
  refine ⟨by rw [itE_len];omega,?_⟩;simp only [itE,List.getElem_map,List.getElem_range];rw [show l.length - 1 - (l.length - (p + 1)) = p by omega]
theorem backE_iter {κ : Nat} (l : List Edt) : AIter Tryz.prog 106 [.one (.addr (.sl (rEdk κ)) l)] (itE κ l):=by
  refine aiter_of Tryz.func106 rfl rfl rfl teOk rfl ?_;intro ll ι Pr J U n0 hU hab hy;refine xN ?_;refine acodeY_seg hab hU rfl ?_;refine qB ?_;intro hln;have hln : l.length ≤ 9223372036854775807:=hln;refine zai (by omega) ?_;refine ⟨_,_,_,le_refl,?_⟩;refine acodeY_block ?_;refine acodeY_loop (κ:=Nat) (fun i=>i ≤ l.length) (fun i=>l.length - i) (fun i=>[(0,.one (.lit (.func (.yield ll) #[] #[]))),(1,.one (.addr (.sl (rEdk κ)) l)),(3,ii .i64 ((i : Int) - 1))]) (fun _=>[]) 0 (fun i=>i) l.length (Nat.le_refl _) hab hU (qP ⟨rfl,rfl,rfl⟩ trivial rfl) (Nat.sub_self _) ?_;intro i hi;have hi : i ≤ l.length:=hi;refine xN ?_;refine xN ?_;refine acodeY_seg hab hU rfl ?_;refine qB ?_;refine ⟨_,_,_,le_refl,?_⟩;refine acodeY_cond rfl (fun hc=>?_) (fun hc=>?_)
  ·have hc : (0 : Int) ≤ (i : Int) - 1:=of_decide_eq_true hc;obtain ⟨p,rfl⟩ : ∃ p,i = p + 1:=⟨i - 1,by omega⟩;have hpl : p < l.length:=by omega
   obtain ⟨hk,hx⟩:=itE_at κ l hpl;rw [show ((p + 1 : Nat) : Int) - 1 = (p : Int) by omega];refine acodeY_skip ?_;refine xN ?_;refine acodeY_block ?_;refine xN ?_;refine acodeY_yield (pre:=[_,_,_,_,_,_]) (post:=[_]) _ rfl rfl rfl hab hU hy hk ?_;refine zai (by first|omega|(simp only [Int.toNat_natCast];omega)) ?_;refine ⟨_,_,_,le_refl,rfl,?_,by rw [hx];rfl,?_⟩
   ·rw [hx];rfl
   ·intro st;refine ⟨_,_,_,le_refl,?_⟩;refine acodeY_cond rfl (fun ht=>?_) (fun ht=>?_)
    ·refine acodeY_ret ?_;rw [Bool.not_not] at ht;subst ht;exact ⟨.inl rfl,fun e=>by cases e⟩
    ·rw [Bool.not_not] at ht;subst ht;refine acodeY_skip ?_;refine acodeY_seg hab hU rfl ?_;refine qB ?_;refine zai (by omega) ?_;refine ⟨_,_,_,?_,⟨p,by omega,Nat.lt_succ_self _,rfl,by omega,rfl,rfl,rfl⟩⟩;exact qP ⟨rfl,rfl,rfl⟩ trivial rfl
  ·have hc : ¬ (0 : Int) ≤ (i : Int) - 1:=of_decide_eq_false hc;refine acodeY_exit ?_;exact ⟨.inr rfl,fun _=>by rw [itE_len];omega⟩
def tyE (κ : Nat) : TyI:=⟨.slice 31,1,24,[.slice none 0 0],some ⟨_,.sl (rEdk κ)⟩,false⟩
theorem teE_ok (κ : Nat) : TEok Tryz.prog [(22,tyE κ)]:=by
  intro p hp;rw [List.mem_singleton.1 hp];exact qT (by kernel_rfl) Tryz.underlying22 rfl rfl rfl (fun _ _ h=>by cases h;rfl) (fun h=>by cases h)
theorem backE_c0 (l : List Edt) : yB Tryz.prog 64 [.one (.sl (rEdk 0) l)] (.one (.clo 106 (.addr (.sl (rEdk 0)) l))):=by
  refine qZ (rs:=[2]) Tryz.func64 rfl rfl rfl teOk rfl ?_;refine qD ?_;refine qB ?_;refine qD ?_;refine qB ?_;refine acode_frz [0] ?_;refine qN ?_;rfl
theorem backE_c3 (l : List Edt) : yB Tryz.prog 64 [.one (.sl (rEdk 3) l)] (.one (.clo 106 (.addr (.sl (rEdk 3)) l))):=by
  refine qZ (rs:=[2]) Tryz.func64 rfl rfl rfl (teE_ok 3) rfl ?_;refine qD ?_;refine qB ?_;refine qD ?_;refine qB ?_;refine acode_frz [0] ?_;refine qN ?_;rfl
end Q
end Ab
end Go.Proofs.YtojipboabgebfaaGreatDoor
namespace Go.Proofs.YtojipboabgebfaaGreatDoor
open Go.RowKit
namespace Ab
set_option maxRecDepth 100000
namespace Q
set_option maxHeartbeats 8000000 in
theorem squeeze_c {κ κ' : Nat} (next : Int) (s : List Edt) (hf : ∀ e ∈ s,e.2.2.length ≤ 1000000) (hl : s.length ≤ 100000) : yB Tryz.prog 11 [ii .i64 next,.one (.slk κ (rEdk κ') s)] (.one (.sl rEdt (sqz next s))):=by
  refine qZ (rs:=[4]) Tryz.func11 rfl rfl rfl teOk rfl ?_;refine qD ?_;refine qB ?_;refine qD ?_;refine qD ?_;refine qB ?_;refine zai (fun h=>trivial) ?_;refine zai (fun h=>⟨⟨h,trivial⟩,trivial⟩) ?_;refine zai (by first|(intro h;rw [h];rfl)|(intro h;cases h)) ?_;refine qM rfl (fun h18=>?_) (fun h18=>?_)
  ·try simp only [decide_eq_true_eq,Bool.or_eq_true] at h18
   try simp only [zds] at h18
   refine qD ?_;refine qB ?_;refine yU 4 31 (rEdk 0) rfl ?_;refine qN ?_;rw [sqz_no (by omega)];exact rfl
  ·try simp only [decide_eq_false_iff_not,Bool.or_eq_false_iff,Int.not_lt] at h18
   try simp only [zds] at h18
   refine qO ?_;refine qD ?_;refine qB ?_;refine qD ?_;refine qD ?_;refine qB ?_;intro l4_1
   try simp only [zds] at l4_1
   refine qQ ?_;refine qY (fun (i : Nat)=>i ≤ s.length) (fun (i : Nat)=>[(1,.one (.slk κ (rEdk κ') s)),(5,.one (.own 2 0)),(24,.one (.slk κ (rEdk κ') s)),(25,ii .i64 s.length),(26,ii .i64 i)]) (fun (i : Nat)=>[(0,.map true (rFt 0) []),(1,.box 112 [.mp 0,.lit (.int .i64 next),.lit (.int .i64 (next + (insC (s.take i) : Int)))]),(2,.box 109 [.own 1 0])]) 3 (fun (i : Nat)=>s.length - i) 0 (Nat.zero_le _) (qP ⟨rfl,rfl,rfl,rfl,rfl⟩ ⟨rfl,((by rw [show next + (insC (s.take 0) : Int) = next by simp [insC]];try exact rfl)),rfl⟩ rfl) ?_;intro i hI0;refine qD ?_;refine qB ?_;refine qD ?_;refine qM rfl (fun h27=>?_) (fun h27=>?_)
   ·try simp only [decide_eq_true_eq] at h27
    try simp only [zds] at h27
    have hil : i < s.length:=(by omega);have hsn:=insC_snoc hil;have hle:=insC_le (s.take i);rw [List.length_take] at hle;refine qO ?_;refine qD ?_;refine qQ ?_;refine qD ?_;refine qB ?_;refine zai (by first|omega|assumption|decide|(simp only [zds];omega)|(simp <;> omega)) ?_;refine qD ?_;refine qB ?_;refine qM rfl (fun h32=>?_) (fun h32=>?_)
    ·try simp only [decide_eq_true_eq] at h32
     try simp only [Int.toNat_natCast,qI,qG] at h32
     have h32 : (s.getD i ((0 : Int),(0 : Int),([] : List Fld))).1 = 3:=h32;rw [if_pos h32] at hsn;refine qB ?_;refine zai (by first|omega|assumption|decide|(simp only [zds];omega)|(simp <;> omega)) ?_;refine qB ?_;refine zai (by first|omega|assumption|decide|(simp only [zds];omega)|(simp <;> omega)) ?_;exact ⟨i + 1,by omega,by first|omega|(simp <;> omega),qP ⟨rfl,rfl,rfl,rfl,(yH (by omega))⟩ ⟨rfl,((by rw [hsn];first|rfl|(rw [show next + ((insC (s.take i) + 1 : Nat) : Int) = next + (insC (s.take i) : Int) + 1 by omega];done)|(rw [show next + ((insC (s.take i) + 1 : Nat) : Int) = next + (insC (s.take i) : Int) + 1 by omega];rfl))),rfl⟩ rfl⟩
    ·try simp only [decide_eq_false_iff_not] at h32
     try simp only [Int.toNat_natCast,qI,qG] at h32
     have h32 : ¬ (s.getD i ((0 : Int),(0 : Int),([] : List Fld))).1 = 3:=h32;rw [if_neg h32] at hsn;refine qO ?_;refine qB ?_;refine zai (by first|omega|assumption|decide|(simp only [zds];omega)|(simp <;> omega)) ?_;exact ⟨i + 1,by omega,by first|omega|(simp <;> omega),qP ⟨rfl,rfl,rfl,rfl,(yH (by omega))⟩ ⟨rfl,((by rw [hsn];first|rfl|(rw [show next + ((insC (s.take i) + 1 : Nat) : Int) = next + (insC (s.take i) : Int) + 1 by omega];done)|(rw [show next + ((insC (s.take i) + 1 : Nat) : Int) = next + (insC (s.take i) : Int) + 1 by omega];rfl))),rfl⟩ rfl⟩
   ·try simp only [decide_eq_false_iff_not,Int.not_lt] at h27
    try simp only [zds] at h27
    refine yA ?_;have hi : i = s.length:=(by omega);subst hi;refine qD ?_;refine qB ?_;refine qD ?_;refine qD ?_;refine qB ?_;refine Or.inl ?_;refine zai (rfl) ?_;refine zei _ (zai (copykE_c s hf (by omega)) ?_);refine Or.inl ?_;refine zai (rfl) ?_;refine zei _ (zai (backE_c0 s) ?_);refine qQ ?_;refine yK 3 0 31 (rEdk 0) rfl rfl rfl ?_;refine acode_range (caps:=[.one (.addr (.sl (rEdk 0)) s)]) (xs:=itE 0 s) [(5,.one (.own 2 0)),(8,.one (.own 3 0)),(43,.one (.clo 106 (.addr (.sl (rEdk 0)) s)))] 5 (fun st j (i : Nat)=>st = false ∧ i = j) (fun i=>[(0,.map true (rFt 0) (yS (s.drop (s.length - i)))),(1,.box 112 [.mp 0,.lit (.int .i64 next),.lit (.int .i64 (next + (insC (s.take (s.length - i)) : Int)))]),(2,.box 109 [.own 1 0]),(3,.box 22 [.vec 4]),(4,.vec 31 (rEdk 0) ((sqL next (next + (insC (s.take (s.length - i)) : Int)) (s.drop (s.length - i))).reverse))]) (fun _=>.ret) 0 rfl rfl (backE_iter s) (qP ⟨rfl,rfl,rfl⟩ ⟨mp_eq (by rw [Nat.sub_zero,List.drop_length];rfl),(by rw [Nat.sub_zero,List.take_length];try exact rfl),rfl,rfl,qS (by rw [Nat.sub_zero,List.drop_length];rfl)⟩ rfl) ⟨rfl,rfl⟩ (fun j hj=>by simp [itE]) rfl rfl rfl (fun _ _ _=>rfl) rfl ?_ ?_ ?_
    ·intro j i hk hp;obtain ⟨_,rfl⟩:=hp;have hx:=itE_get 0 s hk;rw [itE_len] at hk;rw [hx];obtain ⟨eA,eB,eC⟩:=sq_back next s hk;have hle:=insC_le (s.take (s.length - i));rw [List.length_take] at hle;have hsl:=sqL_le next (next + (insC (s.take (s.length - i)) : Int)) (s.drop (s.length - i));rw [List.length_drop] at hsl;refine qB ?_;refine qQ ?_;refine qD ?_;refine qB ?_;refine Or.inr (Or.inl (zei [] (zei [1,0] (zei _ (zei _ (zei _ (zei _ (zei _ (zai (keep_o0 next (next + (insC (s.take (s.length - i)) : Int)) (yS (s.drop (s.length - i))) (s.getD (s.length - 1 - i) ((0 : Int),(0 : Int),([] : List Fld))) (fun _=>⟨by omega,by omega⟩)) (zai rfl (zai (zai (zai rfl rfl) (zai (zai rfl rfl) True.intro)) (zai rfl ?_))))))))))));refine qD ?_;refine qB ?_;refine qM rfl (fun h52=>?_) (fun h52=>?_)
     ·try simp only [zbq] at h52
      try simp only [zds] at h52
      rw [if_pos (by simpa using h52)] at eC;refine qB ?_;refine zai (by exact qR (show (sqL next (next + (insC (s.take (s.length - i)) : Int)) (s.drop (s.length - i))).reverse.length + 1 ≤ 1000000000 by rw [List.length_reverse];omega) (by decide)) ?_;exact ⟨i + 1,⟨rfl,rfl⟩,qP trivial ⟨mp_eq (by rw [eA]),(by rw [eB];try exact rfl),rfl,rfl,qS (by rw [eC];try exact rfl)⟩ rfl⟩
     ·try simp only [zbq] at h52
      try simp only [zds] at h52
      rw [if_neg (by simpa using h52),List.append_nil] at eC;refine qO ?_;exact ⟨i + 1,⟨rfl,rfl⟩,qP trivial ⟨mp_eq (by rw [eA]),(by rw [eB];try exact rfl),rfl,rfl,qS (by rw [eC];try exact rfl)⟩ rfl⟩
    ·intro i hp;obtain ⟨_,rfl⟩:=hp;rw [itE_len,Nat.sub_self,List.drop_zero];have e0 : next + (insC (s.take 0) : Int) = next:=(by simp [insC]);rw [e0];have hsl:=sqL_le next next s;refine qD ?_;refine qB ?_;refine Or.inr (Or.inl (zei [] (zei [3,4] (zei _ (zei _ (zei _ (zei _ (zei _ (zai (revE_o0 (sqL next next s).reverse (by rw [List.length_reverse];omega)) (zai rfl (zai (zai (zai rfl rfl) (zai (zai rfl rfl) True.intro)) (zai rfl ?_))))))))))));refine qD ?_;refine qB ?_;refine qN ?_;rw [sqz_yes (by omega)];rw [List.reverse_reverse];exact rfl
    ·intro j i hp;exact absurd hp.1 (by decide)
set_option maxHeartbeats 8000000 in
theorem squeeze3_o {κ κ' : Nat} (next : Int) (s : List Edt) (hf : ∀ e ∈ s,e.2.2.length ≤ 1000000) (hl : s.length ≤ 100000) : qW Tryz.prog 11 [ii .i64 next,.one (.slk κ (rEdk κ') s)] [] 0 (.one (.vec 0)) [(0,.vec 31 (rEdk 3) (sqz next s))] 1:=by
  refine qU (rs:=[4]) Tryz.func11 rfl rfl rfl (mapTe_ok (q:=3) teOk) (by decide) rfl ?_;refine qD ?_;refine qB ?_;refine qD ?_;refine qD ?_;refine qB ?_;refine zai (fun h=>trivial) ?_;refine zai (fun h=>⟨⟨h,trivial⟩,trivial⟩) ?_;refine zai (by first|(intro h;rw [h];rfl)|(intro h;cases h)) ?_;refine qM rfl (fun h18=>?_) (fun h18=>?_)
  ·try simp only [decide_eq_true_eq,Bool.or_eq_true] at h18
   try simp only [zds] at h18
   refine qD ?_;refine qB ?_;refine yU 4 31 (rEdk 3) rfl ?_;refine qN ?_;rw [sqz_no (by omega)];exact ⟨rfl,rfl,rfl⟩
  ·try simp only [decide_eq_false_iff_not,Bool.or_eq_false_iff,Int.not_lt] at h18
   try simp only [zds] at h18
   refine qO ?_;refine qD ?_;refine qB ?_;refine qD ?_;refine qD ?_;refine qB ?_;intro l4_1
   try simp only [zds] at l4_1
   refine qQ ?_;refine qY (fun (i : Nat)=>i ≤ s.length) (fun (i : Nat)=>[(1,.one (.slk κ (rEdk κ') s)),(5,.one (.own 2 0)),(24,.one (.slk κ (rEdk κ') s)),(25,ii .i64 s.length),(26,ii .i64 i)]) (fun (i : Nat)=>[(0,.map true (rFt 3) []),(1,.box 112 [.mp 0,.lit (.int .i64 next),.lit (.int .i64 (next + (insC (s.take i) : Int)))]),(2,.box 109 [.own 1 0])]) 3 (fun (i : Nat)=>s.length - i) 0 (Nat.zero_le _) (qP ⟨rfl,rfl,rfl,rfl,rfl⟩ ⟨rfl,((by rw [show next + (insC (s.take 0) : Int) = next by simp [insC]];try exact rfl)),rfl⟩ rfl) ?_;intro i hI0;refine qD ?_;refine qB ?_;refine qD ?_;refine qM rfl (fun h27=>?_) (fun h27=>?_)
   ·try simp only [decide_eq_true_eq] at h27
    try simp only [zds] at h27
    have hil : i < s.length:=(by omega);have hsn:=insC_snoc hil;have hle:=insC_le (s.take i);rw [List.length_take] at hle;refine qO ?_;refine qD ?_;refine qQ ?_;refine qD ?_;refine qB ?_;refine zai (by first|omega|assumption|decide|(simp only [zds];omega)|(simp <;> omega)) ?_;refine qD ?_;refine qB ?_;refine qM rfl (fun h32=>?_) (fun h32=>?_)
    ·try simp only [decide_eq_true_eq] at h32
     try simp only [Int.toNat_natCast,qI,qG] at h32
     have h32 : (s.getD i ((0 : Int),(0 : Int),([] : List Fld))).1 = 3:=h32;rw [if_pos h32] at hsn;refine qB ?_;refine zai (by first|omega|assumption|decide|(simp only [zds];omega)|(simp <;> omega)) ?_;refine qB ?_;refine zai (by first|omega|assumption|decide|(simp only [zds];omega)|(simp <;> omega)) ?_;exact ⟨i + 1,by omega,by first|omega|(simp <;> omega),qP ⟨rfl,rfl,rfl,rfl,(yH (by omega))⟩ ⟨rfl,((by rw [hsn];first|rfl|(rw [show next + ((insC (s.take i) + 1 : Nat) : Int) = next + (insC (s.take i) : Int) + 1 by omega];done)|(rw [show next + ((insC (s.take i) + 1 : Nat) : Int) = next + (insC (s.take i) : Int) + 1 by omega];rfl))),rfl⟩ rfl⟩
    ·try simp only [decide_eq_false_iff_not] at h32
     try simp only [Int.toNat_natCast,qI,qG] at h32
     have h32 : ¬ (s.getD i ((0 : Int),(0 : Int),([] : List Fld))).1 = 3:=h32;rw [if_neg h32] at hsn;refine qO ?_;refine qB ?_;refine zai (by first|omega|assumption|decide|(simp only [zds];omega)|(simp <;> omega)) ?_;exact ⟨i + 1,by omega,by first|omega|(simp <;> omega),qP ⟨rfl,rfl,rfl,rfl,(yH (by omega))⟩ ⟨rfl,((by rw [hsn];first|rfl|(rw [show next + ((insC (s.take i) + 1 : Nat) : Int) = next + (insC (s.take i) : Int) + 1 by omega];done)|(rw [show next + ((insC (s.take i) + 1 : Nat) : Int) = next + (insC (s.take i) : Int) + 1 by omega];rfl))),rfl⟩ rfl⟩
   ·try simp only [decide_eq_false_iff_not,Int.not_lt] at h27
    try simp only [zds] at h27
    refine yA ?_;have hi : i = s.length:=(by omega);subst hi;refine qD ?_;refine qB ?_;refine qD ?_;refine qD ?_;refine qB ?_;refine Or.inr (Or.inl (zei [] (zei [] (zei _ (zei _ (zei _ (zei _ (zei _ (zai (copykE3_o s hf (by omega)) (zai rfl (zai True.intro (zai rfl ?_))))))))))));refine Or.inl ?_;refine zai (rfl) ?_;refine zei _ (zai (backE_c3 s) ?_);refine qQ ?_;refine yK 3 0 31 (rEdk 3) rfl rfl rfl ?_;refine acode_free 4 5 rfl rfl rfl rfl ?_;refine acode_range (caps:=[.one (.addr (.sl (rEdk 3)) s)]) (xs:=itE 3 s) [(5,.one (.own 2 0)),(8,.one (.own 3 0)),(43,.one (.clo 106 (.addr (.sl (rEdk 3)) s)))] 5 (fun st j (i : Nat)=>st = false ∧ i = j) (fun i=>[(0,.map true (rFt 3) (yS (s.drop (s.length - i)))),(1,.box 112 [.mp 0,.lit (.int .i64 next),.lit (.int .i64 (next + (insC (s.take (s.length - i)) : Int)))]),(2,.box 109 [.own 1 0]),(3,.box 22 [.vec 4]),(4,.vec 31 (rEdk 3) ((sqL next (next + (insC (s.take (s.length - i)) : Int)) (s.drop (s.length - i))).reverse))]) (fun _=>.ret) 0 rfl rfl (backE_iter s) (qP ⟨rfl,rfl,rfl⟩ ⟨mp_eq (by rw [Nat.sub_zero,List.drop_length];rfl),(by rw [Nat.sub_zero,List.take_length];try exact rfl),rfl,rfl,qS (by rw [Nat.sub_zero,List.drop_length];rfl)⟩ rfl) ⟨rfl,rfl⟩ (fun j hj=>by simp [itE]) rfl rfl rfl (fun _ _ _=>rfl) rfl ?_ ?_ ?_
    ·intro j i hk hp;obtain ⟨_,rfl⟩:=hp;have hx:=itE_get 3 s hk;rw [itE_len] at hk;rw [hx];obtain ⟨eA,eB,eC⟩:=sq_back next s hk;have hle:=insC_le (s.take (s.length - i));rw [List.length_take] at hle;have hsl:=sqL_le next (next + (insC (s.take (s.length - i)) : Int)) (s.drop (s.length - i));rw [List.length_drop] at hsl;refine qB ?_;refine qQ ?_;refine qD ?_;refine qB ?_;refine Or.inr (Or.inl (zei [] (zei [1,0] (zei _ (zei _ (zei _ (zei _ (zei _ (zai (keep_o3 next (next + (insC (s.take (s.length - i)) : Int)) (yS (s.drop (s.length - i))) (s.getD (s.length - 1 - i) ((0 : Int),(0 : Int),([] : List Fld))) (fun _=>⟨by omega,by omega⟩)) (zai rfl (zai (zai (zai rfl rfl) (zai (zai rfl rfl) True.intro)) (zai rfl ?_))))))))))));refine qD ?_;refine qB ?_;refine qM rfl (fun h52=>?_) (fun h52=>?_)
     ·try simp only [zbq] at h52
      try simp only [zds] at h52
      rw [if_pos (by simpa using h52)] at eC;refine qB ?_;refine zai (by exact qR (show (sqL next (next + (insC (s.take (s.length - i)) : Int)) (s.drop (s.length - i))).reverse.length + 1 ≤ 1000000000 by rw [List.length_reverse];omega) (by decide)) ?_;exact ⟨i + 1,⟨rfl,rfl⟩,qP trivial ⟨mp_eq (by rw [eA]),(by rw [eB];try exact rfl),rfl,rfl,qS (by rw [eC];try exact rfl)⟩ rfl⟩
     ·try simp only [zbq] at h52
      try simp only [zds] at h52
      rw [if_neg (by simpa using h52),List.append_nil] at eC;refine qO ?_;exact ⟨i + 1,⟨rfl,rfl⟩,qP trivial ⟨mp_eq (by rw [eA]),(by rw [eB];try exact rfl),rfl,rfl,qS (by rw [eC];try exact rfl)⟩ rfl⟩
    ·intro i hp;obtain ⟨_,rfl⟩:=hp;rw [itE_len,Nat.sub_self,List.drop_zero];have e0 : next + (insC (s.take 0) : Int) = next:=(by simp [insC]);rw [e0];have hsl:=sqL_le next next s;refine qD ?_;refine qB ?_;refine Or.inr (Or.inl (zei [] (zei [3,4] (zei _ (zei _ (zei _ (zei _ (zei _ (zai (revE_o3 (sqL next next s).reverse (by rw [List.length_reverse];omega)) (zai rfl (zai (zai (zai rfl rfl) (zai (zai rfl rfl) True.intro)) (zai rfl ?_))))))))))));refine qD ?_;refine qB ?_;refine acode_swapB 0 4 rfl rfl rfl rfl ?_;refine qN ?_;rw [sqz_yes (by omega)];exact ⟨rfl,qS (by rw [List.reverse_reverse]),rfl⟩
    ·intro j i hp;exact absurd hp.1 (by decide)
end Q
end Ab
end Go.Proofs.YtojipboabgebfaaGreatDoor
