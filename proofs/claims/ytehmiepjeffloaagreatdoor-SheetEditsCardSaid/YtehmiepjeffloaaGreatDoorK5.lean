/-
  The texts of this proof, joined: abstract values, the library, the functions of the program and what they compute (part 5). No condition.
-/
import Derived.Shelf.Vars
import Derived.KernelRfl
import Derived.Test.YtehmiepjeffloaaGreatDoorK1
import Derived.Test.YtehmiepjeffloaaGreatDoorK2
import Derived.Test.YtehmiepjeffloaaGreatDoorK3
import Derived.Test.YtehmiepjeffloaaGreatDoorK4
namespace Go.Proofs.YtehmiepjeffloaaGreatDoor
open Go.RowKit
namespace Ab
set_option maxRecDepth 100000
set_option maxHeartbeats 4000000
namespace Q
theorem run_copy_k {P : Program} (w : World) (dT sT ty elem : TypeId) {ei : TyI} (hu : P.underlying dT = some (.slice elem)) (he : TyOk P elem ei) (g o dLen dCap : Nat) (a : Addr) (sLen sCap n : Nat) (cur : Array Value) (t : TypeId) (cs : List Value)
    (hg : w.heap[g]? = some (.cells cur t (0,0))) (hm : Nat.min sLen dLen = n) (hn : cs.length = n * ei.size) (hsrc : ∀ j v,cs[j]? = some v → w.cell? (a.add j) = some v) (hfit : o + cs.length ≤ cur.size) (h1 : ∀ v ∈ cs,v.oneCell' = true) :
    (Builtin.copy_ #[dT,sT] ty #[.slice (some ⟨g,o,none⟩) dLen dCap,.slice (some a) sLen sCap]).run P w = .ok (goInt n) (w.setRow g (cur.toList.take o ++ cs ++ cur.toList.drop (o + cs.length)).toArray):=by
  have hl:=run_loadCells_list (P:=P) w a cs hsrc;have hst:=run_storeCells_at P g o t cs 0 cur w hg (by simpa using hfit) h1;simp only [Nat.add_zero] at hst;simp [Builtin.copy_,run_underlying hu,Builtin.lenOf,Builtin.firstCells,he.sizeOf,hm,← hn,hl,hst]
def RowTo (w w' : World) (v u : Value) (n : Nat) (cs : List Value) : Prop :=
  w'.ownsRow 0 83 4 u n cs ∧ Grew w w' (blk (some v)) ∧ (∀ b,blk (some u) = some b → blk (some v) = some b ∨ (w.heap.size ≤ b ∧ b < w'.heap.size)) ∧ ∃ a n c,u = .slice a n c
theorem rowCells {w : World} {b n cap : Nat} {cs : List Value} (h : w.ownsRow 0 83 4 (.slice (some ⟨b,0,none⟩) n cap) n cs) : ∃ cur,w.heap[b]? = some (.cells cur 83 (0,0)) ∧ n ≤ cap ∧ cap ≤ maxLen ∧ cur.size = cap * 4 ∧ cur.toList.take (n * 4) = cs ∧ cs.length = n * 4:=by
  rcases h.2 with ⟨h0,_⟩|⟨g,c,cur,hsl,_,hg,hnc,hcm,hcs,htake⟩
  · cases h0
  · injection hsl with e1 e2 e3
    injection e1 with e1
    injection e1 with e1 _ _
    subst e1 e3;exact ⟨cur,hg,hnc,hcm,hcs,htake,h.1⟩
theorem ins_end (n : Nat) (v : Value) (cs ns : List Value) (vb vc : Nat) (w : World) (hown : w.ownsRow 0 83 4 v n cs) (hown2 : w.ownsRow 0 83 4 (.slice (some ⟨vb,0,none⟩) 1 vc) 1 ns) (h1 : ∀ u ∈ ns,u.oneCell' = true) (hn : n ≤ 1000000) :
    Calls Tryz.prog 42 #[v,.int .i64 n,.slice (some ⟨vb,0,none⟩) 1 vc] w fun e w'=>∃ u,e = .returned u ∧ RowTo w w' v u (n + 1) (cs ++ ns):=by
  obtain ⟨v',w',hr,h2,h3,h4,h5⟩:=Ab.run_app (P:=Tryz.prog) (w:=w) (ty:=77) Tryz.underlying77 tyEnt (by decide) hown (ad:=⟨vb,0,none⟩) (m:=1) (c:=vc) (news:=ns) hown2.1 (fun j u hj=>hown2.cells (g:=vb) rfl j u hj) h1 Nat.one_pos (by unfold maxLen;omega) (qS (show n + 1 ≤ 1000000000 by omega) (show ty83.bytes ≤ 1000 by decide));have mixed : Tryz.prog.follows .mixedOrders = true:=by kernel_rfl
  have fin : RowTo w w' v v' (n + 1) (cs ++ ns):=⟨h2,h3,h4,h5⟩;obtain ⟨va,vn,vcap,hv,hvn⟩ : ∃ a m c,v = .slice a m c ∧ m = n:=by
    rcases hown.2 with ⟨h0,hz⟩|⟨g,c,cur,hsl,_⟩
    · exact ⟨_,_,_,h0,hz.symm⟩
    · exact ⟨_,_,_,hsl,rfl⟩
  subst hvn;subst hv;have hcap : vn ≤ vcap:=by
    rcases hown.2 with ⟨h0,hz⟩|⟨g,c,cur,hsl,_,_,hnc,_⟩
    · omega
    · injection hsl with _ _ e3;omega
  clear hown hown2 h1 h2 h3 h4 h5
  by_cases hq : vcap = vn
  · subst hq
    go_enter Tryz.func42,Tryz.ntmps42
    go_wp2_with (at_builtin;refine Lib.wpList_append_run _ rfl _ _ _ _ rfl _ _ rfl rfl _ _ hr ?_)
    go_ret
    exact ⟨_,rfl,fin⟩
  · go_enter Tryz.func42,Tryz.ntmps42
    go_wp2_with (at_builtin;refine Lib.wpList_append_run _ rfl _ _ _ _ rfl _ _ rfl rfl _ _ hr ?_)
    go_ret
    exact ⟨_,rfl,fin⟩
theorem take4 {α : Type} (l : List α) (a b : Nat) (h : a ≤ b) : (l.take b).take a = l.take a:=by rw [List.take_take,Nat.min_eq_left h]
theorem ins_shift (n i : Nat) (b cap : Nat) (cs ns : List Value) (vb vc : Nat) (w : World) (hi : i < n) (hroom : n + 1 ≤ cap) (hown : w.ownsRow 0 83 4 (.slice (some ⟨b,0,none⟩) n cap) n cs) (hown2 : w.ownsRow 0 83 4 (.slice (some ⟨vb,0,none⟩) 1 vc) 1 ns) (hne : vb ≠ b) (h1 : ∀ u ∈ ns,u.oneCell' = true) (h1c : ∀ u ∈ cs,u.oneCell' = true) :
    Calls Tryz.prog 42 #[.slice (some ⟨b,0,none⟩) n cap,.int .i64 i,.slice (some ⟨vb,0,none⟩) 1 vc] w fun e w'=>∃ u,e = .returned u ∧ RowTo w w' (.slice (some ⟨b,0,none⟩) n cap) u (n + 1) (cs.take (i * 4) ++ ns ++ cs.drop (i * 4)):=by
  obtain ⟨cur,hb,hnc,hcm,hcz,htk,hcl⟩:=rowCells hown;obtain ⟨cur2,hvb,hvc,_,hcz2,htk2,hnl⟩:=rowCells hown2;have hz4 : ty83.size = 4:=rfl;have hdl : (cs.drop (i * 4)).length = (n - i) * 4:=by rw [List.length_drop,hcl];omega
  have hov : ∀ lb cb,(callFunc 70 #[.slice (some ⟨vb,0,none⟩) 1 vc,.slice (some ⟨b,(i + 1) * 4,none⟩) lb cb]).run Tryz.prog w = .ok (.value (.bool false)) w:=fun lb cb=>by
    rw [run_callFunc_extern Tryz.func70 (by kernel_rfl) (by kernel_rfl) (by kernel_rfl) (e:=Extern.SlicesOverlaps.overlaps #[77,77] #[4]) (by kernel_rfl),
      Lib.run_overlaps_apart w 77 4 83 Tryz.underlying77 4 (fun w=>tyEnt.sizeOf w) ⟨vb,0,none⟩ ⟨b,(i + 1) * 4,none⟩ 1 vc lb cb hne 83 83 cur2.size cur.size (by simp [World.shape?,hvb]) (by simp [World.shape?,hb]) (by omega) (by simp [World.frozen?,hvb]) (by simp [World.frozen?,hvb])]
    rfl
  obtain ⟨cur1,hcur1⟩ : ∃ c : Array Value,(cur.toList.take ((i + 1) * 4) ++ cs.drop (i * 4) ++ cur.toList.drop ((i + 1) * 4 + (cs.drop (i * 4)).length)).toArray = c:=⟨_,rfl⟩;have hsz1 : cur1.size = cap * 4:=by
    rw [← hcur1];simp only [List.size_toArray,List.length_append,List.length_take,hdl,List.length_drop (l:=cur.toList),Array.length_toList,hcz];omega
  have hcsrc : ∀ j v,(cs.drop (i * 4))[j]? = some v → w.cell? ⟨b,i * 4 + j,none⟩ = some v:=by
    intro j v hj;have hlt:=(List.getElem?_eq_some_iff.1 hj).1;rw [List.getElem?_drop,← htk,List.getElem?_take_of_lt (by omega)] at hj;simp only [World.cell?,hb,Option.isSome_none,Bool.false_eq_true,if_false];rw [← hj];simp
  have hcp1 : ∀ ty dc sc,(Builtin.copy_ #[77,77] ty #[.slice (some ⟨b,(i + 1) * 4,none⟩) (n - i) dc,.slice (some ⟨b,i * 4,none⟩) (n + 1 - i) sc]).run Tryz.prog w.drew = .ok (goInt ((n - i : Nat) : Int)) (w.drew.setRow b cur1):=fun ty dc sc=>by
    rw [← hcur1];exact run_copy_k w.drew _ _ ty 83 Tryz.underlying77 tyEnt b ((i + 1) * 4) (n - i) dc ⟨b,i * 4,none⟩ (n + 1 - i) sc (n - i) cur _ (cs.drop (i * 4)) hb (by simp only [Nat.min_def];split <;> omega) (by rw [hdl,hz4]) (fun j v hj=>by rw [Go.WideShapes.add_plain];exact hcsrc j v hj) (by rw [hdl,hcz];omega) (fun v hv=>h1c v (List.mem_of_mem_drop hv))
  obtain ⟨W1,hW1⟩ : ∃ W1,w.drew.setRow b cur1 = W1:=⟨_,rfl⟩;rw [hW1] at hcp1;have hb1 : W1.heap[b]? = some (.cells cur1 83 (0,0)):=by rw [← hW1];exact setRow_heap w.drew b cur cur1 _ _ hb
  have hvb1 : W1.heap[vb]? = w.heap[vb]?:=by rw [← hW1];exact setRow_other w.drew b vb _ hne
  obtain ⟨curn,hcurn⟩ : ∃ c : Array Value,(cur1.toList.take (i * 4) ++ ns ++ cur1.toList.drop (i * 4 + ns.length)).toArray = c:=⟨_,rfl⟩;have hszn : curn.size = cap * 4:=by
    rw [← hcurn];simp only [List.size_toArray,List.length_append,List.length_take,hnl,List.length_drop,Array.length_toList,hsz1];omega
  have hcp2 : ∀ (W : World),(∀ k : Nat,W.heap[k]? = W1.heap[k]?) → ∀ ty dc,(Builtin.copy_ #[77,77] ty #[.slice (some ⟨b,i * 4,none⟩) (n + 1 - i) dc,.slice (some ⟨vb,0,none⟩) 1 vc]).run Tryz.prog W = .ok (goInt 1) (W.setRow b curn):=fun W hW ty dc=>by
    rw [← hcurn];exact run_copy_k W _ _ ty 83 Tryz.underlying77 tyEnt b (i * 4) (n + 1 - i) dc ⟨vb,0,none⟩ 1 vc 1 cur1 _ ns (by rw [hW];exact hb1) (by simp only [Nat.min_def];split <;> omega) (by rw [hnl,hz4]) (fun j v hj=>by
      rw [Go.WideShapes.add_plain];have h0:=hown2.cells (g:=vb) rfl j v hj;rw [Go.WideShapes.add_plain] at h0;rw [← h0];simp only [World.cell?,hW,hvb1]) (by rw [hnl,hsz1];omega) h1
  have hrow : curn.toList.take ((n + 1) * 4) = cs.take (i * 4) ++ ns ++ cs.drop (i * 4):=by
    rw [← hcurn];have e1 : cur1.toList.take (i * 4) = cs.take (i * 4):=by
      rw [← hcur1,List.append_assoc,List.take_append_of_le_length (by simp only [List.length_take,Array.length_toList,hcz];omega),take4 _ _ _ (by omega),← htk,take4 _ _ _ (by omega)]
    have e2 : cur1.toList.drop (i * 4 + ns.length) = cs.drop (i * 4) ++ cur.toList.drop ((i + 1) * 4 + (cs.drop (i * 4)).length):=by
      rw [← hcur1,hnl,List.append_assoc,show i * 4 + 1 * 4 = (cur.toList.take ((i + 1) * 4)).length by simp only [List.length_take,Array.length_toList,hcz];omega,List.drop_left]
    rw [e1,e2,← List.append_assoc,List.take_append_of_le_length (by simp only [List.length_append,List.length_take,hcl,hnl,hdl];omega),List.take_of_length_le (by simp only [List.length_append,List.length_take,hcl,hnl,hdl];omega)]
  have fin : ∀ W : World,(∀ k : Nat,W.heap[k]? = W1.heap[k]?) → W.heap.size = W1.heap.size → W.os = W1.os → W.tape = W1.tape → W.output = W1.output → RowTo w (W.setRow b curn) (.slice (some ⟨b,0,none⟩) n cap) (.slice (some ⟨b,0,none⟩) (n + 1) cap) (n + 1) (cs.take (i * 4) ++ ns ++ cs.drop (i * 4)):=by
    intro W hW hs ho ht hu;refine ⟨⟨by simp only [List.length_append,List.length_take,hcl,hnl,hdl];omega,.inr ⟨b,cap,curn,rfl,Nat.zero_le _,setRow_heap W b cur1 curn _ _ (by rw [hW];exact hb1),hroom,hcm,hszn,hrow⟩⟩,⟨?_,?_,?_,?_,?_⟩,fun _ h=>.inl h,_,_,_,rfl⟩
    · show W.os = _;rw [ho,← hW1];rfl
    · show W.tape = _;rw [ht,← hW1];rfl
    · show W.output = _;rw [hu,← hW1];rfl
    · rw [show (W.setRow b curn).heap.size = W.heap.size by simp,hs,← hW1];simp
    · intro k hk hkb;have hkb' : k ≠ b:=fun e=>hkb (by rw [e];rfl)
      rw [setRow_other W b k _ hkb',hW,← hW1];exact setRow_other w.drew b k _ hkb'
  have mixed : Tryz.prog.follows .mixedOrders = true:=by kernel_rfl
  have hz2 : ¬ ((i : Int) = (n : Int)):=by omega
  have hc63 : cap ≤ 9223372036854775807:=by unfold maxLen at hcm;omega
  have hw1 : IntKind.i64.wrap ((i : Int) + 1) = (i : Int) + 1:=by rw [IntKind.wrap_i64];omega
  have hw2 : IntKind.i64.wrap ((n : Int) + 1) = (n : Int) + 1:=by rw [IntKind.wrap_i64];omega
  have hin : i ≤ n:=by omega
  have hb1' : (0 : Int) ≤ (i : Int) + 1:=by omega
  have htn : ((i : Int) + 1).toNat = i + 1:=by omega
  have hb2 : ¬ (cap = i + 1):=by omega
  have hb4 : ¬ (cap = i):=by omega
  have hb3 : (i : Int) ≤ (n : Int) + 1:=by omega
  clear hcur1 hcurn hW1 hown hown2 h1 h1c hcsrc hrow hdl hcl hnl htk htk2
  go_enter Tryz.func42,Tryz.ntmps42
  go_wp2_with (simp only [hov])
  go_region_law_o (refine step_copy_runI rfl _ _ 77 77 rfl _ _ (by simp [Act.eval,Act.put]) (by simp [Act.eval,Act.put]) (hcp1 _ _ _) ?_)
  go_wp2_with (at_builtin;refine wpList_copy_runI _ rfl _ _ 77 77 rfl _ _ rfl rfl (hcp2 _ (fun _=>rfl) _ _) ?_)
  go_ret
  exact ⟨_,rfl,fin _ (fun _=>rfl) rfl rfl rfl rfl⟩
theorem ins_grow (n i : Nat) (b cap : Nat) (cs ns : List Value) (vb vc : Nat) (w : World) (hi : i < n) (hroom : cap < n + 1) (hn1 : n ≤ 1000000) (hown : w.ownsRow 0 83 4 (.slice (some ⟨b,0,none⟩) n cap) n cs) (hown2 : w.ownsRow 0 83 4 (.slice (some ⟨vb,0,none⟩) 1 vc) 1 ns) (h1 : ∀ u ∈ ns,u.oneCell' = true) (h1c : ∀ u ∈ cs,u.oneCell' = true) :
    Calls Tryz.prog 42 #[.slice (some ⟨b,0,none⟩) n cap,.int .i64 i,.slice (some ⟨vb,0,none⟩) 1 vc] w fun e w'=>∃ u,e = .returned u ∧ RowTo w w' (.slice (some ⟨b,0,none⟩) n cap) u (n + 1) (cs.take (i * 4) ++ ns ++ cs.drop (i * 4)):=by
  obtain ⟨cur,hb,hnc,hcm,hcz,htk,hcl⟩:=rowCells hown;obtain ⟨cur2,hvb,hvc,_,hcz2,htk2,hnl⟩:=rowCells hown2;have hbw : b < w.heap.size:=(Array.getElem?_eq_some_iff.1 hb).1;have hvw : vb < w.heap.size:=(Array.getElem?_eq_some_iff.1 hvb).1;have hz4 : ty83.size = 4:=rfl;have hdl : (cs.drop (i * 4)).length = (n - i) * 4:=by rw [List.length_drop,hcl];omega
  obtain ⟨i0,hi0,hz0,hzb,hzz⟩:=tyEnt.info;have hkk : (n : Int) + 1 - (i : Int) = ((n + 1 - i : Nat) : Int):=by omega
  have hik : i + (n + 1 - i) = n + 1:=by omega
  have hold : (Builtin.firstCells i0.size i (.slice (some ⟨b,0,none⟩) i cap)).run Tryz.prog w.drew = .ok (cs.take (i * 4)).toArray w.drew:=by
    rw [hz0,hz4];exact run_firstCells_some w.drew 4 i ⟨b,0,none⟩ i cap (cs.take (i * 4)) (by rw [List.length_take];omega) (fun j v hj=>by
      have hlt:=(List.getElem?_eq_some_iff.1 hj).1;rw [List.length_take] at hlt;rw [List.getElem?_take_of_lt (by omega)] at hj;exact hown.cells (g:=b) rfl j v hj)
  obtain ⟨G,hG⟩ : ∃ G,grownCap w (n + 1) cap 83 = G:=⟨_,rfl⟩;obtain ⟨ROW,hROW⟩ : ∃ ROW : Array Value,(cs.take (i * 4)).toArray ++ Builtin.zeroCells ty83.zeroV.cells (n + 1 - i) ++ Builtin.zeroCells ty83.zeroV.cells (G - (n + 1)) = ROW:=⟨_,rfl⟩;have hGn : n + 1 ≤ G:=by rw [← hG];exact grownCap_ge w _ _ _
  have hGm : G ≤ maxLen:=by rw [← hG];exact grownCap_le_maxLen w (n + 1) cap _ (by unfold maxLen;omega)
  have hRs : ROW.size = G * 4:=by
    have e1:=zs_len tyEnt (n + 1 - i);have e2:=zs_len tyEnt (G - (n + 1));rw [Array.length_toList,hz4] at e1 e2;rw [← hROW];simp only [Array.size_append,List.size_toArray,List.length_take,e1,e2];omega
  have hRt : ROW.toList.take (i * 4) = cs.take (i * 4):=by
    rw [← hROW];simp only [Array.toList_append,List.append_assoc];rw [List.take_append_of_le_length (by simp only [List.length_take];omega),take4 _ _ _ (by omega)]
  have hrz : ∀ ty,(Builtin.append_ #[77,3] ty #[.slice (some ⟨b,0,none⟩) i cap,.int .i64 ((n : Int) + 1 - (i : Int))]).run Tryz.prog w = .ok (.slice (some ⟨w.heap.size,0,none⟩) (n + 1) G) (w.drew.alloc (.cells ROW 83)):=fun ty=>by
    have h:=Lib.run_append_grow_zeros w 77 3 ty 83 i0 _ .i64 .i64 Tryz.underlying77 Tryz.underlying3 hi0 hzz (some ⟨b,0,none⟩) i cap (cs.take (i * 4)) hold (n + 1 - i) (by omega) (by rw [hz0,hz4];decide) (by omega) (by omega) (by rw [hzb,show ty83.bytes = 56 from rfl];omega) (by rw [hzb,hik];exact growslice_fits hroom (qS (show n + 1 ≤ 1000000000 by omega) (show ty83.bytes ≤ 1000 by decide)));rw [hik,hG,hROW] at h;rw [hkk];exact h
  obtain ⟨W1,hW1⟩ : ∃ W1,w.drew.alloc (.cells ROW 83) = W1:=⟨_,rfl⟩;have hN1 : W1.heap[w.heap.size]? = some (.cells ROW 83 (0,0)):=by rw [← hW1];exact heap_new w.drew _
  have hO1 : ∀ k,k < w.heap.size → W1.heap[k]? = w.heap[k]?:=fun k hk=>by rw [← hW1];exact Lib.alloc_old w.drew _ k hk
  obtain ⟨curA,hcurA⟩ : ∃ c : Array Value,(ROW.toList.take (i * 4) ++ ns ++ ROW.toList.drop (i * 4 + ns.length)).toArray = c:=⟨_,rfl⟩;have hszA : curA.size = G * 4:=by
    rw [← hcurA];simp only [List.size_toArray,List.length_append,List.length_take,hnl,List.length_drop,Array.length_toList,hRs];omega
  have hcpA : ∀ (W : World),(∀ k : Nat,W.heap[k]? = W1.heap[k]?) → ∀ ty dc,(Builtin.copy_ #[77,77] ty #[.slice (some ⟨w.heap.size,i * 4,none⟩) (n + 1 - i) dc,.slice (some ⟨vb,0,none⟩) 1 vc]).run Tryz.prog W = .ok (goInt 1) (W.setRow w.heap.size curA):=fun W hW ty dc=>by
    rw [← hcurA];exact run_copy_k W _ _ ty 83 Tryz.underlying77 tyEnt w.heap.size (i * 4) (n + 1 - i) dc ⟨vb,0,none⟩ 1 vc 1 ROW _ ns (by rw [hW];exact hN1) (by simp only [Nat.min_def];split <;> omega) (by rw [hnl,hz4]) (fun j v hj=>by
      rw [Go.WideShapes.add_plain];have h0:=hown2.cells (g:=vb) rfl j v hj;rw [Go.WideShapes.add_plain] at h0;rw [← h0];simp only [World.cell?,hW,hO1 vb hvw]) (by rw [hnl,hRs];omega) h1
  obtain ⟨W2,hW2⟩ : ∃ W2,W1.setRow w.heap.size curA = W2:=⟨_,rfl⟩;have hN2 : W2.heap[w.heap.size]? = some (.cells curA 83 (0,0)):=by rw [← hW2];exact setRow_heap W1 _ ROW curA _ _ hN1
  have hO2 : ∀ k,k < w.heap.size → W2.heap[k]? = w.heap[k]?:=fun k hk=>by rw [← hW2,setRow_other W1 _ k _ (by omega)];exact hO1 k hk
  obtain ⟨curn,hcurn⟩ : ∃ c : Array Value,(curA.toList.take ((i + 1) * 4) ++ cs.drop (i * 4) ++ curA.toList.drop ((i + 1) * 4 + (cs.drop (i * 4)).length)).toArray = c:=⟨_,rfl⟩;have hszn : curn.size = G * 4:=by
    rw [← hcurn];simp only [List.size_toArray,List.length_append,List.length_take,hdl,List.length_drop (l:=curA.toList),Array.length_toList,hszA];omega
  have hcpB : ∀ (W : World),(∀ k : Nat,W.heap[k]? = W2.heap[k]?) → ∀ ty dc sc,(Builtin.copy_ #[77,77] ty #[.slice (some ⟨w.heap.size,(i + 1) * 4,none⟩) (n - i) dc,.slice (some ⟨b,i * 4,none⟩) (n - i) sc]).run Tryz.prog W = .ok (goInt ((n - i : Nat) : Int)) (W.setRow w.heap.size curn):=fun W hW ty dc sc=>by
    rw [← hcurn];exact run_copy_k W _ _ ty 83 Tryz.underlying77 tyEnt w.heap.size ((i + 1) * 4) (n - i) dc ⟨b,i * 4,none⟩ (n - i) sc (n - i) curA _ (cs.drop (i * 4)) (by rw [hW];exact hN2) (by simp only [Nat.min_def];split <;> omega) (by rw [hdl,hz4]) (fun j v hj=>by
      rw [Go.WideShapes.add_plain];rw [List.getElem?_drop] at hj;have h0:=hown.cells (g:=b) rfl _ v hj;rw [Go.WideShapes.add_plain,Nat.zero_add] at h0;rw [← h0];simp only [World.cell?,hW,hO2 b hbw]) (by rw [hdl,hszA];omega) (fun v hv=>h1c v (List.mem_of_mem_drop hv))
  have hrow : curn.toList.take ((n + 1) * 4) = cs.take (i * 4) ++ ns ++ cs.drop (i * 4):=by
    have e1 : curA.toList.take ((i + 1) * 4) = cs.take (i * 4) ++ ns:=by
      have hlen : (ROW.toList.take (i * 4) ++ ns).length = (i + 1) * 4:=by
        rw [List.length_append,List.length_take,Array.length_toList,hRs,hnl];omega
      rw [← hcurA,← hlen,List.take_left,hRt]
    rw [← hcurn,e1,List.take_append_of_le_length (by simp only [List.length_append,List.length_take,hcl,hnl,hdl];omega),List.take_of_length_le (by simp only [List.length_append,List.length_take,hcl,hnl,hdl];omega)]
  have fin : ∀ W : World,(∀ k : Nat,W.heap[k]? = W2.heap[k]?) → W.heap.size = W2.heap.size → W.os = W2.os → W.tape = W2.tape → W.output = W2.output → RowTo w (W.setRow w.heap.size curn) (.slice (some ⟨b,0,none⟩) n cap) (.slice (some ⟨w.heap.size,0,none⟩) (n + 1) G) (n + 1) (cs.take (i * 4) ++ ns ++ cs.drop (i * 4)):=by
    intro W hW hs ho ht hu;have hsz : (W.setRow w.heap.size curn).heap.size = w.heap.size + 1:=by rw [show (W.setRow w.heap.size curn).heap.size = W.heap.size by simp,hs,← hW2,← hW1];simp
    refine ⟨⟨by simp only [List.length_append,List.length_take,hcl,hnl,hdl];omega,.inr ⟨w.heap.size,G,curn,rfl,Nat.zero_le _,setRow_heap W _ curA curn _ _ (by rw [hW];exact hN2),hGn,hGm,hszn,hrow⟩⟩,⟨?_,?_,?_,by omega,?_⟩,fun b' h=>.inr ?_,_,_,_,rfl⟩
    · show W.os = _;rw [ho,← hW2,← hW1];rfl
    · show W.tape = _;rw [ht,← hW2,← hW1];rfl
    · show W.output = _;rw [hu,← hW2,← hW1];rfl
    · intro k hk _;rw [setRow_other W _ k _ (by omega),hW];exact hO2 k hk
    · cases h;exact ⟨Nat.le_refl _,by rw [hsz];exact Nat.lt_succ_self _⟩
  have mixed : Tryz.prog.follows .mixedOrders = true:=by kernel_rfl
  have hz2 : ¬ ((i : Int) = (n : Int)):=by omega
  have hz3 : (cap : Int) < (n : Int) + 1:=by omega
  have hw1 : IntKind.i64.wrap ((i : Int) + 1) = (i : Int) + 1:=by rw [IntKind.wrap_i64];omega
  have hw2 : IntKind.i64.wrap ((n : Int) + 1) = (n : Int) + 1:=by rw [IntKind.wrap_i64];omega
  have hin : i ≤ n:=by omega
  have hb1' : (0 : Int) ≤ (i : Int) + 1:=by omega
  have htn : ((i : Int) + 1).toNat = i + 1:=by omega
  have hGi : ¬ (G = i):=by omega
  have hGim : ¬ (G = i + 1):=by omega
  have hci : ¬ (cap = i):=by omega
  have hb3 : (i : Int) ≤ (n : Int):=by omega
  have hG63 : G ≤ 9223372036854775807:=by unfold maxLen at hGm;omega
  rw [← hW1] at hW2;have hA : ∀ k : Nat,((w.alloc (.cells ROW 83)).drew).heap[k]? = W1.heap[k]?:=fun k=>by rw [← hW1];rfl
  have hB : ∀ k : Nat,(((w.alloc (.cells ROW 83)).drew.setRow w.heap.size curA).drew).heap[k]? = W2.heap[k]?:=fun k=>by rw [← hW2];rfl
  have hfin:=fin _ hB (by rw [← hW2];rfl) (by rw [← hW2];rfl) (by rw [← hW2];rfl) (by rw [← hW2];rfl);have hcA:=hcpA _ hA;have hcB:=hcpB _ hB;rw [hW1] at hrz;rw [← hW1] at hrz;clear hcpA hcpB fin hA hB hkk hik hold hG hROW hRs hRt hcurA hcurn hW1 hW2 hN1 hN2 hO1 hO2 hown hown2 h1 h1c hrow hdl hcl hnl htk htk2 hroom
  go_enter Tryz.func42,Tryz.ntmps42
  go_wp2_with (first
    | (at_builtin;refine Lib.wpList_append_run _ rfl _ _ _ _ rfl _ _ rfl rfl _ _ (hrz _) ?_)
    | (at_builtin;refine wpList_copy_runI _ rfl _ _ 77 77 rfl _ _ rfl rfl (hcA _ _) ?_))
  go_region_law_o (refine step_copy_runI rfl _ _ 77 77 rfl (.slice (some ⟨w.heap.size,(i + 1) * 4,none⟩) (n - i) (G - (i + 1))) (.slice (some ⟨b,i * 4,none⟩) (n - i) (cap - i)) (by simp [Act.eval,Act.put]) (by simp [Act.eval,Act.put]) (hcB _ _ _) ?_)
  go_wp2
  go_ret
  exact ⟨_,rfl,hfin⟩
end Q
end Ab
end Go.Proofs.YtehmiepjeffloaaGreatDoor
namespace Go.Proofs.YtehmiepjeffloaaGreatDoor
open Go.RowKit
namespace Ab
set_option maxRecDepth 100000
namespace Q
theorem flat_take {n : Nat} : ∀ (css : List (List Value)) (k : Nat),(∀ c ∈ css,c.length = n) → (css.take k).flatten = css.flatten.take (k * n)
  | [],_,_=>by simp
  | c :: r,0,_=>by simp
  | c :: r,k + 1,h=>by
    have h0 : c.length = n:=h c (by simp);have ih:=flat_take r k fun d hd=>h d (by simp [hd])
    rw [List.take_succ_cons,List.flatten_cons,List.flatten_cons,ih,Nat.add_mul,Nat.one_mul,Nat.add_comm (k * n) n]
    conv=>rhs;rw [← h0]
    rw [List.take_length_add_append,h0]
theorem flat_drop {n : Nat} : ∀ (css : List (List Value)) (k : Nat),(∀ c ∈ css,c.length = n) → (css.drop k).flatten = css.flatten.drop (k * n)
  | [],_,_=>by simp
  | c :: r,0,_=>by simp
  | c :: r,k + 1,h=>by
    have h0 : c.length = n:=h c (by simp);have ih:=flat_drop r k fun d hd=>h d (by simp [hd])
    rw [List.drop_succ_cons,List.flatten_cons,ih,Nat.add_mul,Nat.one_mul,Nat.add_comm (k * n) n,← List.drop_drop,← h0,List.drop_left,h0]
section
variable {cx : Cx} {ob : Obs} {nx : Nat} {ρ : Nat → Option Value} {w w' : World}
theorem ent_lens {ok : Oks} {xs : List Ent} {css : List (List Value)} (h1 : css.length = xs.length) (h2 : ∀ i (h : i < xs.length),rEnt.is ok w (css.getD i []) xs[i]) : ∀ c ∈ css,c.length = 4:=css_lens h1 h2
theorem ent_ones {ok : Oks} {xs : List Ent} {css : List (List Value)} (h1 : css.length = xs.length) (h2 : ∀ i (h : i < xs.length),rEnt.is ok w (css.getD i []) xs[i]) : ∀ v ∈ css.flatten,v.oneCell' = true:=css_ones h1 h2
theorem row_st (hs : StOk cx [] ob nx ρ ⟨#[],[]⟩ w) {xs xs' : List Ent} (hg : getO ob 0 = some (.vec 83 rEnt xs)) {v u : Value} (hv : ρ 0 = some v) {css' : List (List Value)} (hl : css'.length = xs'.length)
    (hR : ∀ i (h : i < xs'.length),rEnt.is (okOf cx ρ ob) w (css'.getD i []) xs'[i]) (hrow : RowTo w w' v u xs'.length css'.flatten) :
    ∃ ρ',StOk cx [] (setO 0 (.vec 83 rEnt xs') (subOb 0 .any ob)) nx ρ' ⟨#[],[]⟩ w' ∧ (C.vec 0).rep (okOf cx ρ' (setO 0 (.vec 83 rEnt xs') (subOb 0 .any ob))) ρ' w' u:=by
  obtain ⟨h1,h2,h3,h4⟩:=hrow;rw [← hv] at h2;have h3' : ∀ b,blk (some u) = some b → blk (ρ 0) = some b ∨ (w.heap.size ≤ b ∧ b < w'.heap.size):=by rw [hv];exact h3
  have hkp:=okOf_swap (o':=.vec 83 rEnt xs') hs hg h2 (fun b hb=>(h3' b hb).imp (fun h=>h) (·.1));refine ⟨upd ρ 0 u,hs.swap hg h2 h3' ⟨u,yW,css',hl,fun i hi=>Rd.kept _ hkp (hR i hi),h1⟩,yW,h4⟩
end
theorem getD_app {α : Type} (a b : List α) (i : Nat) (d : α) : (a ++ b).getD i d = if i < a.length then a.getD i d else b.getD (i - a.length) d:=by
  simp only [List.getD_eq_getElem?_getD];split
  · rename_i h;rw [List.getElem?_append_left h]
  · rename_i h;rw [List.getElem?_append_right (by omega)]
theorem insert_x (xs : List Ent) (e : Ent) (i : Nat) (hi : i ≤ xs.length) (hn : xs.length ≤ 1000000) : ACallX Tryz.prog 42 [.one (.vec 0),ii .i64 i,.one (.vec 1)] [(0,.vec 83 rEnt xs),(1,.vec 83 rEnt [e])] 2 (.one (.vec 0)) [(0,.vec 83 rEnt (insE xs i e)),(1,.vec 83 rEnt [e])] 2 []:=by
  refine ⟨⟨_,Tryz.func42,rfl,rfl⟩,fun cx ρ w vs _ _ _ hs hvs=>?_⟩;obtain ⟨v,r1,rfl,⟨hv,_⟩,vi,r2,rfl,hvi,v2,r3,rfl,⟨hv2,_⟩,hr3⟩:=hvs;rw [show r3 = [] from hr3,show vi = _ from hvi];obtain ⟨v',hv',css,h1,h2,hown⟩ : ∃ v,ρ 0 = some v ∧ VecOk (okOf cx ρ [(0,.vec 83 rEnt xs),(1,.vec 83 rEnt [e])]) w v 83 rEnt xs:=hs.obs (0,.vec 83 rEnt xs) (by simp);rw [hv] at hv';obtain rfl:=Option.some.inj hv';obtain ⟨v2',hv2',ess,g1,g2,hown2⟩ : ∃ v,ρ 1 = some v ∧ VecOk (okOf cx ρ [(0,.vec 83 rEnt xs),(1,.vec 83 rEnt [e])]) w v 83 rEnt [e]:=hs.obs (1,.vec 83 rEnt [e]) (by simp);rw [hv2] at hv2';obtain rfl:=Option.some.inj hv2';obtain ⟨es,rfl⟩ : ∃ es,ess = [es]:=List.length_eq_one_iff.1 g1;have hge:=g2 0 Nat.one_pos;have hel : es.length = 4:=Rd.len rEnt hge;have hfl:=ent_lens h1 h2;have hon:=ent_ones h1 h2;have hon2:=ent_ones g1 g2;rcases id hown2.2 with ⟨_,h0⟩|⟨vb,vc,cur2,hv2e,_⟩
  · simp at h0
  have hv2e : v2 = .slice (some ⟨vb,0,none⟩) 1 vc:=hv2e;subst hv2e;rw [show ([es] : List (List Value)).flatten = es by simp] at hown2 hon2;have hrow : Calls Tryz.prog 42 #[v,.int .i64 i,.slice (some ⟨vb,0,none⟩) 1 vc] w fun e' w'=>∃ u,e' = .returned u ∧ RowTo w w' v u (xs.length + 1) (css.flatten.take (i * 4) ++ es ++ css.flatten.drop (i * 4)):=by
    have hcl : css.flatten.length = xs.length * 4:=hown.1;rcases Nat.lt_or_ge i xs.length with hlt|hge'
    · rcases id hown.2 with ⟨_,h0⟩|⟨b,cap,cur,rfl,_⟩
      · omega
      have hne : vb ≠ b:=fun e'=>hs.sep (0,.vec 83 rEnt xs) (by simp) (1,.vec 83 rEnt [e]) (by simp) Nat.zero_ne_one b (by rw [hv];rfl) (by rw [hv2,e'];rfl)
      by_cases hroom : xs.length + 1 ≤ cap
      · exact ins_shift xs.length i b cap css.flatten es vb vc w hlt hroom hown hown2 hne hon2 hon
      · exact ins_grow xs.length i b cap css.flatten es vb vc w hlt (by omega) hn hown hown2 hon2 hon
    · obtain rfl : i = xs.length:=by omega
      have:=ins_end xs.length v css.flatten es vb vc w hown hown2 hon2 hn;rw [List.take_of_length_le (by omega),List.drop_of_length_le (by omega),List.append_nil];exact this
  refine hrow.mono ?_
  rintro e' w' ⟨u,rfl,hrt⟩
  have hf : (css.take i ++ es :: css.drop i).flatten = css.flatten.take (i * 4) ++ es ++ css.flatten.drop (i * 4):=by
    rw [List.flatten_append,List.flatten_cons,flat_take css i hfl,flat_drop css i hfl,List.append_assoc]
  have hnl : xs.length + 1 = (insE xs i e).length:=by unfold insE;rw [List.length_append,List.length_cons,List.length_take,List.length_drop];omega
  rw [← hf,hnl] at hrt;obtain ⟨ρ',h3,h4⟩:=row_st (xs':=insE xs i e) hs rfl hv (by rw [← hnl];simp [h1];omega) (fun k hk=>by
    rw [← hnl] at hk;simp only [insE,getD_app,List.getElem_append,List.length_take,h1];split
    · rename_i hlt;have:=h2 k (by omega);rw [List.getElem_take];rw [List.getD_eq_getElem?_getD] at this ⊢;rw [List.getElem?_take_of_lt (by omega)];exact this
    · rename_i hlt;obtain ⟨q,hq⟩ : ∃ q,k - min i xs.length = q:=⟨_,rfl⟩;simp only [hq];cases q with
      | zero=>exact hge
      | succ q =>
        have:=h2 (i + q) (by omega);simp only [List.getElem_cons_succ,List.getD_cons_succ,List.getElem_drop];rw [List.getD_eq_getElem?_getD] at this ⊢;rw [List.getElem?_drop];exact this) hrt
  exact ⟨_,ρ',rfl,h3,h4,fun k hk=>by cases hk⟩
end Q
end Ab
end Go.Proofs.YtehmiepjeffloaaGreatDoor
namespace Go.Proofs.YtehmiepjeffloaaGreatDoor
open Go.RowKit
namespace Ab
set_option maxRecDepth 100000
namespace Q
def itEs (es : List Ent) : List (List A):=(es.filter live).map fun e=>[A.agg (toL rEnt e)]
def cntL (es : List Ent) : Nat:=(es.filter live).length
theorem cntL_snoc {es : List Ent} {i : Nat} (h : i < es.length) : cntL (es.take (i + 1)) = cntL (es.take i) + if live (es.getD i (((0 : Int),ByteArray.empty,([] : List Fld)),(0 : Int))) then 1 else 0:=by
  unfold cntL;rw [← yT (((0 : Int),ByteArray.empty,([] : List Fld)),(0 : Int)) h,List.filter_append,List.length_append]
  generalize es.getD i (((0 : Int),ByteArray.empty,([] : List Fld)),(0 : Int)) = x
  cases hk : live x <;> simp [hk]
theorem itEs_at {es : List Ent} {i : Nat} (h : i < es.length) (hl : live (es.getD i (((0 : Int),ByteArray.empty,([] : List Fld)),(0 : Int))) = true) : ∃ hk : cntL (es.take i) < (itEs es).length,(itEs es)[cntL (es.take i)] = [A.agg (toL rEnt (es.getD i (((0 : Int),ByteArray.empty,([] : List Fld)),(0 : Int))))]:=by
  obtain ⟨h1,h2⟩:=filter_at live (((0 : Int),ByteArray.empty,([] : List Fld)),(0 : Int)) es i h hl;have h1' : cntL (es.take i) < (es.filter live).length:=h1;refine ⟨by unfold itEs;rw [List.length_map];exact h1',?_⟩;have h3 : (es.filter live)[cntL (es.take i)]'h1' = es.getD i (((0 : Int),ByteArray.empty,([] : List Fld)),(0 : Int)):=(getD_get h1' (((0 : Int),ByteArray.empty,([] : List Fld)),(0 : Int))).trans h2;exact (List.getElem_map (fun e=>[A.agg (toL rEnt e)])).trans (congrArg (fun e=>[A.agg (toL rEnt e)]) h3)
theorem all_iter {k : Nat} (es : List Ent) (n m : Int) : AIter Tryz.prog 72 [.one (.ref (.adk k (rLst k) (es,n,m)))] (itEs es):=by
  refine aiter_of Tryz.func72 rfl rfl rfl teOk rfl ?_;intro l ι Pr J U n0 hU hab hy;refine yP ?_;refine yP ?_;refine xC hab hU rfl ?_;refine qB ?_;refine ⟨_,_,_,le_refl,?_⟩;refine acodeY_cond rfl (fun h6=>?_) (fun h6=>?_)
  ·simp at h6
  refine acodeY_skip ?_;refine yP ?_;refine xC hab hU rfl ?_;refine qB ?_;intro hln;have hln : es.length ≤ 9223372036854775807:=hln;refine ⟨_,_,_,le_refl,?_⟩;refine acodeY_block ?_;refine acodeY_loop (κ:=Nat) (fun i=>i ≤ es.length) (fun i=>cntL (es.take i)) (fun i=>[(0,.one (.lit (.func (.yield l) #[] #[]))),(10,.one (.slk k rEnt es)),(11,ii .i64 es.length),(12,ii .i64 i)]) (fun _=>[]) 0 (fun i=>es.length - i) 0 (Nat.zero_le _) hab hU (qP ⟨rfl,rfl,rfl,rfl⟩ trivial rfl) rfl ?_;intro i hi;have hi : i ≤ es.length:=hi;refine acodeY_lowQ hab hU ?_;refine yP ?_;refine xC hab hU rfl ?_;refine qB ?_;refine ⟨_,_,_,le_refl,?_⟩;refine yP ?_;refine acodeY_cond rfl (fun h13=>?_) (fun h13=>?_)
  ·simp only [decide_eq_true_eq] at h13;have hlt : i < es.length:=by omega
   have hsn:=cntL_snoc hlt;refine acodeY_skip ?_;refine yP ?_;refine acodeY_block ?_;refine yP ?_;refine xC hab hU rfl ?_;refine qB ?_;refine zai (by omega) ?_;refine ⟨_,_,_,le_refl,?_⟩;refine yP ?_;refine acodeY_yieldG (pre:=[_,_,_,_,_,_]) (post:=[_,_]) _ (live (es.getD i (((0 : Int),ByteArray.empty,([] : List Fld)),(0 : Int)))) rfl rfl rfl rfl rfl hab hU hy ?_;refine zai (fun _=>trivial) ?_;refine zai (fun _=>trivial) ?_;refine ⟨_,_,_,le_refl,⟨_,rfl,rfl⟩,fun hq=>?_,fun hq=>?_⟩
   ·obtain ⟨hk,hx⟩:=itEs_at hlt hq;refine ⟨hk,⟨⟨hq,trivial⟩,⟨hq,trivial⟩,trivial⟩,rfl,hx.symm,by rw [hx];rfl,fun st=>?_⟩;refine zai (fun _=>⟨⟨rfl,trivial⟩,trivial⟩) ?_;refine zai (fun h=>h) ?_;refine ⟨_,_,_,le_refl,?_⟩;refine acodeY_cond rfl (fun h24=>?_) (fun h24=>?_)
    ·have h24 : (live (es.getD i (((0 : Int),ByteArray.empty,([] : List Fld)),(0 : Int))) && !!st) = true:=h24;rw [hq,Bool.true_and,Bool.not_not] at h24;subst h24;refine acodeY_ret ?_;exact ⟨_,.inl rfl,.inl rfl,fun e=>by cases e⟩
    ·have h24 : (live (es.getD i (((0 : Int),ByteArray.empty,([] : List Fld)),(0 : Int))) && !!st) = false:=h24;rw [hq,Bool.true_and,Bool.not_not] at h24;subst h24;refine acodeY_skip ?_;refine xC hab hU rfl ?_;refine qB ?_;refine zai (by omega) ?_;refine ⟨_,_,_,qP (tm':=[(0,.one (.lit (.func (.yield l) #[] #[]))),(10,.one (.slk k rEnt es)),(11,ii .i64 es.length),(12,ii .i64 (i + 1 : Nat))]) (ob':=[]) (nx':=1) ⟨rfl,rfl,rfl,yM (by omega)⟩ trivial rfl,0,.inr rfl,⟨i + 1,hlt,by omega,rfl,?_,rfl,rfl,rfl⟩⟩;rw [hsn,if_pos hq]
   ·refine zai (fun h=>absurd (h.symm.trans hq) (by decide)) ?_;refine zai (fun h=>h) ?_;refine ⟨_,_,_,le_refl,?_⟩;refine acodeY_cond rfl (fun h24=>?_) (fun h24=>?_)
    ·have h24 : (live (es.getD i (((0 : Int),ByteArray.empty,([] : List Fld)),(0 : Int))) && _) = true:=h24;rw [hq] at h24;cases h24
    ·refine acodeY_skip ?_;refine xC hab hU rfl ?_;refine qB ?_;refine zai (by omega) ?_;refine ⟨_,_,_,qP (tm':=[(0,.one (.lit (.func (.yield l) #[] #[]))),(10,.one (.slk k rEnt es)),(11,ii .i64 es.length),(12,ii .i64 (i + 1 : Nat))]) (ob':=[]) (nx':=1) ⟨rfl,rfl,rfl,yM (by omega)⟩ trivial rfl,0,.inr rfl,⟨i + 1,hlt,by omega,rfl,?_,rfl,rfl,rfl⟩⟩;rw [hsn,if_neg (by rw [hq];decide)];rfl
  ·simp only [decide_eq_false_iff_not] at h13;refine acodeY_exit ?_;refine ⟨_,.inl rfl,.inr rfl,fun _=>?_⟩;rw [List.take_of_length_le (by omega)];simp only [itEs,List.length_map,cntL]
theorem all_c {k : Nat} (L : Lst) : qQ Tryz.prog 43 [.one (.adk k (rLst k) L)] (.one (.clo 72 (.ref (.adk k (rLst k) L)))):=by
  refine qR (rs:=[2]) Tryz.func43 rfl rfl rfl teOk rfl ?_;refine qC ?_;refine qB ?_;refine qC ?_;refine qB ?_;refine acode_frz [0] ?_;refine qL ?_;rfl
end Q
end Ab
end Go.Proofs.YtehmiepjeffloaaGreatDoor
namespace Go.Proofs.YtehmiepjeffloaaGreatDoor
open Go.RowKit
namespace Ab
set_option maxRecDepth 100000
namespace Q
theorem index_E (f : FuncId) {k : Nat} {β : Type} (S : Rd β) (y : β) (l : List Ent) (p : Ent → Bool) (hp : ∀ x ∈ l,qQ Tryz.prog f [.agg (toL rEnt x),.one (.addr S y)] (ib (p x))) : qQ Tryz.prog 67 [.one (.slk k rEnt l),.one (.clo f (.addr S y))] (ii .i64 (ixOf p l)):=by
  refine qR (rs:=[4]) Tryz.func67 rfl rfl rfl teOk rfl ?_;refine qC ?_;refine qB ?_;refine qC ?_;refine qC ?_;refine qB ?_;intro l1_1
  try simp only [zds] at l1_1
  refine qN ?_;refine qU (fun (i : Nat)=>i ≤ l.length ∧ (l.take i).any p = false) (fun (i : Nat)=>[(0,.one (.slk k rEnt l)),(1,.one (.clo f (.addr S y))),(7,ii .i64 l.length),(8,ii .i64 i)]) (fun (i : Nat)=>[]) 0 (fun (i : Nat)=>l.length - i) 0 (⟨Nat.zero_le _,rfl⟩) (qP ⟨rfl,rfl,rfl,rfl⟩ trivial rfl) ?_;intro i hI0;obtain ⟨hi,hn⟩:=hI0;refine qC ?_;refine qB ?_;refine qC ?_;refine qK rfl (fun h9=>?_) (fun h9=>?_)
  ·try simp only [decide_eq_true_eq] at h9
   try simp only [zds] at h9
   refine qM ?_;refine qC ?_;refine qN ?_;refine qC ?_;refine qB ?_;refine qC ?_;refine qB ?_;refine zai (by first|omega|assumption|decide|(simp only [zds];omega)|(simp <;> omega)) ?_;refine Or.inl ?_;refine zai (rfl) ?_;refine zei _ (zai (hp _ (yL (show i < l.length by omega) _)) ?_);refine qK rfl (fun h16=>?_) (fun h16=>?_)
   ·try simp only [zbq] at h16
    try simp only [Int.toNat_natCast,qG,qH,qE,qF] at h16
    refine qC ?_;refine qB ?_;refine qL ?_;exact yM (ixOf_at (((0 : Int),ByteArray.empty,([] : List Fld)),(0 : Int)) (by omega) hn h16).symm
   ·try simp only [zbq] at h16
    try simp only [Int.toNat_natCast,qG,qH,qE,qF] at h16
    refine qM ?_;refine qB ?_;refine zai (by first|omega|assumption|decide|(simp only [zds];omega)|(simp <;> omega)) ?_;exact ⟨i + 1,⟨by omega,by rw [take_any l p (((0 : Int),ByteArray.empty,([] : List Fld)),(0 : Int)) i (by omega),hn];exact h16⟩,by first|omega|(simp <;> omega),qP ⟨rfl,rfl,rfl,rfl⟩ trivial rfl⟩
  ·try simp only [decide_eq_false_iff_not,Int.not_lt] at h9
   try simp only [zds] at h9
   refine yC ?_;refine qC ?_;refine qB ?_;refine qL ?_;have e : i = l.length:=by omega
   subst e;rw [List.take_length] at hn;exact yM (ixOf_none hn).symm
theorem at1_c (id : Int) (e : Ent) : qQ Tryz.prog 68 [.agg (toL rEnt e),.one (.addr (.int .i64) id)] (ib (hasId id e)):=by
  refine qR (rs:=[3]) Tryz.func68 rfl rfl rfl teOk rfl ?_;refine qC ?_;refine qB ?_;refine qC ?_;refine qB ?_;refine qL ?_;rfl
theorem at_c {k : Nat} (es : List Ent) (n m id : Int) : qQ Tryz.prog 40 [.one (.adk k (rLst k) (es,n,m)),ii .i64 id] (ii .i64 (atE es id)):=by
  refine qR (rs:=[4]) Tryz.func40 rfl rfl rfl teOk rfl ?_;refine qC ?_;refine qB ?_;refine qC ?_;refine qC ?_;refine qB ?_;refine zai (fun h=>trivial) ?_;refine zai (fun h=>⟨⟨h,trivial⟩,trivial⟩) ?_;refine zai (by first|(intro h;rw [h];rfl)|(intro h;cases h)) ?_;refine qK rfl (fun h10=>?_) (fun h10=>?_)
  ·try simp only [decide_eq_true_eq,Bool.or_eq_true] at h10
   try simp only [zds] at h10
   have h10 : id < 1:=h10.elim (fun h=>by cases h) (fun h=>h);refine qC ?_;refine qB ?_;refine qL ?_;exact yM (by unfold atE;rw [if_pos h10])
  ·try simp only [decide_eq_false_iff_not,Bool.or_eq_false_iff,Int.not_lt] at h10
   try simp only [zds] at h10
   have h10 : ¬ id < 1:=(by simp at h10;omega);refine qM ?_;refine qC ?_;refine qB ?_;refine Or.inl ?_;refine zai (rfl) ?_;refine zei _ (zai (index_E _ (.int .i64) id es (hasId id) (fun x _=>at1_c id x)) ?_);refine qL ?_;exact yM (by unfold atE;rw [if_neg h10])
end Q
end Ab
end Go.Proofs.YtehmiepjeffloaaGreatDoor
namespace Go.Proofs.YtehmiepjeffloaaGreatDoor
open Go.RowKit
namespace Ab
set_option maxRecDepth 100000
namespace Q
end Q
end Ab
end Go.Proofs.YtehmiepjeffloaaGreatDoor
namespace Go.Proofs.YtehmiepjeffloaaGreatDoor
open Go.RowKit
namespace Ab
set_option maxRecDepth 100000
namespace Q
theorem pitem_ok {κ : Nat} {l : List Fld} (hl : FldsOk l) (h : (chkR l).2 = 0) : qQ Tryz.prog 41 [.one (.slk κ rFld l)] (.tup [(true,toL rItm (3,bytes (foldL l),l)),(false,[.lit .nilIface])]):=by
  refine acall_ofc (rs:=[.cell 2 81,.tmp 3]) Tryz.func41 rfl rfl rfl teOk rfl ?_;refine qC ?_;refine qB ?_;refine qC ?_;refine qB ?_;refine Or.inl ?_;refine zai (rfl) ?_;refine zei _ (zai (pstanza_ok hl h) ?_);refine qC ?_;refine qC ?_;refine qB ?_;refine qK rfl (fun h12=>?_) (fun h12=>?_)
  ·try simp only [Bool.not_eq_true'] at h12
   try simp only [zds] at h12
   cases h12
  ·try simp only [Bool.not_eq_false'] at h12
   try simp only [zds] at h12
   refine qM ?_;refine qC ?_;refine qB ?_;refine Or.inl ?_;refine zai (rfl) ?_;refine zei _ (zai (clone_c l (Nat.le_trans hl.1 (by decide))) ?_);refine qL ?_;rfl
theorem pitem_err {κ : Nat} {l : List Fld} (hl : FldsOk l) (h : (chkR l).2 ≠ 0) : qQ Tryz.prog 41 [.one (.slk κ rFld l)] (.tup [(true,[.lit (.int .i64 0),.lit (.string ⟨#[]⟩),.lit (.slice none 0 0)]),(false,[chkA l])]):=by
  have hc:=pstanza_err (κ:=κ) hl h;obtain ⟨e,he,hs⟩:=chk_bad h;rw [he] at hc ⊢;rcases hs with ⟨n,hn,rfl,_⟩|⟨i,n,hn,rfl,_⟩
  ·
    refine acall_ofc (rs:=[.cell 2 81,.tmp 3]) Tryz.func41 rfl rfl rfl teOk rfl ?_;refine qC ?_;refine qB ?_;refine qC ?_;refine qB ?_;refine Or.inl ?_;refine zai (rfl) ?_;refine zei _ (zai (hc) ?_);refine qC ?_;refine qC ?_;refine qB ?_;refine qK rfl (fun h12=>?_) (fun h12=>?_)
    ·skip
     refine qC ?_;refine qB ?_;refine qL ?_;rfl
    ·try simp only [zbq] at h12
     try simp only [zds] at h12
     cases h12
  ·
    refine acall_ofc (rs:=[.cell 2 81,.tmp 3]) Tryz.func41 rfl rfl rfl teOk rfl ?_;refine qC ?_;refine qB ?_;refine qC ?_;refine qB ?_;refine Or.inl ?_;refine zai (rfl) ?_;refine zei _ (zai (hc) ?_);refine qC ?_;refine qC ?_;refine qB ?_;refine qK rfl (fun h12=>?_) (fun h12=>?_)
    ·skip
     refine qC ?_;refine qB ?_;refine qL ?_;rfl
    ·try simp only [zbq] at h12
     try simp only [zds] at h12
     cases h12
end Q
end Ab
end Go.Proofs.YtehmiepjeffloaaGreatDoor
namespace Go.Proofs.YtehmiepjeffloaaGreatDoor
open Go.RowKit
namespace Ab
set_option maxRecDepth 100000
namespace Q
def itmOf (f : List Fld) : Itm:=(3,bytes (foldL f),f)
end Q
end Ab
end Go.Proofs.YtehmiepjeffloaaGreatDoor
namespace Go.Proofs.YtehmiepjeffloaaGreatDoor
open Go.RowKit
namespace Ab
set_option maxRecDepth 100000
namespace Q
theorem lIns_no {κ : Nat} (es : List Ent) (n m id : Int) (f : List Fld) (h : atE es id < 0) (h0 : id ≠ 0) : yI Tryz.prog 21 [.one (.own 0 0),ii .i64 id,.one (.slk κ rFld f)] (lsO (es,n,m)) 2 (.tup [(false,[.lit (.int .i64 0)]),(false,[errN 7])]) (lsO (es,n,m)) 2:=by
  refine yF (rs:=[6,7]) Tryz.func21 rfl rfl rfl teOk (by decide) rfl ?_;refine qC ?_;refine qB ?_;refine qC ?_;refine qB ?_;refine Or.inr (Or.inr (Or.inl ?_));refine zai rfl ?_;refine zei _ (zai (at_c es n m id) ?_);refine qC ?_;refine qC ?_;refine qB ?_;refine zai (fun h=>trivial) ?_;refine zai (fun h=>⟨⟨h,trivial⟩,trivial⟩) ?_;refine zai (fun h=>⟨⟨h,trivial⟩,trivial⟩) ?_;refine zai (fun h=>trivial) ?_;refine zai (fun h=>⟨⟨h,trivial⟩,trivial⟩) ?_;refine zai (fun h=>⟨⟨⟨h,trivial⟩,trivial⟩,by first|exact fun h2=>h2|(intro h2;rw [h,h2];rfl)|(intro h2;cases h2)|(intro h2;simp_all [gq])⟩) ?_;refine zai (by first|(intro h;rw [h];rfl)|(intro h;cases h)) ?_;refine qK rfl (fun h24=>?_) (fun h24=>?_)
  ·try simp only [decide_eq_true_eq,decide_eq_false_iff_not,Bool.and_eq_true,Bool.not_eq_true',Bool.or_eq_true] at h24
   try simp only [zds] at h24
   refine qC ?_;refine qB ?_;refine qL ?_;exact ⟨rfl,⟨rfl,rfl⟩,rfl⟩
  ·try simp only [decide_eq_true_eq,decide_eq_false_iff_not,Bool.not_eq_false',Bool.or_eq_false_iff,Bool.and_eq_false_iff,Int.not_lt] at h24
   try simp only [zds] at h24
   simp at h24;omega
theorem lIns_bad {κ : Nat} (es : List Ent) (n m id : Int) (f : List Fld) (h : ¬ (atE es id < 0 ∧ id ≠ 0)) (hf : FldsOk f) (hc : (chkR f).2 ≠ 0) : yI Tryz.prog 21 [.one (.own 0 0),ii .i64 id,.one (.slk κ rFld f)] (lsO (es,n,m)) 2 (.tup [(false,[.lit (.int .i64 0)]),(false,[chkA f])]) (lsO (es,n,m)) 2:=by
  have hpi:=pitem_err (κ:=κ) hf hc;obtain ⟨e,he,hs⟩:=chk_bad hc;rw [he] at hpi ⊢;rcases hs with ⟨x,hx,rfl,_⟩|⟨j,x,hx,rfl,_⟩
  ·
    refine yF (rs:=[6,7]) Tryz.func21 rfl rfl rfl teOk (by decide) rfl ?_;refine qC ?_;refine qB ?_;refine qC ?_;refine qB ?_;refine Or.inr (Or.inr (Or.inl ?_));refine zai rfl ?_;refine zei _ (zai (at_c es n m id) ?_);refine qC ?_;refine qC ?_;refine qB ?_;refine zai (fun h=>trivial) ?_;refine zai (fun h=>⟨⟨h,trivial⟩,trivial⟩) ?_;refine zai (fun h=>⟨⟨h,trivial⟩,trivial⟩) ?_;refine zai (fun h=>trivial) ?_;refine zai (fun h=>⟨⟨h,trivial⟩,trivial⟩) ?_;refine zai (fun h=>⟨⟨⟨h,trivial⟩,trivial⟩,by first|exact fun h2=>h2|(intro h2;rw [h,h2];rfl)|(intro h2;cases h2)|(intro h2;simp_all [gq])⟩) ?_;refine zai (by first|(intro h;rw [h];rfl)|(intro h;cases h)) ?_;refine qK rfl (fun h24=>?_) (fun h24=>?_)
    ·try simp only [decide_eq_true_eq,decide_eq_false_iff_not,Bool.and_eq_true,Bool.not_eq_true',Bool.or_eq_true] at h24
     try simp only [zds] at h24
     exact absurd (by simpa using h24) h
    ·try simp only [decide_eq_true_eq,decide_eq_false_iff_not,Bool.not_eq_false',Bool.or_eq_false_iff,Bool.and_eq_false_iff,Int.not_lt] at h24
     try simp only [zds] at h24
     refine qM ?_;refine qC ?_;refine qB ?_;refine Or.inl ?_;refine zai (rfl) ?_;refine zei _ (zai (hpi) ?_);refine qC ?_;refine qN ?_;refine qC ?_;refine qB ?_;refine qK rfl (fun h31=>?_) (fun h31=>?_)
     ·skip
      refine qC ?_;refine qB ?_;refine qL ?_;exact ⟨rfl,⟨rfl,rfl⟩,rfl⟩
     ·try simp only [zbq] at h31
      try simp only [zds] at h31
      cases h31
  ·
    refine yF (rs:=[6,7]) Tryz.func21 rfl rfl rfl teOk (by decide) rfl ?_;refine qC ?_;refine qB ?_;refine qC ?_;refine qB ?_;refine Or.inr (Or.inr (Or.inl ?_));refine zai rfl ?_;refine zei _ (zai (at_c es n m id) ?_);refine qC ?_;refine qC ?_;refine qB ?_;refine zai (fun h=>trivial) ?_;refine zai (fun h=>⟨⟨h,trivial⟩,trivial⟩) ?_;refine zai (fun h=>⟨⟨h,trivial⟩,trivial⟩) ?_;refine zai (fun h=>trivial) ?_;refine zai (fun h=>⟨⟨h,trivial⟩,trivial⟩) ?_;refine zai (fun h=>⟨⟨⟨h,trivial⟩,trivial⟩,by first|exact fun h2=>h2|(intro h2;rw [h,h2];rfl)|(intro h2;cases h2)|(intro h2;simp_all [gq])⟩) ?_;refine zai (by first|(intro h;rw [h];rfl)|(intro h;cases h)) ?_;refine qK rfl (fun h24=>?_) (fun h24=>?_)
    ·try simp only [decide_eq_true_eq,decide_eq_false_iff_not,Bool.and_eq_true,Bool.not_eq_true',Bool.or_eq_true] at h24
     try simp only [zds] at h24
     exact absurd (by simpa using h24) h
    ·try simp only [decide_eq_true_eq,decide_eq_false_iff_not,Bool.not_eq_false',Bool.or_eq_false_iff,Bool.and_eq_false_iff,Int.not_lt] at h24
     try simp only [zds] at h24
     refine qM ?_;refine qC ?_;refine qB ?_;refine Or.inl ?_;refine zai (rfl) ?_;refine zei _ (zai (hpi) ?_);refine qC ?_;refine qN ?_;refine qC ?_;refine qB ?_;refine qK rfl (fun h31=>?_) (fun h31=>?_)
     ·skip
      refine qC ?_;refine qB ?_;refine qL ?_;exact ⟨rfl,⟨rfl,rfl⟩,rfl⟩
     ·try simp only [zbq] at h31
      try simp only [zds] at h31
      cases h31
theorem lIns_full {κ : Nat} (es : List Ent) (n m id : Int) (f : List Fld) (h : ¬ (atE es id < 0 ∧ id ≠ 0)) (hf : FldsOk f) (hc : (chkR f).2 = 0) (hm : 400 ≤ m) : yI Tryz.prog 21 [.one (.own 0 0),ii .i64 id,.one (.slk κ rFld f)] (lsO (es,n,m)) 2 (.tup [(false,[.lit (.int .i64 0)]),(false,[errN 11])]) (lsO (es,n,m)) 2:=by
  refine yF (rs:=[6,7]) Tryz.func21 rfl rfl rfl teOk (by decide) rfl ?_;refine qC ?_;refine qB ?_;refine qC ?_;refine qB ?_;refine Or.inr (Or.inr (Or.inl ?_));refine zai rfl ?_;refine zei _ (zai (at_c es n m id) ?_);refine qC ?_;refine qC ?_;refine qB ?_;refine zai (fun h=>trivial) ?_;refine zai (fun h=>⟨⟨h,trivial⟩,trivial⟩) ?_;refine zai (fun h=>⟨⟨h,trivial⟩,trivial⟩) ?_;refine zai (fun h=>trivial) ?_;refine zai (fun h=>⟨⟨h,trivial⟩,trivial⟩) ?_;refine zai (fun h=>⟨⟨⟨h,trivial⟩,trivial⟩,by first|exact fun h2=>h2|(intro h2;rw [h,h2];rfl)|(intro h2;cases h2)|(intro h2;simp_all [gq])⟩) ?_;refine zai (by first|(intro h;rw [h];rfl)|(intro h;cases h)) ?_;refine qK rfl (fun h24=>?_) (fun h24=>?_)
  ·try simp only [decide_eq_true_eq,decide_eq_false_iff_not,Bool.and_eq_true,Bool.not_eq_true',Bool.or_eq_true] at h24
   try simp only [zds] at h24
   exact absurd (by simpa using h24) h
  ·try simp only [decide_eq_true_eq,decide_eq_false_iff_not,Bool.not_eq_false',Bool.or_eq_false_iff,Bool.and_eq_false_iff,Int.not_lt] at h24
   try simp only [zds] at h24
   refine qM ?_;refine qC ?_;refine qB ?_;refine Or.inl ?_;refine zai (rfl) ?_;refine zei _ (zai (pitem_ok hf hc) ?_);refine qC ?_;refine qN ?_;refine qC ?_;refine qB ?_;refine qK rfl (fun h31=>?_) (fun h31=>?_)
   ·try simp only [Bool.not_eq_true'] at h31
    try simp only [zds] at h31
    cases h31
   ·try simp only [Bool.not_eq_false'] at h31
    try simp only [zds] at h31
    refine qC ?_;refine qB ?_;refine qK rfl (fun h35=>?_) (fun h35=>?_)
    ·try simp only [decide_eq_true_eq] at h35
     try simp only [zds] at h35
     refine qC ?_;refine qB ?_;refine qL ?_;exact ⟨rfl,⟨rfl,rfl⟩,rfl⟩
    ·try simp only [decide_eq_false_iff_not,Int.not_le] at h35
     try simp only [zds] at h35
     omega
theorem lIns_ok {κ : Nat} (es : List Ent) (n m id : Int) (f : List Fld) (j : Nat) (hj : j ≤ es.length) (h : ¬ (atE es id < 0 ∧ id ≠ 0)) (ha : atE es id + 1 = (j : Int)) (hf : FldsOk f) (hc : (chkR f).2 = 0) (hm : 0 ≤ m ∧ m < 400) (hn : 0 ≤ n ∧ n ≤ 1000000000) (hl : es.length ≤ 1000000) : yI Tryz.prog 21 [.one (.own 0 0),ii .i64 id,.one (.slk κ rFld f)] (lsO (es,n,m)) 2 (.tup [(false,[.lit (.int .i64 n)]),(false,[.lit .nilIface])]) (lsO (insE es j (itmOf f,n),n + 1,m + 1)) 2:=by
  have hins:=insert_x es (itmOf f,n) j hj hl;rw [← ha] at hins;refine yF (rs:=[6,7]) Tryz.func21 rfl rfl rfl teOk (by decide) rfl ?_;refine qC ?_;refine qB ?_;refine qC ?_;refine qB ?_;refine Or.inr (Or.inr (Or.inl ?_));refine zai rfl ?_;refine zei _ (zai (at_c es n m id) ?_);refine qC ?_;refine qC ?_;refine qB ?_;refine zai (fun h=>trivial) ?_;refine zai (fun h=>⟨⟨h,trivial⟩,trivial⟩) ?_;refine zai (fun h=>⟨⟨h,trivial⟩,trivial⟩) ?_;refine zai (fun h=>trivial) ?_;refine zai (fun h=>⟨⟨h,trivial⟩,trivial⟩) ?_;refine zai (fun h=>⟨⟨⟨h,trivial⟩,trivial⟩,by first|exact fun h2=>h2|(intro h2;rw [h,h2];rfl)|(intro h2;cases h2)|(intro h2;simp_all [gq])⟩) ?_;refine zai (by first|(intro h;rw [h];rfl)|(intro h;cases h)) ?_;refine qK rfl (fun h24=>?_) (fun h24=>?_)
  ·try simp only [decide_eq_true_eq,decide_eq_false_iff_not,Bool.and_eq_true,Bool.not_eq_true',Bool.or_eq_true] at h24
   try simp only [zds] at h24
   exact absurd (by simpa using h24) h
  ·try simp only [decide_eq_true_eq,decide_eq_false_iff_not,Bool.not_eq_false',Bool.or_eq_false_iff,Bool.and_eq_false_iff,Int.not_lt] at h24
   try simp only [zds] at h24
   refine qM ?_;refine qC ?_;refine qB ?_;refine Or.inl ?_;refine zai (rfl) ?_;refine zei _ (zai (pitem_ok hf hc) ?_);refine qC ?_;refine qN ?_;refine qC ?_;refine qB ?_;refine qK rfl (fun h31=>?_) (fun h31=>?_)
   ·try simp only [Bool.not_eq_true'] at h31
    try simp only [zds] at h31
    cases h31
   ·try simp only [Bool.not_eq_false'] at h31
    try simp only [zds] at h31
    refine qC ?_;refine qB ?_;refine qK rfl (fun h35=>?_) (fun h35=>?_)
    ·try simp only [decide_eq_true_eq] at h35
     try simp only [zds] at h35
     omega
    ·try simp only [decide_eq_false_iff_not,Int.not_le] at h35
     try simp only [zds] at h35
     refine qM ?_;refine qC ?_;refine qB ?_;refine qC ?_;refine xM rfl ?_;refine qJ 0 rfl rfl rfl (by kernel_rfl) ?_;refine qJ 1 rfl rfl rfl (by kernel_rfl) ?_;refine qJ 2 rfl rfl rfl (by kernel_rfl) ?_;refine qJ 3 rfl rfl rfl (by kernel_rfl) ?_;refine qJ 5 rfl rfl rfl (by kernel_rfl) ?_;refine qJ 6 rfl rfl rfl (by kernel_rfl) ?_;refine zai (by first|omega|assumption|decide|(simp only [zds];omega)|(simp <;> omega)) ?_;refine qJ 8 rfl rfl rfl (by kernel_rfl) ?_;refine qI [4,7] (by kernel_rfl) rfl ?_;refine zai ?_ ?_
     ·refine qI [7] (by kernel_rfl) rfl ?_;refine qI [9] (by kernel_rfl) rfl ?_;refine qI [10] (by kernel_rfl) rfl ?_;refine qI [11] (by kernel_rfl) rfl ?_;refine Or.inr (Or.inr (Or.inr (zei [1,3] (zei [] (zei _ (zei _ (zei _ (zei _ (zei _ (zai (hins) (zai rfl (zai (zai (zai rfl rfl) (zai (zai rfl rfl) True.intro)) (zai rfl ?_)))))))))))));refine qJ 12 rfl rfl rfl (by kernel_rfl) ?_;refine qJ 13 rfl rfl rfl (by kernel_rfl) ?_;refine qI [14] (by kernel_rfl) rfl ?_;refine qO (by kernel_rfl) ?_;refine qC ?_;refine qB ?_;refine zai (by first|omega|assumption|decide|(simp only [];omega)|(simp <;> omega)) ?_;refine qC ?_;refine qB ?_;refine zai (by first|omega|assumption|decide|(simp only [];omega)|(simp <;> omega)) ?_;refine qC ?_;refine qB ?_;refine qL ?_;exact ⟨rfl,⟨rfl,rfl⟩,rfl⟩
     ·refine qI [4,9] (by kernel_rfl) rfl ?_;refine zai ?_ ?_
      ·refine qI [9] (by kernel_rfl) rfl ?_;refine qI [10] (by kernel_rfl) rfl ?_;refine qI [11] (by kernel_rfl) rfl ?_;refine Or.inr (Or.inr (Or.inr (zei [1,3] (zei [] (zei _ (zei _ (zei _ (zei _ (zei _ (zai (hins) (zai rfl (zai (zai (zai rfl rfl) (zai (zai rfl rfl) True.intro)) (zai rfl ?_)))))))))))));refine qJ 12 rfl rfl rfl (by kernel_rfl) ?_;refine qJ 13 rfl rfl rfl (by kernel_rfl) ?_;refine qI [14] (by kernel_rfl) rfl ?_;refine qO (by kernel_rfl) ?_;refine qC ?_;refine qB ?_;refine zai (by first|omega|assumption|decide|(simp only [];omega)|(simp <;> omega)) ?_;refine qC ?_;refine qB ?_;refine zai (by first|omega|assumption|decide|(simp only [];omega)|(simp <;> omega)) ?_;refine qC ?_;refine qB ?_;refine qL ?_;exact ⟨rfl,⟨rfl,rfl⟩,rfl⟩
      ·refine qI [4,10] (by kernel_rfl) rfl ?_;refine zai ?_ ?_
       ·refine qI [10] (by kernel_rfl) rfl ?_;refine qI [11] (by kernel_rfl) rfl ?_;refine Or.inr (Or.inr (Or.inr (zei [1,3] (zei [] (zei _ (zei _ (zei _ (zei _ (zei _ (zai (hins) (zai rfl (zai (zai (zai rfl rfl) (zai (zai rfl rfl) True.intro)) (zai rfl ?_)))))))))))));refine qJ 12 rfl rfl rfl (by kernel_rfl) ?_;refine qJ 13 rfl rfl rfl (by kernel_rfl) ?_;refine qI [14] (by kernel_rfl) rfl ?_;refine qO (by kernel_rfl) ?_;refine qC ?_;refine qB ?_;refine zai (by first|omega|assumption|decide|(simp only [];omega)|(simp <;> omega)) ?_;refine qC ?_;refine qB ?_;refine zai (by first|omega|assumption|decide|(simp only [];omega)|(simp <;> omega)) ?_;refine qC ?_;refine qB ?_;refine qL ?_;exact ⟨rfl,⟨rfl,rfl⟩,rfl⟩
       ·refine qI [4] (by kernel_rfl) rfl ?_;refine qI [11] (by kernel_rfl) rfl ?_;refine Or.inr (Or.inr (Or.inr (zei [1,3] (zei [] (zei _ (zei _ (zei _ (zei _ (zei _ (zai (hins) (zai rfl (zai (zai (zai rfl rfl) (zai (zai rfl rfl) True.intro)) (zai rfl ?_)))))))))))));refine qJ 12 rfl rfl rfl (by kernel_rfl) ?_;refine qJ 13 rfl rfl rfl (by kernel_rfl) ?_;refine qI [14] (by kernel_rfl) rfl ?_;refine qO (by kernel_rfl) ?_;refine qC ?_;refine qB ?_;refine zai (by first|omega|assumption|decide|(simp only [];omega)|(simp <;> omega)) ?_;refine qC ?_;refine qB ?_;refine zai (by first|omega|assumption|decide|(simp only [];omega)|(simp <;> omega)) ?_;refine qC ?_;refine qB ?_;refine qL ?_;exact ⟨rfl,⟨rfl,rfl⟩,rfl⟩
end Q
end Ab
end Go.Proofs.YtehmiepjeffloaaGreatDoor
namespace Go.Proofs.YtehmiepjeffloaaGreatDoor
open Go.RowKit
namespace Ab
set_option maxRecDepth 100000
namespace Q
theorem itEs_len (es : List Ent) : (itEs es).length = (es.filter live).length:=List.length_map _
theorem itEs_get (es : List Ent) {i : Nat} (h : i < (itEs es).length) : ∃ e ∈ es,(es.filter live).getD i (((0 : Int),ByteArray.empty,([] : List Fld)),(0 : Int)) = e ∧ i < (es.filter live).length ∧ (itEs es)[i] = [A.agg (toL rEnt e)]:=by
  have h1 : i < (es.filter live).length:=by rw [← itEs_len];exact h
  refine ⟨_,(List.mem_filter.1 (yL h1 (((0 : Int),ByteArray.empty,([] : List Fld)),(0 : Int)))).1,rfl,h1,?_⟩;exact (List.getElem_map (fun e=>[A.agg (toL rEnt e)])).trans (congrArg (fun e=>[A.agg (toL rEnt e)]) (getD_get h1 (((0 : Int),ByteArray.empty,([] : List Fld)),(0 : Int))))
def stT (es : List Ent) (i : Nat) : List Stz:=((es.filter live).take i).map stzOf
theorem stT_snoc {es : List Ent} {i : Nat} (h : i < (es.filter live).length) : stT es (i + 1) = stT es i ++ [stzOf ((es.filter live).getD i (((0 : Int),ByteArray.empty,([] : List Fld)),(0 : Int)))]:=by
  unfold stT;rw [← yT (((0 : Int),ByteArray.empty,([] : List Fld)),(0 : Int)) h,List.map_append];rfl
theorem stT_len {es : List Ent} {i : Nat} : (stT es i).length ≤ i:=by
  unfold stT;rw [List.length_map,List.length_take];omega
theorem live_len (es : List Ent) : (es.filter live).length ≤ es.length:=List.length_filter_le _ _
theorem stanzasL_c {k : Nat} (es : List Ent) (n m : Int) (hl : es.length ≤ 1000000) (hf : ∀ e ∈ es,e.1.2.2.length ≤ 1000000) : qQ Tryz.prog 22 [.one (.adk k (rLst k) (es,n,m))] (.one (.sl rStz (stzL es))):=by
  have hll:=live_len es;refine qR (rs:=[2]) Tryz.func22 rfl rfl rfl teOk rfl ?_;refine qC ?_;refine qB ?_;refine qC ?_;refine qB ?_;refine qC ?_;refine qC ?_;refine qB ?_;refine Or.inl ?_;refine zai (rfl) ?_;refine zei _ (zai (all_c (es,n,m)) ?_);refine qN ?_;refine yJ 0 0 62 rStz rfl rfl rfl ?_;refine acode_range (caps:=[.one (.ref (.adk k (rLst k) (es,n,m)))]) (xs:=itEs es) [(3,.one (.own 0 0)),(6,.one (.clo 72 (.ref (.adk k (rLst k) (es,n,m)))))] 2 (fun st j (i : Nat)=>st = false ∧ i = j) (fun i=>[(0,.box 58 [.vec 1]),(1,.vec 62 rStz (stT es i))]) (fun _=>.ret) 0 rfl rfl (all_iter es n m) (qP ⟨rfl,rfl⟩ ⟨rfl,rfl⟩ rfl) ⟨rfl,rfl⟩ (fun j hj=>by simp [itEs]) rfl rfl rfl (fun _ _ _=>rfl) rfl ?_ ?_ ?_
  ·intro j i hk hp;obtain ⟨_,rfl⟩:=hp;obtain ⟨e,he,hg,hi,hx⟩:=itEs_get es hk;rw [hx];have hsn:=stT_snoc hi;rw [hg] at hsn;have hsl:=@stT_len es i;refine qB ?_;refine qN ?_;refine xM rfl ?_;refine qJ 1 rfl rfl rfl (by kernel_rfl) ?_;refine qJ 3 rfl rfl rfl (by kernel_rfl) ?_;refine qJ 4 rfl rfl rfl (by kernel_rfl) ?_;refine qI [0,2,5] (by kernel_rfl) rfl ?_;refine zai ?_ ?_
   ·refine qI [2,5] (by kernel_rfl) rfl ?_;refine zai ?_ ?_
    ·refine qI [5] (by kernel_rfl) rfl ?_;refine qI [6] (by kernel_rfl) rfl ?_;refine Or.inl ?_;refine zai (rfl) ?_;refine zei _ (zai (clone_c e.1.2.2 (hf e he)) ?_);refine qI [7] (by kernel_rfl) rfl ?_;refine qI [8] (by kernel_rfl) rfl ?_;refine qI [9] (by kernel_rfl) rfl ?_;refine zai (by exact qS (show (stT es i).length + 1 ≤ 1000000000 by omega) (by decide)) ?_;refine qI [10] (by kernel_rfl) rfl ?_;refine qO (by kernel_rfl) ?_;exact ⟨i + 1,⟨rfl,rfl⟩,qP trivial ⟨rfl,yA (by rw [hsn];exact rfl)⟩ rfl⟩
    ·refine qI [2,6] (by kernel_rfl) rfl ?_;refine zai ?_ ?_
     ·refine qI [6] (by kernel_rfl) rfl ?_;refine Or.inl ?_;refine zai (rfl) ?_;refine zei _ (zai (clone_c e.1.2.2 (hf e he)) ?_);refine qI [7] (by kernel_rfl) rfl ?_;refine qI [8] (by kernel_rfl) rfl ?_;refine qI [9] (by kernel_rfl) rfl ?_;refine zai (by exact qS (show (stT es i).length + 1 ≤ 1000000000 by omega) (by decide)) ?_;refine qI [10] (by kernel_rfl) rfl ?_;refine qO (by kernel_rfl) ?_;exact ⟨i + 1,⟨rfl,rfl⟩,qP trivial ⟨rfl,yA (by rw [hsn];exact rfl)⟩ rfl⟩
     ·refine Or.inl ?_;refine zai (rfl) ?_;refine zei _ (zai (clone_c e.1.2.2 (hf e he)) ?_);refine qI [2] (by kernel_rfl) rfl ?_;refine qI [7] (by kernel_rfl) rfl ?_;refine qI [8] (by kernel_rfl) rfl ?_;refine qI [9] (by kernel_rfl) rfl ?_;refine zai (by exact qS (show (stT es i).length + 1 ≤ 1000000000 by omega) (by decide)) ?_;refine qI [10] (by kernel_rfl) rfl ?_;refine qO (by kernel_rfl) ?_;exact ⟨i + 1,⟨rfl,rfl⟩,qP trivial ⟨rfl,yA (by rw [hsn];exact rfl)⟩ rfl⟩
   refine zai ?_ ?_
   ·refine qI [0,5] (by kernel_rfl) rfl ?_;refine zai ?_ ?_
    ·refine qI [5] (by kernel_rfl) rfl ?_;refine qI [6] (by kernel_rfl) rfl ?_;refine Or.inl ?_;refine zai (rfl) ?_;refine zei _ (zai (clone_c e.1.2.2 (hf e he)) ?_);refine qI [7] (by kernel_rfl) rfl ?_;refine qI [8] (by kernel_rfl) rfl ?_;refine qI [9] (by kernel_rfl) rfl ?_;refine zai (by exact qS (show (stT es i).length + 1 ≤ 1000000000 by omega) (by decide)) ?_;refine qI [10] (by kernel_rfl) rfl ?_;refine qO (by kernel_rfl) ?_;exact ⟨i + 1,⟨rfl,rfl⟩,qP trivial ⟨rfl,yA (by rw [hsn];exact rfl)⟩ rfl⟩
    ·refine qI [0,6] (by kernel_rfl) rfl ?_;refine zai ?_ ?_
     ·refine qI [6] (by kernel_rfl) rfl ?_;refine Or.inl ?_;refine zai (rfl) ?_;refine zei _ (zai (clone_c e.1.2.2 (hf e he)) ?_);refine qI [7] (by kernel_rfl) rfl ?_;refine qI [8] (by kernel_rfl) rfl ?_;refine qI [9] (by kernel_rfl) rfl ?_;refine zai (by exact qS (show (stT es i).length + 1 ≤ 1000000000 by omega) (by decide)) ?_;refine qI [10] (by kernel_rfl) rfl ?_;refine qO (by kernel_rfl) ?_;exact ⟨i + 1,⟨rfl,rfl⟩,qP trivial ⟨rfl,yA (by rw [hsn];exact rfl)⟩ rfl⟩
     ·refine Or.inl ?_;refine zai (rfl) ?_;refine zei _ (zai (clone_c e.1.2.2 (hf e he)) ?_);refine qI [0,7] (by kernel_rfl) rfl ?_;refine zai ?_ ?_
      ·refine qI [7] (by kernel_rfl) rfl ?_;refine qI [8] (by kernel_rfl) rfl ?_;refine qI [9] (by kernel_rfl) rfl ?_;refine zai (by exact qS (show (stT es i).length + 1 ≤ 1000000000 by omega) (by decide)) ?_;refine qI [10] (by kernel_rfl) rfl ?_;refine qO (by kernel_rfl) ?_;exact ⟨i + 1,⟨rfl,rfl⟩,qP trivial ⟨rfl,yA (by rw [hsn];exact rfl)⟩ rfl⟩
      ·refine qI [0,8] (by kernel_rfl) rfl ?_;refine zai ?_ ?_
       ·refine qI [8] (by kernel_rfl) rfl ?_;refine qI [9] (by kernel_rfl) rfl ?_;refine zai (by exact qS (show (stT es i).length + 1 ≤ 1000000000 by omega) (by decide)) ?_;refine qI [10] (by kernel_rfl) rfl ?_;refine qO (by kernel_rfl) ?_;exact ⟨i + 1,⟨rfl,rfl⟩,qP trivial ⟨rfl,yA (by rw [hsn];exact rfl)⟩ rfl⟩
       ·refine qI [0] (by kernel_rfl) rfl ?_;refine qI [9] (by kernel_rfl) rfl ?_;refine zai (by exact qS (show (stT es i).length + 1 ≤ 1000000000 by omega) (by decide)) ?_;refine qI [10] (by kernel_rfl) rfl ?_;refine qO (by kernel_rfl) ?_;exact ⟨i + 1,⟨rfl,rfl⟩,qP trivial ⟨rfl,yA (by rw [hsn];exact rfl)⟩ rfl⟩
   ·refine qI [0,2,6] (by kernel_rfl) rfl ?_;refine zai ?_ ?_
    ·refine qI [2,6] (by kernel_rfl) rfl ?_;refine zai ?_ ?_
     ·refine qI [6] (by kernel_rfl) rfl ?_;refine Or.inl ?_;refine zai (rfl) ?_;refine zei _ (zai (clone_c e.1.2.2 (hf e he)) ?_);refine qI [7] (by kernel_rfl) rfl ?_;refine qI [8] (by kernel_rfl) rfl ?_;refine qI [9] (by kernel_rfl) rfl ?_;refine zai (by exact qS (show (stT es i).length + 1 ≤ 1000000000 by omega) (by decide)) ?_;refine qI [10] (by kernel_rfl) rfl ?_;refine qO (by kernel_rfl) ?_;exact ⟨i + 1,⟨rfl,rfl⟩,qP trivial ⟨rfl,yA (by rw [hsn];exact rfl)⟩ rfl⟩
     ·refine Or.inl ?_;refine zai (rfl) ?_;refine zei _ (zai (clone_c e.1.2.2 (hf e he)) ?_);refine qI [2] (by kernel_rfl) rfl ?_;refine qI [7] (by kernel_rfl) rfl ?_;refine qI [8] (by kernel_rfl) rfl ?_;refine qI [9] (by kernel_rfl) rfl ?_;refine zai (by exact qS (show (stT es i).length + 1 ≤ 1000000000 by omega) (by decide)) ?_;refine qI [10] (by kernel_rfl) rfl ?_;refine qO (by kernel_rfl) ?_;exact ⟨i + 1,⟨rfl,rfl⟩,qP trivial ⟨rfl,yA (by rw [hsn];exact rfl)⟩ rfl⟩
    refine zai ?_ ?_
    ·refine qI [0,6] (by kernel_rfl) rfl ?_;refine zai ?_ ?_
     ·refine qI [6] (by kernel_rfl) rfl ?_;refine Or.inl ?_;refine zai (rfl) ?_;refine zei _ (zai (clone_c e.1.2.2 (hf e he)) ?_);refine qI [7] (by kernel_rfl) rfl ?_;refine qI [8] (by kernel_rfl) rfl ?_;refine qI [9] (by kernel_rfl) rfl ?_;refine zai (by exact qS (show (stT es i).length + 1 ≤ 1000000000 by omega) (by decide)) ?_;refine qI [10] (by kernel_rfl) rfl ?_;refine qO (by kernel_rfl) ?_;exact ⟨i + 1,⟨rfl,rfl⟩,qP trivial ⟨rfl,yA (by rw [hsn];exact rfl)⟩ rfl⟩
     ·refine Or.inl ?_;refine zai (rfl) ?_;refine zei _ (zai (clone_c e.1.2.2 (hf e he)) ?_);refine qI [0,7] (by kernel_rfl) rfl ?_;refine zai ?_ ?_
      ·refine qI [7] (by kernel_rfl) rfl ?_;refine qI [8] (by kernel_rfl) rfl ?_;refine qI [9] (by kernel_rfl) rfl ?_;refine zai (by exact qS (show (stT es i).length + 1 ≤ 1000000000 by omega) (by decide)) ?_;refine qI [10] (by kernel_rfl) rfl ?_;refine qO (by kernel_rfl) ?_;exact ⟨i + 1,⟨rfl,rfl⟩,qP trivial ⟨rfl,yA (by rw [hsn];exact rfl)⟩ rfl⟩
      ·refine qI [0,8] (by kernel_rfl) rfl ?_;refine zai ?_ ?_
       ·refine qI [8] (by kernel_rfl) rfl ?_;refine qI [9] (by kernel_rfl) rfl ?_;refine zai (by exact qS (show (stT es i).length + 1 ≤ 1000000000 by omega) (by decide)) ?_;refine qI [10] (by kernel_rfl) rfl ?_;refine qO (by kernel_rfl) ?_;exact ⟨i + 1,⟨rfl,rfl⟩,qP trivial ⟨rfl,yA (by rw [hsn];exact rfl)⟩ rfl⟩
       ·refine qI [0] (by kernel_rfl) rfl ?_;refine qI [9] (by kernel_rfl) rfl ?_;refine zai (by exact qS (show (stT es i).length + 1 ≤ 1000000000 by omega) (by decide)) ?_;refine qI [10] (by kernel_rfl) rfl ?_;refine qO (by kernel_rfl) ?_;exact ⟨i + 1,⟨rfl,rfl⟩,qP trivial ⟨rfl,yA (by rw [hsn];exact rfl)⟩ rfl⟩
    ·refine Or.inl ?_;refine zai (rfl) ?_;refine zei _ (zai (clone_c e.1.2.2 (hf e he)) ?_);refine qI [0,2] (by kernel_rfl) rfl ?_;refine zai ?_ ?_
     ·refine qI [2] (by kernel_rfl) rfl ?_;refine qI [7] (by kernel_rfl) rfl ?_;refine qI [8] (by kernel_rfl) rfl ?_;refine qI [9] (by kernel_rfl) rfl ?_;refine zai (by exact qS (show (stT es i).length + 1 ≤ 1000000000 by omega) (by decide)) ?_;refine qI [10] (by kernel_rfl) rfl ?_;refine qO (by kernel_rfl) ?_;exact ⟨i + 1,⟨rfl,rfl⟩,qP trivial ⟨rfl,yA (by rw [hsn];exact rfl)⟩ rfl⟩
     ·refine qI [0,7] (by kernel_rfl) rfl ?_;refine zai ?_ ?_
      ·refine qI [7] (by kernel_rfl) rfl ?_;refine qI [8] (by kernel_rfl) rfl ?_;refine qI [9] (by kernel_rfl) rfl ?_;refine zai (by exact qS (show (stT es i).length + 1 ≤ 1000000000 by omega) (by decide)) ?_;refine qI [10] (by kernel_rfl) rfl ?_;refine qO (by kernel_rfl) ?_;exact ⟨i + 1,⟨rfl,rfl⟩,qP trivial ⟨rfl,yA (by rw [hsn];exact rfl)⟩ rfl⟩
      ·refine qI [0,8] (by kernel_rfl) rfl ?_;refine zai ?_ ?_
       ·refine qI [8] (by kernel_rfl) rfl ?_;refine qI [9] (by kernel_rfl) rfl ?_;refine zai (by exact qS (show (stT es i).length + 1 ≤ 1000000000 by omega) (by decide)) ?_;refine qI [10] (by kernel_rfl) rfl ?_;refine qO (by kernel_rfl) ?_;exact ⟨i + 1,⟨rfl,rfl⟩,qP trivial ⟨rfl,yA (by rw [hsn];exact rfl)⟩ rfl⟩
       ·refine qI [0] (by kernel_rfl) rfl ?_;refine qI [9] (by kernel_rfl) rfl ?_;refine zai (by exact qS (show (stT es i).length + 1 ≤ 1000000000 by omega) (by decide)) ?_;refine qI [10] (by kernel_rfl) rfl ?_;refine qO (by kernel_rfl) ?_;exact ⟨i + 1,⟨rfl,rfl⟩,qP trivial ⟨rfl,yA (by rw [hsn];exact rfl)⟩ rfl⟩
  ·intro i hp;obtain ⟨_,rfl⟩:=hp;refine qC ?_;refine qB ?_;refine qL ?_;rw [show stT es (itEs es).length = stzL es from by unfold stT stzL;rw [itEs_len,List.take_length]];exact rfl
  ·intro j i hp;exact absurd hp.1 (by decide)
end Q
end Ab
end Go.Proofs.YtehmiepjeffloaaGreatDoor
namespace Go.Proofs.YtehmiepjeffloaaGreatDoor
open Go.RowKit
namespace Ab
set_option maxRecDepth 100000
namespace Q
def SmallF (l : List Fld) : Prop:=∀ f ∈ l,f.1.size ≤ 1000 ∧ f.2.size ≤ 1000
structure GP (p : PSt) : Prop where
  flds : SmallF p.flds
  room : p.lns ≠ [] → p.full = false → p.flds.length < 40
  len : p.flds.length ≤ 40
  its : ∀ x ∈ p.its,SmallF x.2.2 ∧ x.2.2.length ≤ 40
theorem smallF_nil : SmallF []:=fun f hf=>by cases hf
theorem flush_gp {p q : PSt} (h : GP p) (hf : xK p = .inr q) : GP q:=by
  unfold xK at hf;split at hf
  · cases hf;exact h
  · rename_i h0;split at hf
    · cases hf
    · split at hf
      · cases hf
      · rename_i h1 h2;cases hf;have hr:=h.room h0 (by simpa using h2);refine ⟨fun f hf=>?_,fun h=>absurd rfl h,by simp only [List.length_append,List.length_cons,List.length_nil];omega,h.its⟩;rcases List.mem_append.1 hf with hf|hf
        · exact h.flds f hf
        · rw [List.mem_singleton.1 hf];rcases unf_cases (p.lns.map ls) with ⟨n,hn,e⟩|⟨k,v,e,hk,hv⟩
          · rw [e];exact ⟨by show (bytes []).size ≤ 1000;decide,by show (bytes []).size ≤ 1000;decide⟩
          · rw [e];simp only [qX];refine ⟨?_,hv⟩;unfold keyOk at hk;simp only [Bool.and_eq_true,decide_eq_true_eq] at hk;omega
theorem close_gp {q : PSt} (h : GP q) : GP (closeS q):=by
  unfold closeS;split
  · exact ⟨smallF_nil,fun _ _=>(by show 0 < 40;decide),(by show 0 ≤ 40;decide),h.its⟩
  · refine ⟨smallF_nil,fun _ _=>(by show 0 < 40;decide),(by show 0 ≤ 40;decide),fun x hx=>?_⟩;rcases List.mem_append.1 hx with hx|hx
    · exact h.its x hx
    · rw [List.mem_singleton.1 hx];exact ⟨h.flds,h.len⟩
theorem end_gp {p q : PSt} (h : GP p) (hf : endS p = .inr q) : GP q:=by
  unfold endS at hf;split at hf
  · cases hf
  · rename_i r e;cases hf;exact close_gp (flush_gp h e)
theorem begin_gp {p : PSt} (l : Lne) (h : GP p) : GP (beginS p l):=by
  refine ⟨h.flds,fun _ hf=>?_,h.len,h.its⟩;have:=h.len;unfold beginS at hf;simp only [Bool.or_eq_false_iff,decide_eq_false_iff_not] at hf;show p.flds.length < 40;omega
theorem ahead_gp {p q : PSt} {l : Lne} {k : Int} (h : GP p) (hf : xO p l k = .inr q) : GP q:=by
  unfold xO at hf;split at hf
  · split at hf
    · cases hf
    · rename_i h0;have h2 : GP { p with lns:=p.lns ++ [l.2.2.1] }:=⟨h.flds,fun _=>h.room h0,h.len,h.its⟩;split at hf
      · cases hf;exact h2
      · exact flush_gp h2 hf
  · split at hf
    · exact end_gp h hf
    · exact flush_gp h hf
theorem line_gp {p q : PSt} {l : Lne} {k : Int} (h : GP p) (hf : lineS p l k = .inr q) : GP q:=by
  unfold lineS at hf;split at hf
  · cases hf
  · split at hf
    · cases hf;refine ⟨h.flds,h.room,h.len,fun x hx=>?_⟩;rcases List.mem_append.1 hx with hx|hx
      · exact h.its x hx
      · rw [List.mem_singleton.1 hx];exact ⟨smallF_nil,by show 0 ≤ 40;decide⟩
    · split at hf
      · cases hf;have:=begin_gp l h;exact ⟨this.flds,this.room,this.len,this.its⟩
      · cases hf;exact ⟨h.flds,h.room,h.len,h.its⟩
theorem take_gp {p q : PSt} {l : Lne} (h : GP p) (hf : xF p l = .inr q) : GP q:=by
  unfold xF at hf;split at hf
  · cases hf
  · rename_i r e;exact line_gp (ahead_gp h e) hf
theorem run_gp : ∀ (L : List Lne) {p q : PSt},GP p → runS p L = .inr q → GP q
  | [],p,q,h,hf=>by
    cases hf;exact h
  | l :: r,p,q,h,hf=>by
    unfold runS at hf;split at hf
    · cases hf
    · rename_i t e;exact run_gp r (take_gp h e) hf
theorem items_small {s : ByteArray} {l : List Itm} (hp : parseS s = .inr l) : ∀ x ∈ l,SmallF x.2.2 ∧ x.2.2.length ≤ 40:=by
  unfold parseS at hp;split at hp
  · cases hp
  · rename_i p e;split at hp
    · cases hp
    · rename_i q e2;cases hp;exact (end_gp (run_gp _ ⟨smallF_nil,fun h=>absurd rfl h,by decide,fun x hx=>by cases hx⟩ e) e2).its
theorem fldsOk_of {l : List Fld} (h : SmallF l) (hl : l.length ≤ 40) : FldsOk l:=⟨by omega,fun f hf=>by have:=h f hf;omega⟩
end Q
end Ab
end Go.Proofs.YtehmiepjeffloaaGreatDoor
namespace Go.Proofs.YtehmiepjeffloaaGreatDoor
open Go.RowKit
namespace Ab
set_option maxRecDepth 100000
namespace Q
abbrev RLs:=List Ent × Int
abbrev rRL : Rd RLs:=.st (.sl rEnt) (.int .i64)
end Q
end Ab
end Go.Proofs.YtehmiepjeffloaaGreatDoor
namespace Go.Proofs.YtehmiepjeffloaaGreatDoor
open Go.RowKit
namespace Ab
set_option maxRecDepth 100000
namespace Q
def doL (L : Lst) (e : Edt) : Lst :=
  if e.1 = 1 then
    if atE L.1 e.2.1 < 0 then L else if (chkR e.2.2).2 ≠ 0 then L else (replE L.1 (atE L.1 e.2.1).toNat (itmOf e.2.2),L.2)
  else if e.1 = 2 then
    if atE L.1 e.2.1 < 0 then L else (delE L.1 (atE L.1 e.2.1).toNat,L.2.1,L.2.2 - 1)
  else if atE L.1 e.2.1 < 0 ∧ e.2.1 ≠ 0 then L else if (chkR e.2.2).2 ≠ 0 then L else if 400 ≤ L.2.2 then L else
    (insE L.1 (atE L.1 e.2.1 + 1).toNat (itmOf e.2.2,L.2.1),L.2.1 + 1,L.2.2 + 1)
def refRep (M : RLs) (id : Int) (f : List Fld) : RLs × Int × Int :=
  if atE M.1 id < 0 then (M,-9,7) else if (chkR f).2 ≠ 0 then (M,(chkR f).1,(chkR f).2) else ((replE M.1 (atE M.1 id).toNat (itmOf f),M.2),-9,0)
def refDel (M : RLs) (id : Int) : RLs × Int :=
  if atE M.1 id < 0 then (M,7) else ((delE M.1 (atE M.1 id).toNat,M.2),0)
def refIns (M : RLs) (id : Int) (f : List Fld) : RLs × Int × Int × Int :=
  if atE M.1 id < 0 ∧ id ≠ 0 then (M,0,-9,7) else if (chkR f).2 ≠ 0 then (M,0,(chkR f).1,(chkR f).2) else if 400 ≤ ((M.1.filter live).length : Int) then (M,0,-9,11) else
    ((insE M.1 (atE M.1 id + 1).toNat (itmOf f,M.2),M.2 + 1),M.2,-9,0)
def posI (n : Int) : Bool:=decide (0 < n)
def nmsL (es : List Ent) : List Int:=(es.map (·.2)).filter posI
theorem ids_eq (es : List Ent) : (es.filter live).map (·.2) = nmsL es:=by
  unfold nmsL;rw [List.filter_map];rfl
theorem ids_len (es : List Ent) : (nmsL es).length = (es.filter live).length:=by rw [← ids_eq,List.length_map]
structure LOk (c : Nat) (L : Lst) : Prop where
  flds : ∀ e ∈ L.1,FldsOk e.1.2.2
  ids : ∀ e ∈ L.1,0 ≤ e.2 ∧ e.2 < L.2.1
  nd : (nmsL L.1).Nodup
  many : L.2.2 = ((nmsL L.1).length : Int)
  next : 1 ≤ L.2.1 ∧ L.2.1 ≤ c
  len : L.1.length ≤ c
theorem ids_repl (es : List Ent) (i : Nat) (x : Itm) (h : i < es.length) : (replE es i x).map (·.2) = es.map (·.2):=by
  apply List.ext_getElem
  · simp [replE]
  · intro j h1 h2;simp only [replE,List.getElem_map,List.getElem_set];split
    · rename_i e;subst e;simp only;rw [List.getD_eq_getElem?_getD,List.getElem?_eq_getElem h];rfl
    · rfl
theorem mem_repl {es : List Ent} {i : Nat} {x : Itm} {e : Ent} (h : e ∈ replE es i x) : e ∈ es ∨ e = (x,(es.getD i (((0 : Int),ByteArray.empty,([] : List Fld)),(0 : Int))).2):=List.mem_or_eq_of_mem_set h
theorem del_split {es : List Ent} {i : Nat} (h : i < es.length) : es = es.take i ++ (es.getD i (((0 : Int),ByteArray.empty,([] : List Fld)),(0 : Int))) :: es.drop (i + 1):=by
  conv=>lhs;rw [← List.take_append_drop i es,List.drop_eq_getElem_cons h]
  rw [List.getD_eq_getElem?_getD,List.getElem?_eq_getElem h];rfl
theorem mem_del {es : List Ent} {i : Nat} {e : Ent} (h : e ∈ delE es i) : e ∈ es:=by
  rcases List.mem_append.1 h with h|h
  · exact List.mem_of_mem_take h
  · exact List.mem_of_mem_drop h
theorem ids_app (a b : List Ent) : nmsL (a ++ b) = nmsL a ++ nmsL b:=by unfold nmsL;rw [List.map_append,List.filter_append]
theorem ids_cons (e : Ent) (b : List Ent) : nmsL (e :: b) = if 0 < e.2 then e.2 :: nmsL b else nmsL b:=by
  unfold nmsL;rw [List.map_cons,List.filter_cons];unfold posI
  by_cases h : 0 < e.2
  · rw [if_pos h,if_pos (decide_eq_true h)]
  · rw [if_neg h,if_neg (by simpa using h)]
theorem ids_del {es : List Ent} {i : Nat} (h : i < es.length) (hp : 0 < (es.getD i (((0 : Int),ByteArray.empty,([] : List Fld)),(0 : Int))).2) : (nmsL es).length = (nmsL (delE es i)).length + 1 ∧ ((nmsL es).Nodup → (nmsL (delE es i)).Nodup):=by
  have e1 : nmsL es = nmsL (es.take i) ++ (es.getD i (((0 : Int),ByteArray.empty,([] : List Fld)),(0 : Int))).2 :: nmsL (es.drop (i + 1)):=by
    conv=>lhs;rw [del_split h,ids_app,ids_cons,if_pos hp]
  have e2 : nmsL (delE es i) = nmsL (es.take i) ++ nmsL (es.drop (i + 1)):=ids_app _ _;rw [e1,e2];refine ⟨by simp only [List.length_append,List.length_cons];omega,fun hn=>?_⟩;exact hn.sublist (List.Sublist.append_left (List.sublist_cons_self _ _) _)
theorem mem_ins {es : List Ent} {i : Nat} {x e : Ent} (h : e ∈ insE es i x) : e ∈ es ∨ e = x:=by
  rcases List.mem_append.1 h with h|h
  · exact .inl (List.mem_of_mem_take h)
  · rcases List.mem_cons.1 h with h|h
    · exact .inr h
    · exact .inl (List.mem_of_mem_drop h)
theorem ids_ins {es : List Ent} {i : Nat} {x : Ent} (hp : 0 < x.2) (hlt : ∀ e ∈ es,e.2 < x.2) : (nmsL (insE es i x)).length = (nmsL es).length + 1 ∧ ((nmsL es).Nodup → (nmsL (insE es i x)).Nodup):=by
  have e1 : nmsL es = nmsL (es.take i) ++ nmsL (es.drop i):=by
    conv=>lhs;rw [← List.take_append_drop i es,ids_app]
  have e2 : nmsL (insE es i x) = nmsL (es.take i) ++ x.2 :: nmsL (es.drop i):=by unfold insE;rw [ids_app,ids_cons,if_pos hp]
  have hno : x.2 ∉ nmsL es:=fun h=>by
    unfold nmsL at h;obtain ⟨e,he,hx⟩:=List.mem_map.1 (List.mem_filter.1 h).1;have:=hlt e he;omega
  rw [e1] at hno ⊢;rw [e2];refine ⟨by simp only [List.length_append,List.length_cons];omega,fun hn=>?_⟩;rw [List.perm_middle.nodup_iff];exact List.nodup_cons.2 ⟨hno,hn⟩
theorem doL_ok {c : Nat} {L : Lst} {e : Edt} (h : LOk c L) (hf : FldsOk e.2.2) : LOk (c + 1) (doL L e):=by
  have h0 : LOk (c + 1) L:=⟨h.flds,h.ids,h.nd,h.many,⟨h.next.1,by have:=h.next.2;omega⟩,by have:=h.len;omega⟩;have hat : ∀ id,¬ atE L.1 id < 0 → ∃ i : Nat,i < L.1.length ∧ atE L.1 id = i ∧ 0 < id ∧ (L.1.getD i (((0 : Int),ByteArray.empty,([] : List Fld)),(0 : Int))).2 = id:=fun id hn=>by
    rcases at_cases L.1 id with ⟨h1,_⟩|⟨i,h1,h2,h3,h4,_⟩
    · omega
    · exact ⟨i,h1,h2,h3,h4⟩
  unfold doL;split
  · split
    · exact h0
    · rename_i hn;obtain ⟨i,hi,he,hp,hid⟩:=hat _ hn;rw [he,Int.toNat_natCast];split
      · exact h0
      · have hids : nmsL (replE L.1 i (itmOf e.2.2)) = nmsL L.1:=by unfold nmsL;rw [ids_repl _ _ _ hi]
        refine ⟨fun x hx=>?_,fun x hx=>?_,by show (nmsL (replE L.1 i _)).Nodup;rw [hids];exact h.nd,by show L.2.2 = ((nmsL (replE L.1 i _)).length : Int);rw [hids];exact h.many,h0.next,?_⟩
        · rcases mem_repl hx with hx|rfl
          · exact h.flds x hx
          · exact hf
        · rcases mem_repl hx with hx|rfl
          · exact h.ids x hx
          · show 0 ≤ (L.1.getD i (((0 : Int),ByteArray.empty,([] : List Fld)),(0 : Int))).2 ∧ (L.1.getD i (((0 : Int),ByteArray.empty,([] : List Fld)),(0 : Int))).2 < L.2.1;exact h.ids _ (yL hi (((0 : Int),ByteArray.empty,([] : List Fld)),(0 : Int)))
        · show (replE L.1 i _).length ≤ c + 1;unfold replE;rw [List.length_set];exact h0.len
  · split
    · split
      · exact h0
      · rename_i hn;obtain ⟨i,hi,he,hp,hid⟩:=hat _ hn;rw [he,Int.toNat_natCast];obtain ⟨h1,h2⟩:=ids_del hi (by omega);refine ⟨fun x hx=>h.flds x (mem_del hx),fun x hx=>h.ids x (mem_del hx),h2 h.nd,?_,h0.next,?_⟩
        · show L.2.2 - 1 = ((nmsL (delE L.1 i)).length : Int);rw [h.many];omega
        · show (delE L.1 i).length ≤ c + 1;have:=h.len;unfold delE;rw [List.length_append,List.length_take,List.length_drop];omega
    · split
      · exact h0
      · rename_i hn;split
        · exact h0
        · split
          · exact h0
          · have hnx:=h.next;obtain ⟨h1,h2⟩:=ids_ins (es:=L.1) (i:=(atE L.1 e.2.1 + 1).toNat) (x:=(itmOf e.2.2,L.2.1)) (by show 0 < L.2.1;omega) (fun x hx=>(h.ids x hx).2);refine ⟨fun x hx=>?_,fun x hx=>?_,h2 h.nd,?_,⟨by show 1 ≤ L.2.1 + 1;omega,by show L.2.1 + 1 ≤ ((c + 1 : Nat) : Int);omega⟩,?_⟩
            · rcases mem_ins hx with hx|rfl
              · exact h.flds x hx
              · exact hf
            · show 0 ≤ x.2 ∧ x.2 < L.2.1 + 1;rcases mem_ins hx with hx|rfl
              · have:=h.ids x hx;omega
              · show 0 ≤ L.2.1 ∧ L.2.1 < L.2.1 + 1;omega
            · show L.2.2 + 1 = _;rw [h1,h.many];omega
            · have:=h.len;show (insE L.1 _ _).length ≤ c + 1;unfold insE;rw [List.length_append,List.length_cons,List.length_take,List.length_drop];omega
theorem ids_num : ∀ (l : List Itm) (n : Int),1 ≤ n → nmsL (numI n l) = (List.range (cntR l)).map (fun k : Nat=>n + (k : Int)) ∧ ∀ e ∈ numI n l,0 ≤ e.2 ∧ e.2 < n + (cntR l : Int)
  | [],n,_=>⟨rfl,fun e he=>by cases he⟩
  | x :: r,n,hn=>by
    unfold numI;split
    · rename_i h;obtain ⟨h1,h2⟩:=ids_num r (n + 1) (by omega);have hc : cntR (x :: r) = cntR r + 1:=by simp [cntR,h]
      rw [hc];refine ⟨?_,fun e he=>?_⟩
      · rw [ids_cons,if_pos (show 0 < n by omega),h1,List.range_succ_eq_map,List.map_cons,List.map_map]
        congr 1
        · simp
        · apply List.map_congr_left;intro k _;simp only [Function.comp];omega
      · rcases List.mem_cons.1 he with rfl|he
        · show 0 ≤ n ∧ n < _;omega
        · have:=h2 e he;omega
    · rename_i h;obtain ⟨h1,h2⟩:=ids_num r n hn;have hc : cntR (x :: r) = cntR r:=by simp [cntR,h]
      rw [hc];refine ⟨?_,fun e he=>?_⟩
      · rw [ids_cons,if_neg (show ¬ (0 : Int) < 0 by omega),h1]
      · rcases List.mem_cons.1 he with rfl|he
        · show 0 ≤ (0 : Int) ∧ (0 : Int) < _;omega
        · exact h2 e he
theorem ofT_ok {l : List Itm} {c : Nat} (hl : l.length < c) (hf : ∀ x ∈ l,FldsOk x.2.2) : LOk c (ofT l):=by
  obtain ⟨h1,h2⟩:=ids_num l 1 (Int.le_refl _);have h3:=List.length_filter_le isRec l;have h4 : cntR l ≤ l.length:=h3;refine ⟨fun e he=>?_,h2,?_,?_,⟨?_,?_⟩,?_⟩
  · have : e.1 ∈ (numI 1 l).map (·.1):=List.mem_map.2 ⟨e,he,rfl⟩;rw [numI_items] at this;exact hf _ this
  · show (nmsL (numI 1 l)).Nodup;rw [h1];refine List.Pairwise.map _ ?_ List.nodup_range;intro a b hab e;apply hab;omega
  · show (cntR l : Int) = _;rw [show nmsL (ofT l).1 = _ from h1,List.length_map,List.length_range]
  · show 1 ≤ 1 + (cntR l : Int);omega
  · show 1 + (cntR l : Int) ≤ c;omega
  · show (numI 1 l).length ≤ c;rw [numI_len];omega
def refDo (M : RLs) (e : Edt) : RLs:=if e.1 = 1 then (refRep M e.2.1 e.2.2).1 else if e.1 = 2 then (refDel M e.2.1).1 else (refIns M e.2.1 e.2.2).1
end Q
end Ab
end Go.Proofs.YtehmiepjeffloaaGreatDoor
namespace Go.Proofs.YtehmiepjeffloaaGreatDoor
open Go.RowKit
namespace Ab
set_option maxRecDepth 100000
namespace Q
def prPl (es : List Ent) (id : Int) : Bool → Nat → Nat × Int → Prop
  | false,j,x=>x.1 = j ∧ x.2 = 0 ∧ ((es.filter live).take x.1).any (hasId id) = false
  | true,_,x=>x.2 = plcL es id
end Q
end Ab
end Go.Proofs.YtehmiepjeffloaaGreatDoor
namespace Go.Proofs.YtehmiepjeffloaaGreatDoor
open Go.RowKit
namespace Ab
set_option maxRecDepth 100000
namespace Q
end Q
end Ab
end Go.Proofs.YtehmiepjeffloaaGreatDoor
namespace Go.Proofs.YtehmiepjeffloaaGreatDoor
open Go.RowKit
namespace Ab
set_option maxRecDepth 100000
namespace Q
end Q
end Ab
end Go.Proofs.YtehmiepjeffloaaGreatDoor
namespace Go.Proofs.YtehmiepjeffloaaGreatDoor
open Go.RowKit
namespace Ab
set_option maxRecDepth 100000
namespace Q
abbrev zRL : List C:=[.lit (.slice none 0 0),.lit (.int .i64 0)]
end Q
end Ab
end Go.Proofs.YtehmiepjeffloaaGreatDoor
namespace Go.Proofs.YtehmiepjeffloaaGreatDoor
open Go.RowKit
namespace Ab
set_option maxRecDepth 100000
namespace Q
def insT (es : List Ent) (j : Nat) (e : Ent) (i : Nat) : List Ent:=if i < j then es.take i else insE (es.take i) j e
end Q
end Ab
end Go.Proofs.YtehmiepjeffloaaGreatDoor
namespace Go.Proofs.YtehmiepjeffloaaGreatDoor
open Go.RowKit
namespace Ab
set_option maxRecDepth 100000
namespace Q
def doB (num at_ id bad at2 want : Int) : Bool:=((true && decide (num = bad)) && decide (at_ = at2)) && decide (id = want)
end Q
end Ab
end Go.Proofs.YtehmiepjeffloaaGreatDoor
namespace Go.Proofs.YtehmiepjeffloaaGreatDoor
open Go.RowKit
namespace Ab
set_option maxRecDepth 100000
namespace Q
theorem chk_shape {f : List Fld} (h : (chkR f).2 ≠ 0) : (∃ k9,chkA f = errN k9 ∧ k9 ≠ 0 ∧ (-9 : Int) = (chkR f).1 ∧ k9 = (chkR f).2) ∨ ∃ a9 k9,chkA f = errF a9 k9 ∧ k9 ≠ 0 ∧ a9 = (chkR f).1 ∧ k9 = (chkR f).2:=by
  obtain ⟨e,he,hs⟩:=chk_bad h;rcases hs with ⟨n,hn,rfl,hr⟩|⟨i,n,hn,rfl,hr⟩
  · exact .inl ⟨n,he,hn,by rw [hr],by rw [hr]⟩
  · exact .inr ⟨i,n,he,hn,by rw [hr],by rw [hr]⟩
theorem ins_cases {κ c : Nat} {L : Lst} (h : LOk c L) (hc : c ≤ 200000) (k id : Int) (f : List Fld) (hf : FldsOk f) (hk1 : k ≠ 1) (hk2 : k ≠ 2) :
    (∃ k9,doL L (k,id,f) = L ∧ yI Tryz.prog 21 [.one (.own 0 0),ii .i64 id,.one (.slk κ rFld f)] (lsO L) 2 (.tup [(false,[.lit (.int .i64 0)]),(false,[errN k9])]) (lsO L) 2) ∨
    (∃ a9 k9,doL L (k,id,f) = L ∧ yI Tryz.prog 21 [.one (.own 0 0),ii .i64 id,.one (.slk κ rFld f)] (lsO L) 2 (.tup [(false,[.lit (.int .i64 0)]),(false,[errF a9 k9])]) (lsO L) 2) ∨
    ((doL L (k,id,f)).2.1 = L.2.1 + 1 ∧ yI Tryz.prog 21 [.one (.own 0 0),ii .i64 id,.one (.slk κ rFld f)] (lsO L) 2 (.tup [(false,[.lit (.int .i64 L.2.1)]),(false,[.lit .nilIface])]) (lsO (doL L (k,id,f))) 2):=by
  obtain ⟨es,n,m⟩:=L;have hmany:=h.many;have hnx:=h.next;have hln:=h.len;have hids:=ids_len es;have hil:=List.length_filter_le live es;simp only at hmany hnx hln;unfold doL;simp only [if_neg hk1,if_neg hk2]
  by_cases h0 : atE es id < 0 ∧ id ≠ 0
  · simp only [if_pos h0];exact .inl ⟨7,trivial,lIns_no es n m id f h0.1 h0.2⟩
  · simp only [if_neg h0]
    by_cases hck : (chkR f).2 ≠ 0
    · simp only [if_pos hck];have hb:=lIns_bad (κ:=κ) es n m id f h0 hf hck;rcases chk_shape hck with ⟨k9,g1,_⟩|⟨a9,k9,g1,_⟩
      · rw [g1] at hb;exact .inl ⟨k9,trivial,hb⟩
      · rw [g1] at hb;exact .inr (.inl ⟨a9,k9,trivial,hb⟩)
    · simp only [if_neg hck];have hck' : (chkR f).2 = 0:=Classical.not_not.1 hck
      by_cases h4 : 400 ≤ m
      · simp only [if_pos h4];exact .inl ⟨11,trivial,lIns_full es n m id f h0 hf hck' h4⟩
      · simp only [if_neg h4];obtain ⟨j,hj,hje⟩ : ∃ j : Nat,j ≤ es.length ∧ atE es id + 1 = (j : Int):=by
          rcases at_cases es id with ⟨h1,_⟩|⟨i,h1,h2,_⟩
          · exact ⟨0,Nat.zero_le _,by omega⟩
          · exact ⟨i + 1,by omega,by omega⟩
        rw [hje,Int.toNat_natCast];exact .inr (.inr ⟨trivial,lIns_ok es n m id f j hj h0 hje hf hck' (by omega) (by omega) (by omega)⟩)
def plays (L : Lst) (s : List Edt) (i : Nat) : Lst:=(s.take i).foldl doL L
theorem items_len {s : ByteArray} {l : List Itm} (hp : parseS s = .inr l) : l.length ≤ 2 * s.size + 1:=by
  have h0:=parse_ref s;rw [hp] at h0;obtain ⟨h1,_⟩:=linesT_len s;have key : ∀ (L : List Lne) (t : RSt) (bh : Bool) (l : List Itm),runR bh t L = .inr l → l.length ≤ t.out.length + 1 + 2 * L.length:=by
    intro L
    induction L with
    | nil =>
      intro t bh l h;unfold runR at h;cases h;split <;> simp
    | cons a r ih =>
      intro t bh l h;unfold runR at h;split at h
      · cases h
      · have i1:=ih _ _ _ h;have so : (stepR t a r).out.length ≤ t.out.length + 2:=by
          unfold stepR;split
          · simp only;split <;> simp
          · split <;> simp
        rw [List.length_cons];omega
  have k1:=key _ _ _ _ h0.symm;simp only [rst0,List.length_nil] at k1;omega
theorem of_lok {s : ByteArray} {l : List Itm} (hs : s.size ≤ 4000) (hp : parseS s = .inr l) : LOk 9000 (ofT l):=by
  have h1:=items_len hp;exact ofT_ok (by omega) fun x hx=>fldsOk_of (items_small hp x hx).1 (items_small hp x hx).2
theorem LOk.f1 {c : Nat} {L : Lst} (h : LOk c L) : ∀ e ∈ L.1,e.1.2.2.length ≤ 1000000:=fun e he=>Nat.le_trans (h.flds e he).1 (by decide)
end Q
end Ab
end Go.Proofs.YtehmiepjeffloaaGreatDoor
namespace Go.Proofs.YtehmiepjeffloaaGreatDoor
open Go.RowKit
namespace Ab
set_option maxRecDepth 100000
namespace Q
def zF : List Fld:=[(⟨#[90]⟩,⟨#[48]⟩)]
def z0 : Ent:=((3,⟨#[90,58,32,48,10]⟩,zF),1)
theorem z_parse : parseS ⟨#[90,58,32,48,10]⟩ = .inr [(3,⟨#[90,58,32,48,10]⟩,zF)]:=by decide +kernel
def zI (x : List Edt) (q : Nat) : Ent:=(itmOf (x.getD q ((0 : Int),(0 : Int),([] : List Fld))).2.2,2 + (q : Int))
def zE (x : List Edt) (j : Nat) : List Ent:=z0 :: ((List.range j).map (zI x)).reverse
def zL (x : List Edt) (j : Nat) : Lst:=(zE x j,2 + (j : Int),1 + (j : Int))
theorem zE_len (x : List Edt) (j : Nat) : (zE x j).length = j + 1:=by
  unfold zE;rw [List.length_cons,List.length_reverse,List.length_map,List.length_range]
theorem zE_at (x : List Edt) (j : Nat) : atE (zE x j) 1 = 0:=by
  unfold atE;rw [if_neg (by decide)];exact ixOf_at (((0 : Int),ByteArray.empty,([] : List Fld)),(0 : Int)) (i:=0) (by rw [zE_len];omega) rfl rfl
theorem zE_succ (x : List Edt) (j : Nat) : insE (zE x j) 1 (itmOf (x.getD j ((0 : Int),(0 : Int),([] : List Fld))).2.2,2 + (j : Int)) = zE x (j + 1):=by
  unfold insE zE;rw [List.range_succ,List.map_append,List.reverse_append];rfl
theorem doL_ins {L : Lst} {f : List Fld} (h : (doL L (3,1,f)).2.1 = L.2.1 + 1) : doL L (3,1,f) = (insE L.1 (atE L.1 1 + 1).toNat (itmOf f,L.2.1),L.2.1 + 1,L.2.2 + 1):=by
  unfold doL at h ⊢;simp only [show ¬ (3 : Int) = 1 by decide,show ¬ (3 : Int) = 2 by decide,if_false] at h ⊢;split at h
  · omega
  · split at h
    · omega
    · split at h
      · omega
      · rename_i h1 h2 h3;rw [if_neg h1,if_neg h2,if_neg h3]
theorem zL_succ {x : List Edt} {j : Nat} (h : (doL (zL x j) (3,1,(x.getD j ((0 : Int),(0 : Int),([] : List Fld))).2.2)).2.1 = (zL x j).2.1 + 1) : doL (zL x j) (3,1,(x.getD j ((0 : Int),(0 : Int),([] : List Fld))).2.2) = zL x (j + 1):=by
  rw [doL_ins h];show (insE (zE x j) (atE (zE x j) 1 + 1).toNat (itmOf (x.getD j ((0 : Int),(0 : Int),([] : List Fld))).2.2,2 + (j : Int)),2 + (j : Int) + 1,1 + (j : Int) + 1) = zL x (j + 1);rw [zE_at,show ((0 : Int) + 1).toNat = 1 from rfl,zE_succ];unfold zL;rw [show (2 : Int) + (j : Int) + 1 = 2 + ((j + 1 : Nat) : Int) by omega,show (1 : Int) + (j : Int) + 1 = 1 + ((j + 1 : Nat) : Int) by omega]
theorem range_getD (x : List Edt) : (List.range x.length).map (fun q=>x.getD q ((0 : Int),(0 : Int),([] : List Fld))) = x:=by
  apply List.ext_getElem
  · rw [List.length_map,List.length_range]
  · intro i h1 h2;rw [List.getElem_map,List.getElem_range,getD_get h2 ((0 : Int),(0 : Int),([] : List Fld))]
theorem zE_rows (b : Int) (F : List (List Fld)) : (stzL (zE (edB b F) (edB b F).length)).map (·.2) = zF :: F.filter full1:=by
  have hlive : (zE (edB b F) (edB b F).length).filter live = zE (edB b F) (edB b F).length:=by
    refine List.filter_eq_self.2 fun e he=>?_
    rcases List.mem_cons.1 he with rfl|he
    · rfl
    · obtain ⟨q,_,rfl⟩:=List.mem_map.1 (List.mem_reverse.1 he);exact decide_eq_true (show (0 : Int) < 2 + (q : Int) by omega)
  unfold stzL;rw [hlive,List.map_map];show z0.1.2.2 :: (((List.range (edB b F).length).map (zI (edB b F))).reverse).map (fun e=>e.1.2.2) = _;rw [List.map_reverse,List.map_map];have h1 : (List.range (edB b F).length).map ((fun e : Ent=>e.1.2.2) ∘ zI (edB b F)) = (edB b F).map (·.2.2):=by
    conv=>rhs;rw [← range_getD (edB b F)]
    rw [List.map_map];rfl
  rw [h1];unfold edB;rw [List.map_map,← List.map_reverse,List.reverse_reverse];show zF :: (F.filter full1).map id = _;rw [List.map_id]
theorem z_len (b : Int) (F : List (List Fld)) : (stzL (zE (edB b F) (edB b F).length)).length = 1 + (F.filter full1).length:=by
  have:=congrArg List.length (zE_rows b F);rw [List.length_map,List.length_cons] at this;omega
theorem filter_at1 (F : List (List Fld)) {r : Nat} (h : r < F.length) (hf : full1 (F.getD r ([] : List Fld)) = true) : ((F.take r).filter full1).length < (F.filter full1).length ∧ (F.filter full1).getD ((F.take r).filter full1).length ([] : List Fld) = F.getD r ([] : List Fld) :=
  filter_at full1 ([] : List Fld) F r h hf
theorem z_at (b : Int) (F : List (List Fld)) {r : Nat} (h : r < F.length) (hf : full1 (F.getD r ([] : List Fld)) = true) : ((stzL (zE (edB b F) (edB b F).length)).getD (1 + ((F.take r).filter full1).length) ((0 : Int),([] : List Fld))).2 = F.getD r ([] : List Fld):=by
  obtain ⟨h1,h2⟩:=filter_at1 F h hf;have h3 : 1 + ((F.take r).filter full1).length < (stzL (zE (edB b F) (edB b F).length)).length:=by rw [z_len];omega
  have h4 : ((stzL (zE (edB b F) (edB b F).length)).map (·.2)).getD (1 + ((F.take r).filter full1).length) ([] : List Fld) = ((stzL (zE (edB b F) (edB b F).length)).getD (1 + ((F.take r).filter full1).length) ((0 : Int),([] : List Fld))).2:=by
    rw [← getD_get (by rw [List.length_map];exact h3) ([] : List Fld),List.getElem_map,getD_get h3 ((0 : Int),([] : List Fld))]
  rw [← h4,zE_rows,show 1 + ((F.take r).filter full1).length = ((F.take r).filter full1).length + 1 by omega];exact h2
theorem cnt_snoc (F : List (List Fld)) {r : Nat} (h : r < F.length) : ((F.take (r + 1)).filter full1).length = ((F.take r).filter full1).length + if full1 (F.getD r ([] : List Fld)) then 1 else 0:=by
  rw [← yT ([] : List Fld) h,List.filter_append,List.length_append]
  generalize F.getD r ([] : List Fld) = x
  cases hk : full1 x <;> simp [hk]
theorem mR_two {k : List ByteArray} (h : keysOk k = true) : 2 * k.length ≤ mR k:=by
  induction k with
  | nil=>exact Nat.zero_le _
  | cons s k ih =>
    unfold keysOk at h;rw [List.all_cons,Bool.and_eq_true] at h;have h1:=ih h.2;have h2 : 1 ≤ s.size:=by
      have hz:=qW s;have h3:=h.1;unfold keyOk at h3;simp only [Bool.and_eq_true,decide_eq_true_eq] at h3;have h4 : 1 ≤ (ls s).length:=h3.1.1.1.1.1;have h5 : (ls s).length = s.data.toList.length:=rfl;omega
    have e : mR (s :: k) = s.size + 1 + mR k:=by simp [mR]
    rw [e,List.length_cons];omega
theorem imp_flds {rows : List (List ByteArray)} (hm : mT rows ≤ 3000) (hk : keysOk (rows.getD 0 []) = true) (h3 : ¬ ((rows.drop 1).any fun r=>decide ((rows.getD 0 []).length < r.length)) = true) : ∀ f ∈ (rows.drop 1).map (fldsS (rows.getD 0 [])),FldsOk f:=by
  intro f hf;obtain ⟨r,hr,rfl⟩:=List.mem_map.1 hf;have hrl : r.length ≤ (rows.getD 0 []).length:=by
    have h4:=List.any_eq_false.1 (Bool.eq_false_iff.2 h3) r hr;have h5 : ¬ (rows.getD 0 []).length < r.length:=fun h=>h4 (decide_eq_true h)
    omega
  cases rows with
  | nil=>cases hr
  | cons k t =>
    have hk : keysOk k = true:=hk;have hr : r ∈ t:=hr;have hrl : r.length ≤ k.length:=hrl;show FldsOk (fldsS k r);have e : mT (k :: t) = mR k + mT t:=by simp [mT]
    have h1:=mT_mem hr;have h2:=mR_two hk;have h4:=mR_len r;have h5:=flds_len k r r.length;refine ⟨by show (fldsU k r r.length).length ≤ 1000;omega,fun g hg=>?_⟩;have hg : g ∈ fldsU k r r.length:=hg;unfold fldsU at hg;obtain ⟨i,hi,rfl⟩:=List.mem_map.1 (List.mem_filter.1 hg).1;have hi : i < r.length:=List.mem_range.1 hi;have h6:=mR_mem (yL hi ByteArray.empty);have h7:=mR_mem (yL (show i < k.length by omega) ByteArray.empty);exact ⟨by show (k.getD i ByteArray.empty).size ≤ 1000000;omega,by show (r.getD i ByteArray.empty).size ≤ 1000000;omega⟩
theorem SheetEdits_errN (s : ByteArray) (b n : Int) (hs : s.size ≤ 3000) (hn : n ≠ 0) (hi : qQ Tryz.prog 24 [is s] (.tup [(false,[.sl (.sl rFld) []]),(false,[errN n])])) (hr : qQ Tryz.prog 17 [is s] (refImpA ([],-9,n))) : qQ Tryz.prog 4 [is s,ii .i64 b] (ib true):=by
  have hr : qQ Tryz.prog 17 [is s] (.tup [(false,[.sl (.sl rFld) []]),(false,[.lit (.int .i64 (-9))]),(false,[.lit (.int .i64 n)])]):=hr;refine qR (rs:=[4]) Tryz.func4 rfl rfl rfl teOk rfl ?_;refine qC ?_;refine qB ?_;refine qC ?_;refine qC ?_;refine qB ?_;refine Or.inl ?_;refine zai (rfl) ?_;refine zei _ (zai (alive28_c) ?_);refine qK rfl (fun h21=>?_) (fun h21=>?_)
  ·try simp only [Bool.not_eq_true'] at h21
   try simp only [zds] at h21
   simp at h21
  ·try simp only [Bool.not_eq_false'] at h21
   try simp only [zds] at h21
   refine qM ?_;refine qC ?_;refine qC ?_;refine qB ?_;refine qK rfl (fun h24=>?_) (fun h24=>?_)
   ·try simp only [decide_eq_true_eq] at h24
    try simp only [zds] at h24
    omega
   ·try simp only [decide_eq_false_iff_not,Int.not_lt] at h24
    try simp only [zds] at h24
    refine qM ?_;refine qC ?_;refine qB ?_;refine Or.inl ?_;refine zai (rfl) ?_;refine zei _ (zai (shed_errN s b n hi) ?_);refine qC ?_;refine qB ?_;refine Or.inl ?_;refine zai (rfl) ?_;refine zei _ (zai (hr) ?_);refine qC ?_;refine qC ?_;refine qB ?_;refine qK rfl (fun h38=>?_) (fun h38=>?_)
    ·try simp only [decide_eq_false_iff_not,Bool.not_eq_true'] at h38
     try simp only [zds] at h38
     refine qC ?_;refine qB ?_;refine Or.inl ?_;refine zai (rfl) ?_;refine zei _ (zai (num_errno n hn) ?_);refine zai (fun h=>trivial) ?_;refine Or.inl ?_;refine zai (rfl) ?_;refine zei _ (zai (fun h=>⟨⟨⟨h,trivial⟩,trivial⟩,shat_errno n⟩) ?_);refine zai (fun h=>trivial) ?_;refine zai (fun h=>⟨⟨h,trivial⟩,⟨h,trivial⟩,trivial⟩) ?_;refine zai (by exact fun h=>h) ?_;refine zai (fun h=>trivial) ?_;refine zai (fun h=>⟨⟨h,trivial⟩,trivial⟩) ?_;refine zai (fun h=>⟨⟨h,trivial⟩,trivial⟩) ?_;refine zai (by exact fun h=>h) ?_;refine qL ?_
     first|rfl|exact xH (by simp)
    ·try simp only [decide_eq_true_eq,Bool.not_eq_false'] at h38
     try simp only [zds] at h38
     exact absurd h38 hn
theorem SheetEdits_errF (s : ByteArray) (b a n : Int) (hs : s.size ≤ 3000) (hn : n ≠ 0) (hi : qQ Tryz.prog 24 [is s] (.tup [(false,[.sl (.sl rFld) []]),(false,[errF a n])])) (hr : qQ Tryz.prog 17 [is s] (refImpA ([],a,n))) : qQ Tryz.prog 4 [is s,ii .i64 b] (ib true):=by
  have hr : qQ Tryz.prog 17 [is s] (.tup [(false,[.sl (.sl rFld) []]),(false,[.lit (.int .i64 a)]),(false,[.lit (.int .i64 n)])]):=hr;refine qR (rs:=[4]) Tryz.func4 rfl rfl rfl teOk rfl ?_;refine qC ?_;refine qB ?_;refine qC ?_;refine qC ?_;refine qB ?_;refine Or.inl ?_;refine zai (rfl) ?_;refine zei _ (zai (alive28_c) ?_);refine qK rfl (fun h21=>?_) (fun h21=>?_)
  ·try simp only [Bool.not_eq_true'] at h21
   try simp only [zds] at h21
   simp at h21
  ·try simp only [Bool.not_eq_false'] at h21
   try simp only [zds] at h21
   refine qM ?_;refine qC ?_;refine qC ?_;refine qB ?_;refine qK rfl (fun h24=>?_) (fun h24=>?_)
   ·try simp only [decide_eq_true_eq] at h24
    try simp only [zds] at h24
    omega
   ·try simp only [decide_eq_false_iff_not,Int.not_lt] at h24
    try simp only [zds] at h24
    refine qM ?_;refine qC ?_;refine qB ?_;refine Or.inl ?_;refine zai (rfl) ?_;refine zei _ (zai (shed_errF s b a n hi) ?_);refine qC ?_;refine qB ?_;refine Or.inl ?_;refine zai (rfl) ?_;refine zei _ (zai (hr) ?_);refine qC ?_;refine qC ?_;refine qB ?_;refine qK rfl (fun h38=>?_) (fun h38=>?_)
    ·try simp only [decide_eq_false_iff_not,Bool.not_eq_true'] at h38
     try simp only [zds] at h38
     refine qC ?_;refine qB ?_;refine Or.inl ?_;refine zai (rfl) ?_;refine zei _ (zai (num_fault a n hn) ?_);refine zai (fun h=>trivial) ?_;refine Or.inl ?_;refine zai (rfl) ?_;refine zei _ (zai (fun h=>⟨⟨⟨h,trivial⟩,trivial⟩,shat_fault a n⟩) ?_);refine zai (fun h=>trivial) ?_;refine zai (fun h=>⟨⟨h,trivial⟩,⟨h,trivial⟩,trivial⟩) ?_;refine zai (by exact fun h=>h) ?_;refine zai (fun h=>trivial) ?_;refine zai (fun h=>⟨⟨h,trivial⟩,trivial⟩) ?_;refine zai (fun h=>⟨⟨h,trivial⟩,trivial⟩) ?_;refine zai (by exact fun h=>h) ?_;refine qL ?_
     first|rfl|exact xH (by simp)
    ·try simp only [decide_eq_true_eq,Bool.not_eq_false'] at h38
     try simp only [zds] at h38
     exact absurd h38 hn
end Q
end Ab
end Go.Proofs.YtehmiepjeffloaaGreatDoor
namespace Go.Proofs.YtehmiepjeffloaaGreatDoor
open Go.RowKit
namespace Ab
set_option maxRecDepth 100000
namespace Q
end Q
end Ab
end Go.Proofs.YtehmiepjeffloaaGreatDoor
namespace Go.Proofs.YtehmiepjeffloaaGreatDoor
open Go.RowKit
namespace Ab
set_option maxRecDepth 100000
namespace Q
theorem editsT (a : List Edt) : qQ Tryz.prog 20 [.one (.sl rEdt a),.one (.sl rEdt a)] (ib true):=by
  have:=editsEq_c a a
  rwa [decide_eq_true rfl] at this
theorem SheetEdits_many (s : ByteArray) (b : Int) (F : List (List Fld)) (hs : s.size ≤ 3000) (hl : F.length ≤ 60000) (h40 : 40 < (edB b F).length) (hi : qQ Tryz.prog 24 [is s] (.tup [(false,[.sl (.sl rFld) F]),(false,[.lit .nilIface])])) (hr : qQ Tryz.prog 17 [is s] (refImpA (F,-9,0))) : qQ Tryz.prog 4 [is s,ii .i64 b] (ib true):=by
  have hr : qQ Tryz.prog 17 [is s] (.tup [(false,[.sl (.sl rFld) F]),(false,[.lit (.int .i64 (-9))]),(false,[.lit (.int .i64 0)])]):=hr;have he:=shed_ok s b F (by omega) hi;rw [if_pos h40] at he;refine qR (rs:=[4]) Tryz.func4 rfl rfl rfl teOk rfl ?_;refine qC ?_;refine qB ?_;refine qC ?_;refine qC ?_;refine qB ?_;refine Or.inl ?_;refine zai (rfl) ?_;refine zei _ (zai (alive28_c) ?_);refine qK rfl (fun h21=>?_) (fun h21=>?_)
  ·try simp only [Bool.not_eq_true'] at h21
   try simp only [zds] at h21
   simp at h21
  ·try simp only [Bool.not_eq_false'] at h21
   try simp only [zds] at h21
   refine qM ?_;refine qC ?_;refine qC ?_;refine qB ?_;refine qK rfl (fun h24=>?_) (fun h24=>?_)
   ·try simp only [decide_eq_true_eq] at h24
    try simp only [zds] at h24
    omega
   ·try simp only [decide_eq_false_iff_not,Int.not_lt] at h24
    try simp only [zds] at h24
    refine qM ?_;refine qC ?_;refine qB ?_;refine Or.inl ?_;refine zai (rfl) ?_;refine zei _ (zai (he) ?_);refine qC ?_;refine qB ?_;refine Or.inl ?_;refine zai (rfl) ?_;refine zei _ (zai (hr) ?_);refine qC ?_;refine qC ?_;refine qB ?_;refine qK rfl (fun h38=>?_) (fun h38=>?_)
    ·try simp only [decide_eq_false_iff_not,Bool.not_eq_true'] at h38
     try simp only [zds] at h38
     simp at h38
    ·try simp only [decide_eq_true_eq,Bool.not_eq_false'] at h38
     try simp only [zds] at h38
     refine qM ?_;refine qC ?_;refine qB ?_;refine Or.inl ?_;refine zai (rfl) ?_;refine zei _ (zai (refEditsS_c F b (by omega)) ?_);refine qC ?_;refine qC ?_;refine qB ?_;intro l10_1
     try simp only [zds] at l10_1
     refine qK rfl (fun h59=>?_) (fun h59=>?_)
     ·try simp only [decide_eq_true_eq] at h59
      try simp only [zds] at h59
      refine qC ?_;refine qB ?_;refine Or.inl ?_;refine zai (rfl) ?_;refine zei _ (zai (isRange_c) ?_);refine zai (fun h=>trivial) ?_;refine zai (fun h=>⟨⟨h,trivial⟩,trivial⟩) ?_;refine zai (fun h=>⟨⟨h,trivial⟩,trivial⟩) ?_;refine zai (by exact fun h=>h) ?_;refine qL ?_
      first|rfl|exact xH (by simp)
     ·try simp only [decide_eq_false_iff_not,Int.not_lt] at h59
      try simp only [zds] at h59
      omega
theorem SheetEdits_ok (s : ByteArray) (b : Int) (F : List (List Fld)) (hs : s.size ≤ 3000) (hl : F.length ≤ 60000) (hF : ∀ f ∈ F,FldsOk f) (h40 : ¬ 40 < (edB b F).length) (hi : qQ Tryz.prog 24 [is s] (.tup [(false,[.sl (.sl rFld) F]),(false,[.lit .nilIface])])) (hr : qQ Tryz.prog 17 [is s] (refImpA (F,-9,0))) : qQ Tryz.prog 4 [is s,ii .i64 b] (ib true):=by
  have hr : qQ Tryz.prog 17 [is s] (.tup [(false,[.sl (.sl rFld) F]),(false,[.lit (.int .i64 (-9))]),(false,[.lit (.int .i64 0)])]):=hr;have he:=shed_ok s b F (by omega) hi;rw [if_neg h40] at he;have hfx : ∀ e ∈ edB b F,FldsOk e.2.2:=fun e hem=>by
    obtain ⟨f,hf,rfl⟩:=List.mem_map.1 hem;exact hF f (List.mem_filter.1 (List.mem_reverse.1 hf)).1
  have hzl:=z_len b F;have hza:=@z_at b F;have hlz : LOk 9000 (zL (edB b F) 0):=of_lok (s:=⟨#[90,58,32,48,10]⟩) (by decide) z_parse;have hof:=of_ok ⟨#[90,58,32,48,10]⟩ (by decide) z_parse;rw [show ofT [(3,⟨#[90,58,32,48,10]⟩,zF)] = (zE (edB b F) 0,2,1) from rfl] at hof;have hre:=refEditsS_c F b (by omega);obtain ⟨x,hx⟩ : ∃ x,edB b F = x:=⟨_,rfl⟩;rw [hx] at he hfx hlz hof hre h40 hzl;refine qR (rs:=[4]) Tryz.func4 rfl rfl rfl teOk rfl ?_;refine qC ?_;refine qB ?_;refine qC ?_;refine qC ?_;refine qB ?_;refine Or.inl ?_;refine zai (rfl) ?_;refine zei _ (zai (alive28_c) ?_);refine qK rfl (fun h21=>?_) (fun h21=>?_)
  ·try simp only [Bool.not_eq_true'] at h21
   try simp only [zds] at h21
   simp at h21
  ·try simp only [Bool.not_eq_false'] at h21
   try simp only [zds] at h21
   refine qM ?_;refine qC ?_;refine qC ?_;refine qB ?_;refine qK rfl (fun h24=>?_) (fun h24=>?_)
   ·try simp only [decide_eq_true_eq] at h24
    try simp only [zds] at h24
    omega
   ·try simp only [decide_eq_false_iff_not,Int.not_lt] at h24
    try simp only [zds] at h24
    refine qM ?_;refine qC ?_;refine qB ?_;refine Or.inl ?_;refine zai (rfl) ?_;refine zei _ (zai (he) ?_);refine qC ?_;refine qB ?_;refine Or.inl ?_;refine zai (rfl) ?_;refine zei _ (zai (hr) ?_);refine qC ?_;refine qC ?_;refine qB ?_;refine qK rfl (fun h38=>?_) (fun h38=>?_)
    ·try simp only [decide_eq_false_iff_not,Bool.not_eq_true'] at h38
     try simp only [zds] at h38
     simp at h38
    ·try simp only [decide_eq_true_eq,Bool.not_eq_false'] at h38
     try simp only [zds] at h38
     refine qM ?_;refine qC ?_;refine qB ?_;refine Or.inl ?_;refine zai (rfl) ?_;refine zei _ (zai (hre) ?_);refine qC ?_;refine qC ?_;refine qB ?_;intro l10_1
     try simp only [zds] at l10_1
     refine qK rfl (fun h59=>?_) (fun h59=>?_)
     ·try simp only [decide_eq_true_eq] at h59
      try simp only [zds] at h59
      omega
     ·try simp only [decide_eq_false_iff_not,Int.not_lt] at h59
      try simp only [zds] at h59
      refine qM ?_;refine qC ?_;refine qC ?_;refine qB ?_;refine zai (fun h=>trivial) ?_;refine zai (fun h=>trivial) ?_;refine Or.inl ?_;refine zai (rfl) ?_;refine zei _ (zai (fun h=>⟨⟨⟨h,trivial⟩,⟨h,trivial⟩,trivial⟩,editsT x⟩) ?_);refine zai (fun h=>⟨⟨h,trivial⟩,trivial⟩) ?_;refine zai (by first|(intro h;rw [h];rfl)|(intro h;cases h)) ?_;refine qK rfl (fun h74=>?_) (fun h74=>?_)
      ·try simp only [Bool.not_eq_true',Bool.or_eq_true] at h74
       try simp only [zds] at h74
       simp at h74
      ·try simp only [Bool.not_eq_false',Bool.or_eq_false_iff] at h74
       try simp only [zds] at h74
       refine qM ?_;refine qC ?_;refine qB ?_;refine Or.inr (Or.inl (zei [] (zei [] (zei _ (zei _ (zei _ (zei _ (zei _ (zai (hof) (zai rfl (zai True.intro (zai rfl ?_))))))))))));refine qC ?_;refine qC ?_;refine qB ?_;refine qK rfl (fun h80=>?_) (fun h80=>?_)
       ·try simp only [Bool.not_eq_true'] at h80
        try simp only [zds] at h80
        simp at h80
       ·try simp only [Bool.not_eq_false'] at h80
        try simp only [zds] at h80
        refine qM ?_;refine qC ?_;refine qC ?_;refine qB ?_;intro l17_1
        try simp only [zds] at l17_1
        refine qN ?_;refine qU (fun (i : Nat)=>i ≤ x.length ∧ LOk (9000 + i) (zL x i)) (fun (i : Nat)=>[(7,.one (.sl (.sl rFld) F)),(11,.one (.own 0 0)),(81,.one (.sl rEdt x)),(82,ii .i64 x.length),(83,ii .i64 i)]) (fun (i : Nat)=>[(0,.box 79 [.vec 1,.lit (.int .i64 (2 + (i : Int))),.lit (.int .i64 (1 + (i : Int)))]),(1,.vec 83 rEnt (zE x i))]) 2 (fun (i : Nat)=>x.length - i) 0 (⟨Nat.zero_le _,hlz⟩) (qP ⟨rfl,rfl,rfl,rfl,rfl⟩ ⟨rfl,rfl⟩ rfl) ?_;intro i hI0;obtain ⟨hi0,hLk⟩:=hI0;refine qC ?_;refine qB ?_;refine qC ?_;refine qK rfl (fun h84=>?_) (fun h84=>?_)
        ·try simp only [decide_eq_true_eq] at h84
         try simp only [zds] at h84
         have hil : i < x.length:=(by omega);have hins:=ins_cases (κ:=0) hLk (by omega) 3 1 (x.getD i ((0 : Int),(0 : Int),([] : List Fld))).2.2 (hfx _ (yL hil ((0 : Int),(0 : Int),([] : List Fld)))) (by decide) (by decide);refine qM ?_;refine qC ?_;refine qN ?_;refine qC ?_;refine qB ?_;refine zai (by first|omega|assumption|decide|(simp only [zds];omega)|(simp <;> omega)) ?_;refine qC ?_;rcases hins with ⟨k9,hdo,hc⟩|⟨a9,k9,hdo,hc⟩|⟨hdo,hc⟩
         ·refine qB ?_;refine Or.inr (Or.inl (zei [] (zei [0,1] (zei _ (zei _ (zei _ (zei _ (zei _ (zai (hc) (zai rfl (zai (zai (zai rfl rfl) (zai (zai rfl rfl) True.intro)) (zai rfl ?_))))))))))));refine qC ?_;refine qB ?_;refine qK rfl (fun h95=>?_) (fun h95=>?_)
          ·skip
           refine qC ?_;refine qB ?_;refine qL ?_
           first|rfl|exact xH (by simp;omega)|exact xH (decide_eq_true (by omega))
          ·try simp only [zbq] at h95
           try simp only [zds] at h95
           simp at h95
         ·refine qB ?_;refine Or.inr (Or.inl (zei [] (zei [0,1] (zei _ (zei _ (zei _ (zei _ (zei _ (zai (hc) (zai rfl (zai (zai (zai rfl rfl) (zai (zai rfl rfl) True.intro)) (zai rfl ?_))))))))))));refine qC ?_;refine qB ?_;refine qK rfl (fun h95=>?_) (fun h95=>?_)
          ·skip
           refine qC ?_;refine qB ?_;refine qL ?_
           first|rfl|exact xH (by simp;omega)|exact xH (decide_eq_true (by omega))
          ·try simp only [zbq] at h95
           try simp only [zds] at h95
           simp at h95
         ·refine qB ?_;have hzs:=zL_succ hdo;have hLn:=doL_ok (e:=(3,1,(x.getD i ((0 : Int),(0 : Int),([] : List Fld))).2.2)) hLk (hfx (x.getD i ((0 : Int),(0 : Int),([] : List Fld))) (yL hil ((0 : Int),(0 : Int),([] : List Fld))));rw [hzs] at hc hLn;refine Or.inr (Or.inl (zei [] (zei [0,1] (zei _ (zei _ (zei _ (zei _ (zei _ (zai (hc) (zai rfl (zai (zai (zai rfl rfl) (zai (zai rfl rfl) True.intro)) (zai rfl ?_))))))))))));refine qC ?_;refine qB ?_;refine qK rfl (fun h95=>?_) (fun h95=>?_)
          ·try simp only [Bool.not_eq_true'] at h95
           try simp only [zds] at h95
           simp at h95
          ·try simp only [Bool.not_eq_false'] at h95
           try simp only [zds] at h95
           refine qM ?_;refine qB ?_;refine zai (by first|omega|assumption|decide|(simp only [zds];omega)|(simp <;> omega)) ?_;exact ⟨i + 1,⟨by omega,hLn⟩,by first|omega|(simp <;> omega),qP ⟨rfl,rfl,rfl,rfl,(yM (by omega))⟩ ⟨rfl,rfl⟩ rfl⟩
        ·try simp only [decide_eq_false_iff_not,Int.not_lt] at h84
         try simp only [zds] at h84
         refine yC ?_;have hix : i = x.length:=(by omega);subst hix;have hEl:=hLk.len;have hEf:=hLk.f1;refine qC ?_;refine qB ?_;refine Or.inr (Or.inr (Or.inl ?_));refine zai rfl ?_;refine zei _ (zai (stanzasL_c (zE x x.length) _ _ (Nat.le_trans hEl (by omega)) hEf) ?_);refine qC ?_;refine qB ?_;refine qC ?_;refine qC ?_;refine qB ?_;intro l26_1
         try simp only [zds] at l26_1
         refine qN ?_;refine qU (fun (r : Nat)=>r ≤ F.length) (fun (r : Nat)=>[(16,.one (.sl rStz (stzL (zE x x.length)))),(17,ii .i64 ((1 + ((F.take r).filter full1).length : Nat) : Int)),(99,.one (.sl (.sl rFld) F)),(100,ii .i64 F.length),(101,ii .i64 r)]) (fun (r : Nat)=>[]) 0 (fun (r : Nat)=>F.length - r) 0 (Nat.zero_le _) (qP ⟨rfl,rfl,rfl,rfl,rfl⟩ trivial rfl) ?_;intro r hI2;refine qC ?_;refine qB ?_;refine qC ?_;refine qK rfl (fun h102=>?_) (fun h102=>?_)
         ·try simp only [decide_eq_true_eq] at h102
          try simp only [zds] at h102
          have hrl : r < F.length:=(by omega);have hcs:=cnt_snoc F hrl;refine qM ?_;refine qC ?_;refine qN ?_;refine qC ?_;refine qB ?_;refine zai (by first|omega|assumption|decide|(simp only [zds];omega)|(simp <;> omega)) ?_;refine qC ?_;refine qC ?_;refine qB ?_;intro l29_1
          try simp only [Int.toNat_natCast,qG] at l29_1
          refine qK rfl (fun h107=>?_) (fun h107=>?_)
          ·try simp only [decide_eq_true_eq] at h107
           try simp only [Int.toNat_natCast,qG] at h107
           have h108 : ((F.getD r ([] : List Fld)).length : Int) = 0:=(by first|exact h107|exact of_decide_eq_true h107);have hf : full1 (F.getD r ([] : List Fld)) = false:=decide_eq_false (by omega);rw [hf] at hcs;refine yC ?_;refine qB ?_;refine zai (by first|omega|assumption|decide|(simp only [zds];omega)|(simp <;> omega)) ?_;exact ⟨r + 1,by omega,by first|omega|(simp <;> omega),qP ⟨rfl,(yM (by rw [hcs];rfl)),rfl,rfl,(yM (by omega))⟩ trivial rfl⟩
          ·try simp only [decide_eq_false_iff_not] at h107
           try simp only [Int.toNat_natCast,qG] at h107
           have h108 : ¬ ((F.getD r ([] : List Fld)).length : Int) = 0:=(by first|exact h107|exact of_decide_eq_false h107);have hf : full1 (F.getD r ([] : List Fld)) = true:=decide_eq_true (by omega);rw [hf,if_pos rfl] at hcs;obtain ⟨hc1,_⟩:=filter_at1 F hrl hf;have heq:=hza hrl hf;rw [hx] at heq;have hfe:=fieldsEq_c ((stzL (zE x x.length)).getD (1 + ((F.take r).filter full1).length) ((0 : Int),([] : List Fld))).2 (F.getD r ([] : List Fld));rw [decide_eq_true heq] at hfe;refine qM ?_;refine qC ?_;refine qC ?_;refine qB ?_;intro l30_2
           try simp only [zds] at l30_2
           refine zai (fun h=>trivial) ?_;refine zai (fun h=>trivial) ?_;refine zai (fun h=>⟨⟨⟨h,trivial⟩,⟨h,trivial⟩,trivial⟩,by first|omega|(simp only [Int.toNat_natCast];omega)⟩) ?_;refine zai (fun h=>⟨⟨h,trivial⟩,trivial⟩) ?_;refine zai (fun h=>⟨⟨h,trivial⟩,trivial⟩) ?_;refine zai (fun h=>trivial) ?_;refine Or.inl ?_;refine zai (rfl) ?_;refine zei _ (zai (fun h=>⟨⟨⟨h,trivial⟩,⟨h,trivial⟩,trivial⟩,hfe⟩) ?_);refine zai (fun h=>⟨⟨h,trivial⟩,trivial⟩) ?_;refine zai (by first|(intro h;rw [h];rfl)|(intro h;cases h)) ?_;refine qK rfl (fun h121=>?_) (fun h121=>?_)
           ·try simp only [decide_eq_true_eq,Bool.not_eq_true',Bool.or_eq_true] at h121
            try simp only [zds] at h121
            exact absurd h121 (by simp;omega)
           ·try simp only [decide_eq_false_iff_not,Bool.not_eq_false',Bool.or_eq_false_iff,Int.not_le] at h121
            try simp only [zds] at h121
            refine qM ?_;refine qB ?_;refine zai (by first|omega|assumption|decide|(simp only [zds];omega)|(simp <;> omega)) ?_;refine qB ?_;refine zai (by first|omega|assumption|decide|(simp only [zds];omega)|(simp <;> omega)) ?_;exact ⟨r + 1,by omega,by first|omega|(simp <;> omega),qP ⟨rfl,(yM (by omega)),rfl,rfl,(yM (by omega))⟩ trivial rfl⟩
         ·try simp only [decide_eq_false_iff_not,Int.not_lt] at h102
          try simp only [zds] at h102
          refine yC ?_;have hrF : r = F.length:=(by omega);subst hrF;rw [List.take_length];refine qC ?_;refine qB ?_;intro l34_2
          try simp only [zds] at l34_2
          refine qL ?_
          first|rfl|exact xH (by simp;omega)|exact xH (decide_eq_true (by omega))
theorem SheetEdits_long (s : ByteArray) (b : Int) (hs : 3000 < s.size) : qQ Tryz.prog 4 [is s,ii .i64 b] (ib true):=by
  refine qR (rs:=[4]) Tryz.func4 rfl rfl rfl teOk rfl ?_;refine qC ?_;refine qB ?_;refine qC ?_;refine qC ?_;refine qB ?_;refine Or.inl ?_;refine zai (rfl) ?_;refine zei _ (zai (alive28_c) ?_);refine qK rfl (fun h21=>?_) (fun h21=>?_)
  ·try simp only [Bool.not_eq_true'] at h21
   try simp only [zds] at h21
   simp at h21
  ·try simp only [Bool.not_eq_false'] at h21
   try simp only [zds] at h21
   refine qM ?_;refine qC ?_;refine qC ?_;refine qB ?_;refine qK rfl (fun h24=>?_) (fun h24=>?_)
   ·try simp only [decide_eq_true_eq] at h24
    try simp only [zds] at h24
    refine qC ?_;refine qB ?_;refine qL ?_;rfl
   ·try simp only [decide_eq_false_iff_not,Int.not_lt] at h24
    try simp only [zds] at h24
    omega
theorem impE_at (i : Nat) : impA ([],(i : Int) + 1,2) = .tup [(false,[.sl (.sl rFld) []]),(false,[errF ((i : Int) + 1) 2])]:=by
  unfold impA;rw [if_neg (by show ¬ ((2 : Int) = 0);decide),if_neg (by show ¬ ((i : Int) + 1 = -9);omega)]
theorem SheetEdits_c (s : ByteArray) (b : Int) : qQ Tryz.prog 4 [is s,ii .i64 b] (ib true):=by
  by_cases hl : 3000 < s.size
  · exact SheetEdits_long s b hl
  have hs : s.size ≤ 3000:=by omega
  have hs6 : s.size ≤ 60000:=by omega
  cases hrd : xD (ls s) with
  | none=>exact SheetEdits_errN s b 2 hs (by decide) (imp_none s hs6 hrd) (refimp_none s hs6 hrd)
  | some rows =>
    have hI:=imp_some s hs6 rows hrd;have hR:=refimp_some s hs6 rows hrd;obtain ⟨hm,hn⟩:=readP_size hrd;have hlen : (unt rows).length = rows.length:=List.length_map _
    generalize unt rows = R at hI hR hm hlen
    by_cases h1 : R = []
    · have e : impT R = ([],-9,2):=by unfold impT;rw [if_pos h1]
      rw [e] at hI hR;exact SheetEdits_errN s b 2 hs (by decide) hI hR
    cases h2 : keysOk (R.getD 0 []) with
    | false =>
      have e : impT R = ([],-9,5):=by unfold impT;rw [if_neg h1,if_pos h2]
      rw [e] at hI hR;exact SheetEdits_errN s b 5 hs (by decide) hI hR
    | true =>
      by_cases h3 : ((R.drop 1).any fun r=>decide ((R.getD 0 []).length < r.length)) = true
      · obtain ⟨i,hi⟩ : ∃ i : Nat,ixOf (fun r=>decide ((R.getD 0 []).length < r.length)) (R.drop 1) = (i : Int):=by
          rcases ixOf_cases (fun r : List ByteArray=>decide ((R.getD 0 []).length < r.length)) (R.drop 1) [] with ⟨_,h⟩|⟨i,_,h,_⟩
          · rw [h] at h3;cases h3
          · exact ⟨i,h⟩
        have e : impT R = ([],(i : Int) + 1,2):=by unfold impT;rw [if_neg h1,if_neg (by rw [h2];decide),if_pos h3,hi]
        rw [e] at hI hR;rw [impE_at] at hI;exact SheetEdits_errF s b _ 2 hs (by decide) hI hR
      · have e : impT R = ((R.drop 1).map (fldsS (R.getD 0 [])),-9,0):=by unfold impT;rw [if_neg h1,if_neg (by rw [h2];decide),if_neg h3]
        rw [e] at hI hR;have hF:=imp_flds (by omega) h2 h3;have hFl : ((R.drop 1).map (fldsS (R.getD 0 []))).length ≤ 60000:=by rw [List.length_map,List.length_drop];omega
        generalize (R.drop 1).map (fldsS (R.getD 0 [])) = F at hI hR hF hFl
        by_cases h40 : 40 < (edB b F).length
        · exact SheetEdits_many s b F hs hFl h40 hI hR
        · exact SheetEdits_ok s b F hs hFl hF h40 hI hR
end Q
end Ab
end Go.Proofs.YtehmiepjeffloaaGreatDoor
namespace Go.Proofs.YtehmiepjeffloaaGreatDoor
open Go.RowKit
namespace Ab
set_option maxRecDepth 100000
theorem globAt {W : World} (h : W.ShapedOpen Tryz.prog) : GlobAt AllOk W:=by
  have hc : GlobCell W:=cell_of_shapedOpen_int (g:=0) (t:=3) (zero:=#[.int .i64 0]) h (of_decide_eq_true (by kernel_rfl)) (by kernel_rfl) rfl (by kernel_rfl) (by kernel_rfl) Tryz.underlying3;refine ⟨trivial,?_,hc⟩;obtain ⟨m,hm⟩:=hc;rcases Nat.lt_or_ge 0 W.heap.size with h1|h1
  · exact h1
  · exfalso
    simp only [World.cell?,Array.getElem?_eq_none h1] at hm;cases hm
end Ab
end Go.Proofs.YtehmiepjeffloaaGreatDoor
namespace Go.Proofs.YtehmiepjeffloaaGreatDoor
open Go.RowKit
namespace Ab
set_option maxRecDepth 100000
end Ab
end Go.Proofs.YtehmiepjeffloaaGreatDoor
