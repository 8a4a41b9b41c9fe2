/-
  The texts of this proof, joined: abstract values, the library, the functions of the program and what they compute (part 5). No condition.
-/
import Derived.Test.YtpfkncffaanjcaaGreatDoorProg
import Derived.WalkKit
import Derived.LaidEql
import Derived.Stop.Asserts
import Derived.RowKitTokens
import Derived.WalkSpells
import Derived.Test.YtpfkncffaanjcaaGreatDoorK1
import Derived.Test.YtpfkncffaanjcaaGreatDoorK2
import Derived.Test.YtpfkncffaanjcaaGreatDoorK3
import Derived.Test.YtpfkncffaanjcaaGreatDoorK4
namespace Go.Proofs.YtpfkncffaanjcaaGreatDoor
open Go.RowKit
namespace Ab
set_option maxRecDepth 100000
namespace Q
theorem flat_take {n : Nat} : ∀ (css : List (List Value)) (k : Nat),(∀ c ∈ css,c.length = n) → (css.take k).flatten = css.flatten.take (k * n)
  | [],_,_=>by simp
  | c :: r,0,_=>by simp
  | c :: r,k + 1,h=>by
    have h0 : c.length = n:=h c (by simp);have ih:=flat_take r k fun d hd=>h d (by simp [hd])
    rw [List.take_succ_cons,List.flatten_cons,List.flatten_cons,ih,Nat.add_mul,Nat.one_mul,Nat.add_comm (k * n) n]
    conv=>rhs;rw [← h0]
    rw [List.take_length_add_append,h0]
theorem flat_drop {n : Nat} : ∀ (css : List (List Value)) (k : Nat),(∀ c ∈ css,c.length = n) → (css.drop k).flatten = css.flatten.drop (k * n)
  | [],_,_=>by simp
  | c :: r,0,_=>by simp
  | c :: r,k + 1,h=>by
    have h0 : c.length = n:=h c (by simp);have ih:=flat_drop r k fun d hd=>h d (by simp [hd])
    rw [List.drop_succ_cons,List.flatten_cons,ih,Nat.add_mul,Nat.one_mul,Nat.add_comm (k * n) n,← List.drop_drop,← h0,List.drop_left,h0]
section
variable {cx : Cx} {ob : Obs} {nx : Nat} {ρ : Nat → Option Value} {w w' : World}
theorem ent_lens {ok : Oks} {xs : List Ent} {css : List (List Value)} (h1 : css.length = xs.length) (h2 : ∀ i (h : i < xs.length),rEnt.is ok w (css.getD i []) xs[i]) : ∀ c ∈ css,c.length = 4:=css_lens h1 h2
theorem ent_ones {ok : Oks} {xs : List Ent} {css : List (List Value)} (h1 : css.length = xs.length) (h2 : ∀ i (h : i < xs.length),rEnt.is ok w (css.getD i []) xs[i]) : ∀ v ∈ css.flatten,v.oneCell' = true:=css_ones h1 h2
theorem row_st (hs : StOk cx [] ob nx ρ ⟨#[],[]⟩ w) {xs xs' : List Ent} (hg : getO ob 0 = some (.vec 111 rEnt xs)) {v u : Value} (hv : ρ 0 = some v) {css' : List (List Value)} (hl : css'.length = xs'.length)
    (hR : ∀ i (h : i < xs'.length),rEnt.is (okOf cx ρ ob) w (css'.getD i []) xs'[i]) (hrow : RowTo w w' v u xs'.length css'.flatten) :
    ∃ ρ',StOk cx [] (setO 0 (.vec 111 rEnt xs') (subOb 0 .any ob)) nx ρ' ⟨#[],[]⟩ w' ∧ (C.vec 0).rep (okOf cx ρ' (setO 0 (.vec 111 rEnt xs') (subOb 0 .any ob))) ρ' w' u:=by
  obtain ⟨h1,h2,h3,h4⟩:=hrow;rw [← hv] at h2;have h3' : ∀ b,blk (some u) = some b → blk (ρ 0) = some b ∨ (w.heap.size ≤ b ∧ b < w'.heap.size):=by rw [hv];exact h3
  have hkp:=okOf_swap (o':=.vec 111 rEnt xs') hs hg h2 (fun b hb=>(h3' b hb).imp (fun h=>h) (·.1));refine ⟨upd ρ 0 u,hs.swap hg h2 h3' ⟨u,xA,css',hl,fun i hi=>Rd.kept _ hkp (hR i hi),h1⟩,xA,h4⟩
end
theorem getD_app {α : Type} (a b : List α) (i : Nat) (d : α) : (a ++ b).getD i d = if i < a.length then a.getD i d else b.getD (i - a.length) d:=by
  simp only [List.getD_eq_getElem?_getD];split
  · rename_i h;rw [List.getElem?_append_left h]
  · rename_i h;rw [List.getElem?_append_right (by omega)]
theorem delete_x (xs : List Ent) (i j : Nat) (hij : i < j) (hj : j ≤ xs.length) : ACallX Tryz.prog 119 [.one (.vec 0),ii .i64 i,ii .i64 j] [(0,.vec 111 rEnt xs)] 1 (.one (.vec 0)) [(0,.vec 111 rEnt (xs.take i ++ xs.drop j))] 1 []:=by
  refine ⟨⟨_,Tryz.func119,rfl,rfl⟩,fun cx ρ w vs _ _ _ hs hvs=>?_⟩;obtain ⟨v,r1,rfl,⟨hv,_⟩,vi,r2,rfl,hvi,vj,r3,rfl,hvj,hr3⟩:=hvs;rw [show r3 = [] from hr3,show vi = _ from hvi,show vj = _ from hvj];obtain ⟨v',hv',css,h1,h2,hown⟩ : ∃ v,ρ 0 = some v ∧ VecOk (okOf cx ρ [(0,.vec 111 rEnt xs)]) w v 111 rEnt xs:=hs.obs (0,.vec 111 rEnt xs) (by simp);rw [hv] at hv';obtain rfl:=Option.some.inj hv';have hfl:=ent_lens h1 h2;have hon:=ent_ones h1 h2;rcases id hown.2 with ⟨_,h0⟩|⟨b,cap,cur,rfl,_⟩
  · omega
  obtain ⟨cur,hb,hnc,hcm,hcz,htk,hcl⟩:=rowCells hown;refine (del_w b cap xs.length i j cur w hb hcz hnc hcm hij hj (by rw [htk];exact hon)).mono ?_
  rintro e w' ⟨rfl,cur',hgr,hb',hcz',hrow⟩
  have hnl : xs.length - (j - i) = (xs.take i ++ xs.drop j).length:=by rw [List.length_append,List.length_take,List.length_drop];omega
  have hf : (css.take i ++ css.drop j).flatten = cur.toList.take (i * 4) ++ (cur.toList.drop (j * 4)).take ((xs.length - j) * 4):=by
    rw [List.flatten_append,flat_take css i hfl,flat_drop css j hfl,← htk,take4 _ _ _ (by omega),List.drop_take]
    congr 2
    omega
  have hown' : w'.ownsRow 0 111 4 (.slice (some ⟨b,0,none⟩) (xs.length - (j - i)) cap) (xs.length - (j - i)) (css.take i ++ css.drop j).flatten:=by
    rw [hf,← hrow];have hcl' : cur'.toList.length = cap * 4:=by simpa using hcz'
    exact ⟨by rw [List.length_take,hcl'];omega,.inr ⟨b,cap,cur',rfl,Nat.zero_le _,hb',by omega,hcm,hcz',rfl⟩⟩
  rw [hnl] at hown' ⊢;obtain ⟨ρ',h3,h4⟩:=row_st (xs':=xs.take i ++ xs.drop j) (css':=css.take i ++ css.drop j) (u:=.slice (some ⟨b,0,none⟩) (xs.take i ++ xs.drop j).length cap) hs rfl hv (by simp [h1]) (fun k hk=>by
    rw [List.length_append,List.length_take,List.length_drop] at hk;rw [getD_app,List.getElem_append];simp only [List.length_take,h1];split
    · rename_i hlt;have:=h2 k (by omega);rw [List.getElem_take];rw [List.getD_eq_getElem?_getD] at this ⊢;rw [List.getElem?_take_of_lt (by omega)];exact this
    · rename_i hlt;have:=h2 (j + (k - min i xs.length)) (by omega);rw [List.getElem_drop];rw [List.getD_eq_getElem?_getD] at this ⊢;rw [List.getElem?_drop];exact this) ⟨hown',hgr,fun _ h=>.inl h,_,_,_,rfl⟩
  exact ⟨_,ρ',rfl,h3,h4,fun k hk=>by cases hk⟩
theorem insert_x (xs : List Ent) (e : Ent) (i : Nat) (hi : i ≤ xs.length) (hn : xs.length ≤ 1000000) : ACallX Tryz.prog 120 [.one (.vec 0),ii .i64 i,.one (.vec 1)] [(0,.vec 111 rEnt xs),(1,.vec 111 rEnt [e])] 2 (.one (.vec 0)) [(0,.vec 111 rEnt (insE xs i e)),(1,.vec 111 rEnt [e])] 2 []:=by
  refine ⟨⟨_,Tryz.func120,rfl,rfl⟩,fun cx ρ w vs _ _ _ hs hvs=>?_⟩;obtain ⟨v,r1,rfl,⟨hv,_⟩,vi,r2,rfl,hvi,v2,r3,rfl,⟨hv2,_⟩,hr3⟩:=hvs;rw [show r3 = [] from hr3,show vi = _ from hvi];obtain ⟨v',hv',css,h1,h2,hown⟩ : ∃ v,ρ 0 = some v ∧ VecOk (okOf cx ρ [(0,.vec 111 rEnt xs),(1,.vec 111 rEnt [e])]) w v 111 rEnt xs:=hs.obs (0,.vec 111 rEnt xs) (by simp);rw [hv] at hv';obtain rfl:=Option.some.inj hv';obtain ⟨v2',hv2',ess,g1,g2,hown2⟩ : ∃ v,ρ 1 = some v ∧ VecOk (okOf cx ρ [(0,.vec 111 rEnt xs),(1,.vec 111 rEnt [e])]) w v 111 rEnt [e]:=hs.obs (1,.vec 111 rEnt [e]) (by simp);rw [hv2] at hv2';obtain rfl:=Option.some.inj hv2';obtain ⟨es,rfl⟩ : ∃ es,ess = [es]:=List.length_eq_one_iff.1 g1;have hge:=g2 0 Nat.one_pos;have hel : es.length = 4:=Rd.len rEnt hge;have hfl:=ent_lens h1 h2;have hon:=ent_ones h1 h2;have hon2:=ent_ones g1 g2;rcases id hown2.2 with ⟨_,h0⟩|⟨vb,vc,cur2,hv2e,_⟩
  · simp at h0
  have hv2e : v2 = .slice (some ⟨vb,0,none⟩) 1 vc:=hv2e;subst hv2e;rw [show ([es] : List (List Value)).flatten = es by simp] at hown2 hon2;have hrow : Calls Tryz.prog 120 #[v,.int .i64 i,.slice (some ⟨vb,0,none⟩) 1 vc] w fun e' w'=>∃ u,e' = .returned u ∧ RowTo w w' v u (xs.length + 1) (css.flatten.take (i * 4) ++ es ++ css.flatten.drop (i * 4)):=by
    have hcl : css.flatten.length = xs.length * 4:=hown.1;rcases Nat.lt_or_ge i xs.length with hlt|hge'
    · rcases id hown.2 with ⟨_,h0⟩|⟨b,cap,cur,rfl,_⟩
      · omega
      have hne : vb ≠ b:=fun e'=>hs.sep (0,.vec 111 rEnt xs) (by simp) (1,.vec 111 rEnt [e]) (by simp) Nat.zero_ne_one b (by rw [hv];rfl) (by rw [hv2,e'];rfl)
      by_cases hroom : xs.length + 1 ≤ cap
      · exact ins_shift xs.length i b cap css.flatten es vb vc w hlt hroom hown hown2 hne hon2 hon
      · exact ins_grow xs.length i b cap css.flatten es vb vc w hlt (by omega) hn hown hown2 hon2 hon
    · obtain rfl : i = xs.length:=by omega
      have:=ins_end xs.length v css.flatten es vb vc w hown hown2 hon2 hn;rw [List.take_of_length_le (by omega),List.drop_of_length_le (by omega),List.append_nil];exact this
  refine hrow.mono ?_
  rintro e' w' ⟨u,rfl,hrt⟩
  have hf : (css.take i ++ es :: css.drop i).flatten = css.flatten.take (i * 4) ++ es ++ css.flatten.drop (i * 4):=by
    rw [List.flatten_append,List.flatten_cons,flat_take css i hfl,flat_drop css i hfl,List.append_assoc]
  have hnl : xs.length + 1 = (insE xs i e).length:=by unfold insE;rw [List.length_append,List.length_cons,List.length_take,List.length_drop];omega
  rw [← hf,hnl] at hrt;obtain ⟨ρ',h3,h4⟩:=row_st (xs':=insE xs i e) hs rfl hv (by rw [← hnl];simp [h1];omega) (fun k hk=>by
    rw [← hnl] at hk;simp only [insE,getD_app,List.getElem_append,List.length_take,h1];split
    · rename_i hlt;have:=h2 k (by omega);rw [List.getElem_take];rw [List.getD_eq_getElem?_getD] at this ⊢;rw [List.getElem?_take_of_lt (by omega)];exact this
    · rename_i hlt;obtain ⟨q,hq⟩ : ∃ q,k - min i xs.length = q:=⟨_,rfl⟩;simp only [hq];cases q with
      | zero=>exact hge
      | succ q =>
        have:=h2 (i + q) (by omega);simp only [List.getElem_cons_succ,List.getD_cons_succ,List.getElem_drop];rw [List.getD_eq_getElem?_getD] at this ⊢;rw [List.getElem?_drop];exact this) hrt
  exact ⟨_,ρ',rfl,h3,h4,fun k hk=>by cases hk⟩
theorem cloneE_o {k : Nat} (es : List Ent) (hl : es.length ≤ 1000000) : qX Tryz.prog 82 [.one (.slk k rEnt es)] [] 0 (.one (.vec 0)) [(0,.vec 111 rEnt es)] 1:=by
  refine qT (rs:=[2]) Tryz.func82 rfl rfl rfl teOk (by decide) rfl ?_;refine qC ?_;refine qB ?_;refine qC ?_;refine qC ?_;refine acode_isnil (q:=k) [_] _ (R:=rEnt) (xs:=es) rfl rfl rfl rfl (e:=111) rfl rfl ?_;refine ⟨rfl,fun b hb=>?_⟩;refine qK rfl (fun h4=>?_) (fun h4=>?_)
  ·have hl0:=hb h4;subst hl0;refine qC ?_;refine qB ?_;refine yZ 2 111 rEnt rfl ?_;refine qL ?_;exact ⟨rfl,rfl,rfl⟩
  ·refine qM ?_;refine qC ?_;refine qB ?_;refine zai (by first|exact qP (show es.length ≤ 1000000000 by omega) (by decide)|exact qP (show 0 + es.length ≤ 1000000000 by omega) (by decide)) ?_;refine qL ?_;exact ⟨rfl,rfl,rfl⟩
def itEs (es : List Ent) : List (List A):=(es.filter live).map fun e=>[A.agg (toL rEnt e)]
def cntL (es : List Ent) : Nat:=(es.filter live).length
theorem cntL_snoc {es : List Ent} {i : Nat} (h : i < es.length) : cntL (es.take (i + 1)) = cntL (es.take i) + if live (es.getD i (((0 : Int),ByteArray.empty,([] : List Fld)),(0 : Int))) then 1 else 0:=by
  unfold cntL;rw [← yI (((0 : Int),ByteArray.empty,([] : List Fld)),(0 : Int)) h,List.filter_append,List.length_append]
  generalize es.getD i (((0 : Int),ByteArray.empty,([] : List Fld)),(0 : Int)) = x
  cases hk : live x <;> simp [hk]
theorem itEs_at {es : List Ent} {i : Nat} (h : i < es.length) (hl : live (es.getD i (((0 : Int),ByteArray.empty,([] : List Fld)),(0 : Int))) = true) : ∃ hk : cntL (es.take i) < (itEs es).length,(itEs es)[cntL (es.take i)] = [A.agg (toL rEnt (es.getD i (((0 : Int),ByteArray.empty,([] : List Fld)),(0 : Int))))]:=by
  obtain ⟨h1,h2⟩:=filter_at live (((0 : Int),ByteArray.empty,([] : List Fld)),(0 : Int)) es i h hl;have h1' : cntL (es.take i) < (es.filter live).length:=h1;refine ⟨by unfold itEs;rw [List.length_map];exact h1',?_⟩;have h3 : (es.filter live)[cntL (es.take i)]'h1' = es.getD i (((0 : Int),ByteArray.empty,([] : List Fld)),(0 : Int)):=(getD_get h1' (((0 : Int),ByteArray.empty,([] : List Fld)),(0 : Int))).trans h2;exact (List.getElem_map (fun e=>[A.agg (toL rEnt e)])).trans (congrArg (fun e=>[A.agg (toL rEnt e)]) h3)
theorem all_iter {k : Nat} (es : List Ent) (n m : Int) : AIter Tryz.prog 95 [.one (.ref (.adk k (rLst k) (es,n,m)))] (itEs es):=by
  refine aiter_of Tryz.func95 rfl rfl rfl teOk rfl ?_;intro l ι Pr J U n0 hU hab hy;refine xD ?_;refine xD ?_;refine xU hab hU rfl ?_;refine qB ?_;refine ⟨_,_,_,le_refl,?_⟩;refine acodeY_cond rfl (fun h6=>?_) (fun h6=>?_)
  ·simp at h6
  refine acodeY_skip ?_;refine xD ?_;refine xU hab hU rfl ?_;refine qB ?_;intro hln;have hln : es.length ≤ 9223372036854775807:=hln;refine ⟨_,_,_,le_refl,?_⟩;refine acodeY_block ?_;refine acodeY_loop (κ:=Nat) (fun i=>i ≤ es.length) (fun i=>cntL (es.take i)) (fun i=>[(0,.one (.lit (.func (.yield l) #[] #[]))),(10,.one (.slk k rEnt es)),(11,ii .i64 es.length),(12,ii .i64 i)]) (fun _=>[]) 0 (fun i=>es.length - i) 0 (Nat.zero_le _) hab hU (qQ ⟨rfl,rfl,rfl,rfl⟩ trivial rfl) rfl ?_;intro i hi;have hi : i ≤ es.length:=hi;refine acodeY_lowQ hab hU ?_;refine xD ?_;refine xU hab hU rfl ?_;refine qB ?_;refine ⟨_,_,_,le_refl,?_⟩;refine xD ?_;refine acodeY_cond rfl (fun h13=>?_) (fun h13=>?_)
  ·simp only [decide_eq_true_eq] at h13;have hlt : i < es.length:=by omega
   have hsn:=cntL_snoc hlt;refine acodeY_skip ?_;refine xD ?_;refine acodeY_block ?_;refine xD ?_;refine xU hab hU rfl ?_;refine qB ?_;refine zai (by omega) ?_;refine ⟨_,_,_,le_refl,?_⟩;refine xD ?_;refine acodeY_yieldG (pre:=[_,_,_,_,_,_]) (post:=[_,_]) _ (live (es.getD i (((0 : Int),ByteArray.empty,([] : List Fld)),(0 : Int)))) rfl rfl rfl rfl rfl hab hU hy ?_;refine zai (fun _=>trivial) ?_;refine zai (fun _=>trivial) ?_;refine ⟨_,_,_,le_refl,⟨_,rfl,rfl⟩,fun hq=>?_,fun hq=>?_⟩
   ·obtain ⟨hk,hx⟩:=itEs_at hlt hq;refine ⟨hk,⟨⟨hq,trivial⟩,⟨hq,trivial⟩,trivial⟩,rfl,hx.symm,by rw [hx];rfl,fun st=>?_⟩;refine zai (fun _=>⟨⟨rfl,trivial⟩,trivial⟩) ?_;refine zai (fun h=>h) ?_;refine ⟨_,_,_,le_refl,?_⟩;refine acodeY_cond rfl (fun h24=>?_) (fun h24=>?_)
    ·have h24 : (live (es.getD i (((0 : Int),ByteArray.empty,([] : List Fld)),(0 : Int))) && !!st) = true:=h24;rw [hq,Bool.true_and,Bool.not_not] at h24;subst h24;refine acodeY_ret ?_;exact ⟨_,.inl rfl,.inl rfl,fun e=>by cases e⟩
    ·have h24 : (live (es.getD i (((0 : Int),ByteArray.empty,([] : List Fld)),(0 : Int))) && !!st) = false:=h24;rw [hq,Bool.true_and,Bool.not_not] at h24;subst h24;refine acodeY_skip ?_;refine xU hab hU rfl ?_;refine qB ?_;refine zai (by omega) ?_;refine ⟨_,_,_,qQ (tm':=[(0,.one (.lit (.func (.yield l) #[] #[]))),(10,.one (.slk k rEnt es)),(11,ii .i64 es.length),(12,ii .i64 (i + 1 : Nat))]) (ob':=[]) (nx':=1) ⟨rfl,rfl,rfl,qR (by omega)⟩ trivial rfl,0,.inr rfl,⟨i + 1,hlt,by omega,rfl,?_,rfl,rfl,rfl⟩⟩;rw [hsn,if_pos hq]
   ·refine zai (fun h=>absurd (h.symm.trans hq) (by decide)) ?_;refine zai (fun h=>h) ?_;refine ⟨_,_,_,le_refl,?_⟩;refine acodeY_cond rfl (fun h24=>?_) (fun h24=>?_)
    ·have h24 : (live (es.getD i (((0 : Int),ByteArray.empty,([] : List Fld)),(0 : Int))) && _) = true:=h24;rw [hq] at h24;cases h24
    ·refine acodeY_skip ?_;refine xU hab hU rfl ?_;refine qB ?_;refine zai (by omega) ?_;refine ⟨_,_,_,qQ (tm':=[(0,.one (.lit (.func (.yield l) #[] #[]))),(10,.one (.slk k rEnt es)),(11,ii .i64 es.length),(12,ii .i64 (i + 1 : Nat))]) (ob':=[]) (nx':=1) ⟨rfl,rfl,rfl,qR (by omega)⟩ trivial rfl,0,.inr rfl,⟨i + 1,hlt,by omega,rfl,?_,rfl,rfl,rfl⟩⟩;rw [hsn,if_neg (by rw [hq];decide)];rfl
  ·simp only [decide_eq_false_iff_not] at h13;refine acodeY_exit ?_;refine ⟨_,.inl rfl,.inr rfl,fun _=>?_⟩;rw [List.take_of_length_le (by omega)];simp only [itEs,List.length_map,cntL]
theorem all_c {k : Nat} (L : Lst) : qU Tryz.prog 61 [.one (.adk k (rLst k) L)] (.one (.clo 95 (.ref (.adk k (rLst k) L)))):=by
  refine qW (rs:=[2]) Tryz.func61 rfl rfl rfl teOk rfl ?_;refine qC ?_;refine qB ?_;refine qC ?_;refine qB ?_;refine yG [0] ?_;refine qL ?_;rfl
theorem index_E (f : FuncId) {k : Nat} {β : Type} (S : Rd β) (y : β) (l : List Ent) (p : Ent → Bool) (hp : ∀ x ∈ l,qU Tryz.prog f [.agg (toL rEnt x),.one (.addr S y)] (ib (p x))) : qU Tryz.prog 137 [.one (.slk k rEnt l),.one (.clo f (.addr S y))] (ii .i64 (ixOf p l)):=by
  refine qW (rs:=[4]) Tryz.func137 rfl rfl rfl teOk rfl ?_;refine qC ?_;refine qB ?_;refine qC ?_;refine qC ?_;refine qB ?_;intro l1_1
  try simp only [zds] at l1_1
  refine qO ?_;refine qV (fun (i : Nat)=>i ≤ l.length ∧ (l.take i).any p = false) (fun (i : Nat)=>[(0,.one (.slk k rEnt l)),(1,.one (.clo f (.addr S y))),(7,ii .i64 l.length),(8,ii .i64 i)]) (fun (i : Nat)=>[]) 0 (fun (i : Nat)=>l.length - i) 0 (⟨Nat.zero_le _,rfl⟩) (qQ ⟨rfl,rfl,rfl,rfl⟩ trivial rfl) ?_;intro i hI0;obtain ⟨hi,hn⟩:=hI0;refine qC ?_;refine qB ?_;refine qC ?_;refine qK rfl (fun h9=>?_) (fun h9=>?_)
  ·try simp only [decide_eq_true_eq] at h9
   try simp only [zds] at h9
   refine qM ?_;refine qC ?_;refine qO ?_;refine qC ?_;refine qB ?_;refine qC ?_;refine qB ?_;refine zai (by first|omega|assumption|decide|(simp only [zds];omega)|(simp <;> omega)) ?_;refine Or.inl ?_;refine zai (rfl) ?_;refine zei _ (zai (hp _ (yT (show i < l.length by omega) _)) ?_);refine qK rfl (fun h16=>?_) (fun h16=>?_)
   ·try simp only [zbq] at h16
    try simp only [Int.toNat_natCast,qI,qH,qF,qE] at h16
    refine qC ?_;refine qB ?_;refine qL ?_;exact qR (ixOf_at (((0 : Int),ByteArray.empty,([] : List Fld)),(0 : Int)) (by omega) hn h16).symm
   ·try simp only [zbq] at h16
    try simp only [Int.toNat_natCast,qI,qH,qF,qE] at h16
    refine qM ?_;refine qB ?_;refine zai (by first|omega|assumption|decide|(simp only [zds];omega)|(simp <;> omega)) ?_;exact ⟨i + 1,⟨by omega,by rw [take_any l p (((0 : Int),ByteArray.empty,([] : List Fld)),(0 : Int)) i (by omega),hn];exact h16⟩,by first|omega|(simp <;> omega),qQ ⟨rfl,rfl,rfl,rfl⟩ trivial rfl⟩
  ·try simp only [decide_eq_false_iff_not,Int.not_lt] at h9
   try simp only [zds] at h9
   refine qZ ?_;refine qC ?_;refine qB ?_;refine qL ?_;have e : i = l.length:=by omega
   subst e;rw [List.take_length] at hn;exact qR (ixOf_none hn).symm
theorem at1_c (id : Int) (e : Ent) : qU Tryz.prog 138 [.agg (toL rEnt e),.one (.addr (.int .i64) id)] (ib (hasId id e)):=by
  refine qW (rs:=[3]) Tryz.func138 rfl rfl rfl teOk rfl ?_;refine qC ?_;refine qB ?_;refine qC ?_;refine qB ?_;refine qL ?_;rfl
theorem at_c {k : Nat} (es : List Ent) (n m id : Int) : qU Tryz.prog 104 [.one (.adk k (rLst k) (es,n,m)),ii .i64 id] (ii .i64 (atE es id)):=by
  refine qW (rs:=[4]) Tryz.func104 rfl rfl rfl teOk rfl ?_;refine qC ?_;refine qB ?_;refine qC ?_;refine qC ?_;refine qB ?_;refine zai (fun h=>trivial) ?_;refine zai (fun h=>⟨⟨h,trivial⟩,trivial⟩) ?_;refine zai (by first|(intro h;rw [h];rfl)|(intro h;cases h)) ?_;refine qK rfl (fun h10=>?_) (fun h10=>?_)
  ·try simp only [decide_eq_true_eq,Bool.or_eq_true] at h10
   try simp only [zds] at h10
   have h10 : id < 1:=h10.elim (fun h=>by cases h) (fun h=>h);refine qC ?_;refine qB ?_;refine qL ?_;exact qR (by unfold atE;rw [if_pos h10])
  ·try simp only [decide_eq_false_iff_not,Bool.or_eq_false_iff,Int.not_lt] at h10
   try simp only [zds] at h10
   have h10 : ¬ id < 1:=(by simp at h10;omega);refine qM ?_;refine qC ?_;refine qB ?_;refine Or.inl ?_;refine zai (rfl) ?_;refine zei _ (zai (index_E _ (.int .i64) id es (hasId id) (fun x _=>at1_c id x)) ?_);refine qL ?_;exact qR (by unfold atE;rw [if_neg h10])
theorem next_c {k : Nat} (es : List Ent) (n m : Int) : qU Tryz.prog 25 [.one (.adk k (rLst k) (es,n,m))] (ii .i64 n):=by
  refine qW (rs:=[2]) Tryz.func25 rfl rfl rfl teOk rfl ?_;refine qC ?_;refine qB ?_;refine qC ?_;refine qC ?_;refine qB ?_;refine qK rfl (fun h4=>?_) (fun h4=>?_)
  ·try simp only [zbq] at h4
   try simp only [zds] at h4
   simp at h4
  ·skip
   refine qM ?_;refine qC ?_;refine qB ?_;refine qL ?_;rfl
theorem at_lt {es : List Ent} {id : Int} (h : ¬ atE es id < 0) : ∃ i : Nat,i < es.length ∧ atE es id = i ∧ 0 < id ∧ (es.getD i (((0 : Int),ByteArray.empty,([] : List Fld)),(0 : Int))).2 = id:=by
  rcases at_cases es id with ⟨h1,_⟩|⟨i,h1,h2,h3,h4,_⟩
  · omega
  · exact ⟨i,h1,h2,h3,h4⟩
theorem lDel_no (es : List Ent) (n m id : Int) (h : atE es id < 0) : qX Tryz.prog 84 [.one (.own 0 0),ii .i64 id] (lsO (es,n,m)) 2 (.one (errN 7)) (lsO (es,n,m)) 2:=by
  refine qT (rs:=[4]) Tryz.func84 rfl rfl rfl teOk (by decide) rfl ?_;refine qC ?_;refine qB ?_;refine qC ?_;refine qB ?_;refine Or.inr (Or.inr (Or.inl ?_));refine zai rfl ?_;refine zei _ (zai (at_c es n m id) ?_);refine qC ?_;refine qC ?_;refine qB ?_;refine qK rfl (fun h10=>?_) (fun h10=>?_)
  ·try simp only [decide_eq_true_eq] at h10
   try simp only [zds] at h10
   refine qC ?_;refine qB ?_;refine qL ?_;exact ⟨rfl,⟨rfl,rfl⟩,rfl⟩
  ·try simp only [decide_eq_false_iff_not,Int.not_lt] at h10
   try simp only [zds] at h10
   omega
theorem lDel_ok (es : List Ent) (n m id : Int) (i : Nat) (hi : i < es.length) (h : atE es id = i) (hm : 0 ≤ m ∧ m ≤ 1000000) (hl : es.length ≤ 1000000) : qX Tryz.prog 84 [.one (.own 0 0),ii .i64 id] (lsO (es,n,m)) 2 (.one (.lit .nilIface)) (lsO (delE es i,n,m - 1)) 2:=by
  refine qT (rs:=[4]) Tryz.func84 rfl rfl rfl teOk (by decide) rfl ?_;refine qC ?_;refine qB ?_;refine qC ?_;refine qB ?_;refine Or.inr (Or.inr (Or.inl ?_));refine zai rfl ?_;refine zei _ (zai ((by have:=at_c (k:=1) es n m id;rw [h] at this;exact this)) ?_);refine qC ?_;refine qC ?_;refine qB ?_;refine qK rfl (fun h10=>?_) (fun h10=>?_)
  ·try simp only [decide_eq_true_eq] at h10
   try simp only [zds] at h10
   omega
  ·try simp only [decide_eq_false_iff_not,Int.not_lt] at h10
   try simp only [zds] at h10
   refine qM ?_;refine qC ?_;refine qB ?_;refine zai (by first|omega|assumption|decide|(simp only [zds];omega)|(simp <;> omega)) ?_;refine Or.inr (Or.inr (Or.inr (zei [1] (zei [] (zei _ (zei _ (zei _ (zei _ (zei _ (zai (delete_x es i (i + 1) (Nat.lt_succ_self _) hi) (zai rfl (zai (zai (zai rfl rfl) True.intro) (zai rfl ?_)))))))))))));refine qC ?_;refine qB ?_;refine zai (by first|omega|assumption|decide|(simp only [];omega)|(simp <;> omega)) ?_;refine qC ?_;refine qB ?_;refine qL ?_;exact ⟨rfl,⟨rfl,rfl⟩,rfl⟩
theorem pitem_ok {κ : Nat} {l : List Fld} (hl : yJ l) (h : (chkR l).2 = 0) : qU Tryz.prog 118 [.one (.slk κ rFld l)] (.tup [(true,toL rItm (3,bytes (foldL l),l)),(false,[.lit .nilIface])]):=by
  refine acall_ofc (rs:=[.cell 2 109,.tmp 3]) Tryz.func118 rfl rfl rfl teOk rfl ?_;refine qC ?_;refine qB ?_;refine qC ?_;refine qB ?_;refine Or.inl ?_;refine zai (rfl) ?_;refine zei _ (zai (pstanza_ok hl h) ?_);refine qC ?_;refine qC ?_;refine qB ?_;refine qK rfl (fun h12=>?_) (fun h12=>?_)
  ·try simp only [Bool.not_eq_true'] at h12
   try simp only [zds] at h12
   cases h12
  ·try simp only [Bool.not_eq_false'] at h12
   try simp only [zds] at h12
   refine qM ?_;refine qC ?_;refine qB ?_;refine Or.inl ?_;refine zai (rfl) ?_;refine zei _ (zai (clone_c l (Nat.le_trans hl.1 (by decide))) ?_);refine qL ?_;rfl
theorem pitem_err {κ : Nat} {l : List Fld} (hl : yJ l) (h : (chkR l).2 ≠ 0) : qU Tryz.prog 118 [.one (.slk κ rFld l)] (.tup [(true,[.lit (.int .i64 0),.lit (.string ⟨#[]⟩),.lit (.slice none 0 0)]),(false,[chkA l])]):=by
  have hc:=pstanza_err (κ:=κ) hl h;obtain ⟨e,he,hs⟩:=chk_bad h;rw [he] at hc ⊢;rcases hs with ⟨n,hn,rfl,_⟩|⟨i,n,hn,rfl,_⟩
  ·
    refine acall_ofc (rs:=[.cell 2 109,.tmp 3]) Tryz.func118 rfl rfl rfl teOk rfl ?_;refine qC ?_;refine qB ?_;refine qC ?_;refine qB ?_;refine Or.inl ?_;refine zai (rfl) ?_;refine zei _ (zai (hc) ?_);refine qC ?_;refine qC ?_;refine qB ?_;refine qK rfl (fun h12=>?_) (fun h12=>?_)
    ·skip
     refine qC ?_;refine qB ?_;refine qL ?_;rfl
    ·try simp only [zbq] at h12
     try simp only [zds] at h12
     cases h12
  ·
    refine acall_ofc (rs:=[.cell 2 109,.tmp 3]) Tryz.func118 rfl rfl rfl teOk rfl ?_;refine qC ?_;refine qB ?_;refine qC ?_;refine qB ?_;refine Or.inl ?_;refine zai (rfl) ?_;refine zei _ (zai (hc) ?_);refine qC ?_;refine qC ?_;refine qB ?_;refine qK rfl (fun h12=>?_) (fun h12=>?_)
    ·skip
     refine qC ?_;refine qB ?_;refine qL ?_;rfl
    ·try simp only [zbq] at h12
     try simp only [zds] at h12
     cases h12
def itmOf (f : List Fld) : Itm:=(3,bytes (foldL f),f)
theorem lRep_no {κ : Nat} (es : List Ent) (n m id : Int) (f : List Fld) (h : atE es id < 0) : qX Tryz.prog 83 [.one (.own 0 0),ii .i64 id,.one (.slk κ rFld f)] (lsO (es,n,m)) 2 (.one (errN 7)) (lsO (es,n,m)) 2:=by
  refine qT (rs:=[6]) Tryz.func83 rfl rfl rfl teOk (by decide) rfl ?_;refine qC ?_;refine qB ?_;refine qC ?_;refine qB ?_;refine Or.inr (Or.inr (Or.inl ?_));refine zai rfl ?_;refine zei _ (zai (at_c es n m id) ?_);refine qC ?_;refine qC ?_;refine qB ?_;refine qK rfl (fun h14=>?_) (fun h14=>?_)
  ·try simp only [decide_eq_true_eq] at h14
   try simp only [zds] at h14
   refine qC ?_;refine qB ?_;refine qL ?_;exact ⟨rfl,⟨rfl,rfl⟩,rfl⟩
  ·try simp only [decide_eq_false_iff_not,Int.not_lt] at h14
   try simp only [zds] at h14
   omega
theorem lRep_bad {κ : Nat} (es : List Ent) (n m id : Int) (f : List Fld) (h : 0 ≤ atE es id) (hf : yJ f) (hc : (chkR f).2 ≠ 0) : qX Tryz.prog 83 [.one (.own 0 0),ii .i64 id,.one (.slk κ rFld f)] (lsO (es,n,m)) 2 (.one (chkA f)) (lsO (es,n,m)) 2:=by
  have hpi:=pitem_err (κ:=κ) hf hc;obtain ⟨e,he,hs⟩:=chk_bad hc;rw [he] at hpi ⊢;rcases hs with ⟨x,hx,rfl,_⟩|⟨j,x,hx,rfl,_⟩
  ·
    refine qT (rs:=[6]) Tryz.func83 rfl rfl rfl teOk (by decide) rfl ?_;refine qC ?_;refine qB ?_;refine qC ?_;refine qB ?_;refine Or.inr (Or.inr (Or.inl ?_));refine zai rfl ?_;refine zei _ (zai (at_c es n m id) ?_);refine qC ?_;refine qC ?_;refine qB ?_;refine qK rfl (fun h14=>?_) (fun h14=>?_)
    ·try simp only [decide_eq_true_eq] at h14
     try simp only [zds] at h14
     omega
    ·try simp only [decide_eq_false_iff_not,Int.not_lt] at h14
     try simp only [zds] at h14
     refine qM ?_;refine qC ?_;refine qB ?_;refine Or.inl ?_;refine zai (rfl) ?_;refine zei _ (zai (hpi) ?_);refine qC ?_;refine qC ?_;refine qB ?_;refine qK rfl (fun h22=>?_) (fun h22=>?_)
     ·skip
      refine qC ?_;refine qB ?_;refine qL ?_;exact ⟨rfl,⟨rfl,rfl⟩,rfl⟩
     ·try simp only [zbq] at h22
      try simp only [zds] at h22
      cases h22
  ·
    refine qT (rs:=[6]) Tryz.func83 rfl rfl rfl teOk (by decide) rfl ?_;refine qC ?_;refine qB ?_;refine qC ?_;refine qB ?_;refine Or.inr (Or.inr (Or.inl ?_));refine zai rfl ?_;refine zei _ (zai (at_c es n m id) ?_);refine qC ?_;refine qC ?_;refine qB ?_;refine qK rfl (fun h14=>?_) (fun h14=>?_)
    ·try simp only [decide_eq_true_eq] at h14
     try simp only [zds] at h14
     omega
    ·try simp only [decide_eq_false_iff_not,Int.not_lt] at h14
     try simp only [zds] at h14
     refine qM ?_;refine qC ?_;refine qB ?_;refine Or.inl ?_;refine zai (rfl) ?_;refine zei _ (zai (hpi) ?_);refine qC ?_;refine qC ?_;refine qB ?_;refine qK rfl (fun h22=>?_) (fun h22=>?_)
     ·skip
      refine qC ?_;refine qB ?_;refine qL ?_;exact ⟨rfl,⟨rfl,rfl⟩,rfl⟩
     ·try simp only [zbq] at h22
      try simp only [zds] at h22
      cases h22
theorem lRep_ok {κ : Nat} (es : List Ent) (n m id : Int) (f : List Fld) (i : Nat) (hi : i < es.length) (h : atE es id = i) (hf : yJ f) (hc : (chkR f).2 = 0) : qX Tryz.prog 83 [.one (.own 0 0),ii .i64 id,.one (.slk κ rFld f)] (lsO (es,n,m)) 2 (.one (.lit .nilIface)) (lsO (replE es i (itmOf f),n,m)) 2:=by
  refine qT (rs:=[6]) Tryz.func83 rfl rfl rfl teOk (by decide) rfl ?_;refine qC ?_;refine qB ?_;refine qC ?_;refine qB ?_;refine Or.inr (Or.inr (Or.inl ?_));refine zai rfl ?_;refine zei _ (zai ((by have:=at_c (k:=1) es n m id;rw [h] at this;exact this)) ?_);refine qC ?_;refine qC ?_;refine qB ?_;refine qK rfl (fun h14=>?_) (fun h14=>?_)
  ·try simp only [decide_eq_true_eq] at h14
   try simp only [zds] at h14
   omega
  ·try simp only [decide_eq_false_iff_not,Int.not_lt] at h14
   try simp only [zds] at h14
   refine qM ?_;refine qC ?_;refine qB ?_;refine Or.inl ?_;refine zai (rfl) ?_;refine zei _ (zai (pitem_ok hf hc) ?_);refine qC ?_;refine qC ?_;refine qB ?_;refine qK rfl (fun h22=>?_) (fun h22=>?_)
   ·try simp only [Bool.not_eq_true'] at h22
    try simp only [zds] at h22
    cases h22
   ·try simp only [Bool.not_eq_false'] at h22
    try simp only [zds] at h22
    refine qM ?_;refine qC ?_;refine yX rfl ?_;refine qJ 0 rfl rfl rfl (by kernel_rfl) ?_;refine qJ 1 rfl rfl rfl (by kernel_rfl) ?_;refine qJ 2 rfl rfl rfl (by kernel_rfl) ?_;refine qJ 4 rfl rfl rfl (by kernel_rfl) ?_;refine qG [3,5] (by kernel_rfl) rfl ?_;refine zai ?_ ?_
    ·refine qG [5] (by kernel_rfl) rfl ?_;refine qJ 6 rfl rfl rfl (by kernel_rfl) ?_;refine zai (by first|omega|assumption|decide|(simp only [];omega)|(simp <;> omega)) ?_;refine qG [7] (by kernel_rfl) rfl ?_;refine qG [8] (by kernel_rfl) rfl ?_;refine zai (by (rw [Int.toNat_natCast];exact hi)) ?_;refine qN (by kernel_rfl) ?_;refine qC ?_;refine qB ?_;refine qL ?_;exact ⟨rfl,⟨rfl,rfl⟩,rfl⟩
    ·refine qG [3] (by kernel_rfl) rfl ?_;refine qJ 6 rfl rfl rfl (by kernel_rfl) ?_;refine zai (by first|omega|assumption|decide|(simp only [];omega)|(simp <;> omega)) ?_;refine qG [7] (by kernel_rfl) rfl ?_;refine qG [8] (by kernel_rfl) rfl ?_;refine zai (by (rw [Int.toNat_natCast];exact hi)) ?_;refine qN (by kernel_rfl) ?_;refine qC ?_;refine qB ?_;refine qL ?_;exact ⟨rfl,⟨rfl,rfl⟩,rfl⟩
theorem lIns_no {κ : Nat} (es : List Ent) (n m id : Int) (f : List Fld) (h : atE es id < 0) (h0 : id ≠ 0) : qX Tryz.prog 85 [.one (.own 0 0),ii .i64 id,.one (.slk κ rFld f)] (lsO (es,n,m)) 2 (.tup [(false,[.lit (.int .i64 0)]),(false,[errN 7])]) (lsO (es,n,m)) 2:=by
  refine qT (rs:=[6,7]) Tryz.func85 rfl rfl rfl teOk (by decide) rfl ?_;refine qC ?_;refine qB ?_;refine qC ?_;refine qB ?_;refine Or.inr (Or.inr (Or.inl ?_));refine zai rfl ?_;refine zei _ (zai (at_c es n m id) ?_);refine qC ?_;refine qC ?_;refine qB ?_;refine zai (fun h=>trivial) ?_;refine zai (fun h=>⟨⟨h,trivial⟩,trivial⟩) ?_;refine zai (fun h=>⟨⟨h,trivial⟩,trivial⟩) ?_;refine zai (fun h=>trivial) ?_;refine zai (fun h=>⟨⟨h,trivial⟩,trivial⟩) ?_;refine zai (fun h=>⟨⟨⟨h,trivial⟩,trivial⟩,by first|exact fun h2=>h2|(intro h2;rw [h,h2];rfl)|(intro h2;cases h2)|(intro h2;simp_all [gq])⟩) ?_;refine zai (by first|(intro h;rw [h];rfl)|(intro h;cases h)) ?_;refine qK rfl (fun h24=>?_) (fun h24=>?_)
  ·try simp only [decide_eq_true_eq,decide_eq_false_iff_not,Bool.and_eq_true,Bool.not_eq_true',Bool.or_eq_true] at h24
   try simp only [zds] at h24
   refine qC ?_;refine qB ?_;refine qL ?_;exact ⟨rfl,⟨rfl,rfl⟩,rfl⟩
  ·try simp only [decide_eq_true_eq,decide_eq_false_iff_not,Bool.not_eq_false',Bool.or_eq_false_iff,Bool.and_eq_false_iff,Int.not_lt] at h24
   try simp only [zds] at h24
   simp at h24;omega
theorem lIns_bad {κ : Nat} (es : List Ent) (n m id : Int) (f : List Fld) (h : ¬ (atE es id < 0 ∧ id ≠ 0)) (hf : yJ f) (hc : (chkR f).2 ≠ 0) : qX Tryz.prog 85 [.one (.own 0 0),ii .i64 id,.one (.slk κ rFld f)] (lsO (es,n,m)) 2 (.tup [(false,[.lit (.int .i64 0)]),(false,[chkA f])]) (lsO (es,n,m)) 2:=by
  have hpi:=pitem_err (κ:=κ) hf hc;obtain ⟨e,he,hs⟩:=chk_bad hc;rw [he] at hpi ⊢;rcases hs with ⟨x,hx,rfl,_⟩|⟨j,x,hx,rfl,_⟩
  ·
    refine qT (rs:=[6,7]) Tryz.func85 rfl rfl rfl teOk (by decide) rfl ?_;refine qC ?_;refine qB ?_;refine qC ?_;refine qB ?_;refine Or.inr (Or.inr (Or.inl ?_));refine zai rfl ?_;refine zei _ (zai (at_c es n m id) ?_);refine qC ?_;refine qC ?_;refine qB ?_;refine zai (fun h=>trivial) ?_;refine zai (fun h=>⟨⟨h,trivial⟩,trivial⟩) ?_;refine zai (fun h=>⟨⟨h,trivial⟩,trivial⟩) ?_;refine zai (fun h=>trivial) ?_;refine zai (fun h=>⟨⟨h,trivial⟩,trivial⟩) ?_;refine zai (fun h=>⟨⟨⟨h,trivial⟩,trivial⟩,by first|exact fun h2=>h2|(intro h2;rw [h,h2];rfl)|(intro h2;cases h2)|(intro h2;simp_all [gq])⟩) ?_;refine zai (by first|(intro h;rw [h];rfl)|(intro h;cases h)) ?_;refine qK rfl (fun h24=>?_) (fun h24=>?_)
    ·try simp only [decide_eq_true_eq,decide_eq_false_iff_not,Bool.and_eq_true,Bool.not_eq_true',Bool.or_eq_true] at h24
     try simp only [zds] at h24
     exact absurd (by simpa using h24) h
    ·try simp only [decide_eq_true_eq,decide_eq_false_iff_not,Bool.not_eq_false',Bool.or_eq_false_iff,Bool.and_eq_false_iff,Int.not_lt] at h24
     try simp only [zds] at h24
     refine qM ?_;refine qC ?_;refine qB ?_;refine Or.inl ?_;refine zai (rfl) ?_;refine zei _ (zai (hpi) ?_);refine qC ?_;refine qO ?_;refine qC ?_;refine qB ?_;refine qK rfl (fun h31=>?_) (fun h31=>?_)
     ·skip
      refine qC ?_;refine qB ?_;refine qL ?_;exact ⟨rfl,⟨rfl,rfl⟩,rfl⟩
     ·try simp only [zbq] at h31
      try simp only [zds] at h31
      cases h31
  ·
    refine qT (rs:=[6,7]) Tryz.func85 rfl rfl rfl teOk (by decide) rfl ?_;refine qC ?_;refine qB ?_;refine qC ?_;refine qB ?_;refine Or.inr (Or.inr (Or.inl ?_));refine zai rfl ?_;refine zei _ (zai (at_c es n m id) ?_);refine qC ?_;refine qC ?_;refine qB ?_;refine zai (fun h=>trivial) ?_;refine zai (fun h=>⟨⟨h,trivial⟩,trivial⟩) ?_;refine zai (fun h=>⟨⟨h,trivial⟩,trivial⟩) ?_;refine zai (fun h=>trivial) ?_;refine zai (fun h=>⟨⟨h,trivial⟩,trivial⟩) ?_;refine zai (fun h=>⟨⟨⟨h,trivial⟩,trivial⟩,by first|exact fun h2=>h2|(intro h2;rw [h,h2];rfl)|(intro h2;cases h2)|(intro h2;simp_all [gq])⟩) ?_;refine zai (by first|(intro h;rw [h];rfl)|(intro h;cases h)) ?_;refine qK rfl (fun h24=>?_) (fun h24=>?_)
    ·try simp only [decide_eq_true_eq,decide_eq_false_iff_not,Bool.and_eq_true,Bool.not_eq_true',Bool.or_eq_true] at h24
     try simp only [zds] at h24
     exact absurd (by simpa using h24) h
    ·try simp only [decide_eq_true_eq,decide_eq_false_iff_not,Bool.not_eq_false',Bool.or_eq_false_iff,Bool.and_eq_false_iff,Int.not_lt] at h24
     try simp only [zds] at h24
     refine qM ?_;refine qC ?_;refine qB ?_;refine Or.inl ?_;refine zai (rfl) ?_;refine zei _ (zai (hpi) ?_);refine qC ?_;refine qO ?_;refine qC ?_;refine qB ?_;refine qK rfl (fun h31=>?_) (fun h31=>?_)
     ·skip
      refine qC ?_;refine qB ?_;refine qL ?_;exact ⟨rfl,⟨rfl,rfl⟩,rfl⟩
     ·try simp only [zbq] at h31
      try simp only [zds] at h31
      cases h31
theorem lIns_full {κ : Nat} (es : List Ent) (n m id : Int) (f : List Fld) (h : ¬ (atE es id < 0 ∧ id ≠ 0)) (hf : yJ f) (hc : (chkR f).2 = 0) (hm : 400 ≤ m) : qX Tryz.prog 85 [.one (.own 0 0),ii .i64 id,.one (.slk κ rFld f)] (lsO (es,n,m)) 2 (.tup [(false,[.lit (.int .i64 0)]),(false,[errN 11])]) (lsO (es,n,m)) 2:=by
  refine qT (rs:=[6,7]) Tryz.func85 rfl rfl rfl teOk (by decide) rfl ?_;refine qC ?_;refine qB ?_;refine qC ?_;refine qB ?_;refine Or.inr (Or.inr (Or.inl ?_));refine zai rfl ?_;refine zei _ (zai (at_c es n m id) ?_);refine qC ?_;refine qC ?_;refine qB ?_;refine zai (fun h=>trivial) ?_;refine zai (fun h=>⟨⟨h,trivial⟩,trivial⟩) ?_;refine zai (fun h=>⟨⟨h,trivial⟩,trivial⟩) ?_;refine zai (fun h=>trivial) ?_;refine zai (fun h=>⟨⟨h,trivial⟩,trivial⟩) ?_;refine zai (fun h=>⟨⟨⟨h,trivial⟩,trivial⟩,by first|exact fun h2=>h2|(intro h2;rw [h,h2];rfl)|(intro h2;cases h2)|(intro h2;simp_all [gq])⟩) ?_;refine zai (by first|(intro h;rw [h];rfl)|(intro h;cases h)) ?_;refine qK rfl (fun h24=>?_) (fun h24=>?_)
  ·try simp only [decide_eq_true_eq,decide_eq_false_iff_not,Bool.and_eq_true,Bool.not_eq_true',Bool.or_eq_true] at h24
   try simp only [zds] at h24
   exact absurd (by simpa using h24) h
  ·try simp only [decide_eq_true_eq,decide_eq_false_iff_not,Bool.not_eq_false',Bool.or_eq_false_iff,Bool.and_eq_false_iff,Int.not_lt] at h24
   try simp only [zds] at h24
   refine qM ?_;refine qC ?_;refine qB ?_;refine Or.inl ?_;refine zai (rfl) ?_;refine zei _ (zai (pitem_ok hf hc) ?_);refine qC ?_;refine qO ?_;refine qC ?_;refine qB ?_;refine qK rfl (fun h31=>?_) (fun h31=>?_)
   ·try simp only [Bool.not_eq_true'] at h31
    try simp only [zds] at h31
    cases h31
   ·try simp only [Bool.not_eq_false'] at h31
    try simp only [zds] at h31
    refine qC ?_;refine qB ?_;refine qK rfl (fun h35=>?_) (fun h35=>?_)
    ·try simp only [decide_eq_true_eq] at h35
     try simp only [zds] at h35
     refine qC ?_;refine qB ?_;refine qL ?_;exact ⟨rfl,⟨rfl,rfl⟩,rfl⟩
    ·try simp only [decide_eq_false_iff_not,Int.not_le] at h35
     try simp only [zds] at h35
     omega
theorem lIns_ok {κ : Nat} (es : List Ent) (n m id : Int) (f : List Fld) (j : Nat) (hj : j ≤ es.length) (h : ¬ (atE es id < 0 ∧ id ≠ 0)) (ha : atE es id + 1 = (j : Int)) (hf : yJ f) (hc : (chkR f).2 = 0) (hm : 0 ≤ m ∧ m < 400) (hn : 0 ≤ n ∧ n ≤ 1000000000) (hl : es.length ≤ 1000000) : qX Tryz.prog 85 [.one (.own 0 0),ii .i64 id,.one (.slk κ rFld f)] (lsO (es,n,m)) 2 (.tup [(false,[.lit (.int .i64 n)]),(false,[.lit .nilIface])]) (lsO (insE es j (itmOf f,n),n + 1,m + 1)) 2:=by
  have hins:=insert_x es (itmOf f,n) j hj hl;rw [← ha] at hins;refine qT (rs:=[6,7]) Tryz.func85 rfl rfl rfl teOk (by decide) rfl ?_;refine qC ?_;refine qB ?_;refine qC ?_;refine qB ?_;refine Or.inr (Or.inr (Or.inl ?_));refine zai rfl ?_;refine zei _ (zai (at_c es n m id) ?_);refine qC ?_;refine qC ?_;refine qB ?_;refine zai (fun h=>trivial) ?_;refine zai (fun h=>⟨⟨h,trivial⟩,trivial⟩) ?_;refine zai (fun h=>⟨⟨h,trivial⟩,trivial⟩) ?_;refine zai (fun h=>trivial) ?_;refine zai (fun h=>⟨⟨h,trivial⟩,trivial⟩) ?_;refine zai (fun h=>⟨⟨⟨h,trivial⟩,trivial⟩,by first|exact fun h2=>h2|(intro h2;rw [h,h2];rfl)|(intro h2;cases h2)|(intro h2;simp_all [gq])⟩) ?_;refine zai (by first|(intro h;rw [h];rfl)|(intro h;cases h)) ?_;refine qK rfl (fun h24=>?_) (fun h24=>?_)
  ·try simp only [decide_eq_true_eq,decide_eq_false_iff_not,Bool.and_eq_true,Bool.not_eq_true',Bool.or_eq_true] at h24
   try simp only [zds] at h24
   exact absurd (by simpa using h24) h
  ·try simp only [decide_eq_true_eq,decide_eq_false_iff_not,Bool.not_eq_false',Bool.or_eq_false_iff,Bool.and_eq_false_iff,Int.not_lt] at h24
   try simp only [zds] at h24
   refine qM ?_;refine qC ?_;refine qB ?_;refine Or.inl ?_;refine zai (rfl) ?_;refine zei _ (zai (pitem_ok hf hc) ?_);refine qC ?_;refine qO ?_;refine qC ?_;refine qB ?_;refine qK rfl (fun h31=>?_) (fun h31=>?_)
   ·try simp only [Bool.not_eq_true'] at h31
    try simp only [zds] at h31
    cases h31
   ·try simp only [Bool.not_eq_false'] at h31
    try simp only [zds] at h31
    refine qC ?_;refine qB ?_;refine qK rfl (fun h35=>?_) (fun h35=>?_)
    ·try simp only [decide_eq_true_eq] at h35
     try simp only [zds] at h35
     omega
    ·try simp only [decide_eq_false_iff_not,Int.not_le] at h35
     try simp only [zds] at h35
     refine qM ?_;refine qC ?_;refine qB ?_;refine qC ?_;refine yX rfl ?_;refine qJ 0 rfl rfl rfl (by kernel_rfl) ?_;refine qJ 1 rfl rfl rfl (by kernel_rfl) ?_;refine qJ 2 rfl rfl rfl (by kernel_rfl) ?_;refine qJ 3 rfl rfl rfl (by kernel_rfl) ?_;refine qJ 5 rfl rfl rfl (by kernel_rfl) ?_;refine qJ 6 rfl rfl rfl (by kernel_rfl) ?_;refine zai (by first|omega|assumption|decide|(simp only [zds];omega)|(simp <;> omega)) ?_;refine qJ 8 rfl rfl rfl (by kernel_rfl) ?_;refine qG [4,7] (by kernel_rfl) rfl ?_;refine zai ?_ ?_
     ·refine qG [7] (by kernel_rfl) rfl ?_;refine qG [9] (by kernel_rfl) rfl ?_;refine qG [10] (by kernel_rfl) rfl ?_;refine qG [11] (by kernel_rfl) rfl ?_;refine Or.inr (Or.inr (Or.inr (zei [1,3] (zei [] (zei _ (zei _ (zei _ (zei _ (zei _ (zai (hins) (zai rfl (zai (zai (zai rfl rfl) (zai (zai rfl rfl) True.intro)) (zai rfl ?_)))))))))))));refine qJ 12 rfl rfl rfl (by kernel_rfl) ?_;refine qJ 13 rfl rfl rfl (by kernel_rfl) ?_;refine qG [14] (by kernel_rfl) rfl ?_;refine qN (by kernel_rfl) ?_;refine qC ?_;refine qB ?_;refine zai (by first|omega|assumption|decide|(simp only [];omega)|(simp <;> omega)) ?_;refine qC ?_;refine qB ?_;refine zai (by first|omega|assumption|decide|(simp only [];omega)|(simp <;> omega)) ?_;refine qC ?_;refine qB ?_;refine qL ?_;exact ⟨rfl,⟨rfl,rfl⟩,rfl⟩
     ·refine qG [4,9] (by kernel_rfl) rfl ?_;refine zai ?_ ?_
      ·refine qG [9] (by kernel_rfl) rfl ?_;refine qG [10] (by kernel_rfl) rfl ?_;refine qG [11] (by kernel_rfl) rfl ?_;refine Or.inr (Or.inr (Or.inr (zei [1,3] (zei [] (zei _ (zei _ (zei _ (zei _ (zei _ (zai (hins) (zai rfl (zai (zai (zai rfl rfl) (zai (zai rfl rfl) True.intro)) (zai rfl ?_)))))))))))));refine qJ 12 rfl rfl rfl (by kernel_rfl) ?_;refine qJ 13 rfl rfl rfl (by kernel_rfl) ?_;refine qG [14] (by kernel_rfl) rfl ?_;refine qN (by kernel_rfl) ?_;refine qC ?_;refine qB ?_;refine zai (by first|omega|assumption|decide|(simp only [];omega)|(simp <;> omega)) ?_;refine qC ?_;refine qB ?_;refine zai (by first|omega|assumption|decide|(simp only [];omega)|(simp <;> omega)) ?_;refine qC ?_;refine qB ?_;refine qL ?_;exact ⟨rfl,⟨rfl,rfl⟩,rfl⟩
      ·refine qG [4,10] (by kernel_rfl) rfl ?_;refine zai ?_ ?_
       ·refine qG [10] (by kernel_rfl) rfl ?_;refine qG [11] (by kernel_rfl) rfl ?_;refine Or.inr (Or.inr (Or.inr (zei [1,3] (zei [] (zei _ (zei _ (zei _ (zei _ (zei _ (zai (hins) (zai rfl (zai (zai (zai rfl rfl) (zai (zai rfl rfl) True.intro)) (zai rfl ?_)))))))))))));refine qJ 12 rfl rfl rfl (by kernel_rfl) ?_;refine qJ 13 rfl rfl rfl (by kernel_rfl) ?_;refine qG [14] (by kernel_rfl) rfl ?_;refine qN (by kernel_rfl) ?_;refine qC ?_;refine qB ?_;refine zai (by first|omega|assumption|decide|(simp only [];omega)|(simp <;> omega)) ?_;refine qC ?_;refine qB ?_;refine zai (by first|omega|assumption|decide|(simp only [];omega)|(simp <;> omega)) ?_;refine qC ?_;refine qB ?_;refine qL ?_;exact ⟨rfl,⟨rfl,rfl⟩,rfl⟩
       ·refine qG [4] (by kernel_rfl) rfl ?_;refine qG [11] (by kernel_rfl) rfl ?_;refine Or.inr (Or.inr (Or.inr (zei [1,3] (zei [] (zei _ (zei _ (zei _ (zei _ (zei _ (zai (hins) (zai rfl (zai (zai (zai rfl rfl) (zai (zai rfl rfl) True.intro)) (zai rfl ?_)))))))))))));refine qJ 12 rfl rfl rfl (by kernel_rfl) ?_;refine qJ 13 rfl rfl rfl (by kernel_rfl) ?_;refine qG [14] (by kernel_rfl) rfl ?_;refine qN (by kernel_rfl) ?_;refine qC ?_;refine qB ?_;refine zai (by first|omega|assumption|decide|(simp only [];omega)|(simp <;> omega)) ?_;refine qC ?_;refine qB ?_;refine zai (by first|omega|assumption|decide|(simp only [];omega)|(simp <;> omega)) ?_;refine qC ?_;refine qB ?_;refine qL ?_;exact ⟨rfl,⟨rfl,rfl⟩,rfl⟩
end Q
end Ab
end Go.Proofs.YtpfkncffaanjcaaGreatDoor
namespace Go.Proofs.YtpfkncffaanjcaaGreatDoor
open Go.RowKit
namespace Ab
set_option maxRecDepth 100000
abbrev Edt:=Int × Int × List Fld
abbrev rEdt : Rd Edt:=.st (.int .i64) (.st (.int .i64) (.sl rFld))
namespace Q
def heavyB (l : List Edt) : Bool:=decide (51 < l.length) || l.any fun e=>muchB e.2.2
def spF : Fld:=(⟨#[115,112,111,105,108,116]⟩,⟨#[115,112,111,105,108,116]⟩)
theorem fieldsk_c {κ : Nat} (a b : List Fld) : qU Tryz.prog 60 [.one (.slk κ rFld a),.one (.sl rFld b)] (ib (decide (a = b))):=by
  refine qW (rs:=[4]) Tryz.func60 rfl rfl rfl teOk rfl ?_;refine qC ?_;refine qB ?_;refine qC ?_;refine qC ?_;refine qB ?_;intro l1_1
  try simp only [zds] at l1_1
  intro l1_3
  try simp only [zds] at l1_3
  refine qK rfl (fun h10=>?_) (fun h10=>?_)
  ·try simp only [decide_eq_false_iff_not,Bool.not_eq_true'] at h10
   try simp only [zds] at h10
   refine qC ?_;refine qB ?_;refine qL ?_;exact ib_eq (decide_eq_false (fun e=>by rw [e] at h10;omega)).symm
  ·try simp only [decide_eq_true_eq,Bool.not_eq_false'] at h10
   try simp only [zds] at h10
   refine qM ?_;refine qC ?_;refine qC ?_;refine qB ?_;intro l3_1
   try simp only [zds] at l3_1
   refine qO ?_;refine qV (fun (i : Nat)=>i ≤ a.length ∧ a.take i = b.take i) (fun (i : Nat)=>[(0,.one (.slk κ rFld a)),(1,.one (.sl rFld b)),(12,ii .i64 a.length),(13,ii .i64 i)]) (fun (i : Nat)=>[]) 0 (fun (i : Nat)=>a.length - i) 0 (⟨Nat.zero_le _,by simp⟩) (qQ ⟨rfl,rfl,rfl,rfl⟩ trivial rfl) ?_;intro i hI0;obtain ⟨hi,ht⟩:=hI0;refine qC ?_;refine qB ?_;refine qC ?_;refine qK rfl (fun h14=>?_) (fun h14=>?_)
   ·try simp only [decide_eq_true_eq] at h14
    try simp only [zds] at h14
    have hla : i < a.length:=by omega
    have hlb : i < b.length:=by omega
    refine qM ?_;refine qC ?_;refine qO ?_;refine qC ?_;refine qB ?_;refine qC ?_;refine acode_draw rfl (by kernel_rfl) ?_;refine zai (by first|omega|assumption|decide|(simp only [zds];omega)|(simp <;> omega)) ?_;refine zai (by first|omega|assumption|decide|(simp only [zds];omega)|(simp <;> omega)) ?_;refine zai (by rfl) ?_;refine qK rfl (fun h24=>?_) (fun h24=>?_)
    ·try simp only [decide_eq_false_iff_not,Bool.not_eq_true',Bool.and_eq_false_iff] at h24
     try simp only [Int.toNat_natCast,qH,qF] at h24
     refine qC ?_;refine qB ?_;refine qL ?_;exact ib_eq (decide_eq_false (ne_at (i:=i) (ByteArray.empty,ByteArray.empty) (fun e=>h24.elim (fun h=>h (congrArg Prod.fst e)) (fun h=>h (congrArg Prod.snd e))))).symm
    ·try simp only [decide_eq_true_eq,Bool.and_eq_true,Bool.not_eq_false'] at h24
     try simp only [Int.toNat_natCast,qH,qF] at h24
     refine qM ?_;refine qB ?_;refine zai (by first|omega|assumption|decide|(simp only [zds];omega)|(simp <;> omega)) ?_;exact ⟨i + 1,⟨by omega,list_ext_take (ByteArray.empty,ByteArray.empty) hla hlb ht (Prod.ext h24.1 h24.2)⟩,by first|omega|(simp <;> omega),qQ ⟨rfl,rfl,rfl,(qR (by omega))⟩ trivial rfl⟩
   ·try simp only [decide_eq_false_iff_not,Int.not_lt] at h14
    try simp only [zds] at h14
    refine qZ ?_;refine qC ?_;refine qB ?_;refine qL ?_;exact ib_eq (decide_eq_true (by rw [List.take_of_length_le (by omega),List.take_of_length_le (by omega)] at ht;exact ht)).symm
end Q
end Ab
end Go.Proofs.YtpfkncffaanjcaaGreatDoor
namespace Go.Proofs.YtpfkncffaanjcaaGreatDoor
open Go.RowKit
namespace Ab
set_option maxRecDepth 100000
namespace Q
theorem itEs_len (es : List Ent) : (itEs es).length = (es.filter live).length:=List.length_map _
theorem itEs_get (es : List Ent) {i : Nat} (h : i < (itEs es).length) : ∃ e ∈ es,(es.filter live).getD i (((0 : Int),ByteArray.empty,([] : List Fld)),(0 : Int)) = e ∧ i < (es.filter live).length ∧ (itEs es)[i] = [A.agg (toL rEnt e)]:=by
  have h1 : i < (es.filter live).length:=by rw [← itEs_len];exact h
  refine ⟨_,(List.mem_filter.1 (yT h1 (((0 : Int),ByteArray.empty,([] : List Fld)),(0 : Int)))).1,rfl,h1,?_⟩;exact (List.getElem_map (fun e=>[A.agg (toL rEnt e)])).trans (congrArg (fun e=>[A.agg (toL rEnt e)]) (getD_get h1 (((0 : Int),ByteArray.empty,([] : List Fld)),(0 : Int))))
def stT (es : List Ent) (i : Nat) : List Stz:=((es.filter live).take i).map stzOf
theorem stT_snoc {es : List Ent} {i : Nat} (h : i < (es.filter live).length) : stT es (i + 1) = stT es i ++ [stzOf ((es.filter live).getD i (((0 : Int),ByteArray.empty,([] : List Fld)),(0 : Int)))]:=by
  unfold stT;rw [← yI (((0 : Int),ByteArray.empty,([] : List Fld)),(0 : Int)) h,List.map_append];rfl
theorem stT_len {es : List Ent} {i : Nat} : (stT es i).length ≤ i:=by
  unfold stT;rw [List.length_map,List.length_take];omega
theorem live_len (es : List Ent) : (es.filter live).length ≤ es.length:=List.length_filter_le _ _
theorem stanzasL_c {k : Nat} (es : List Ent) (n m : Int) (hl : es.length ≤ 1000000) (hf : ∀ e ∈ es,e.1.2.2.length ≤ 1000000) : qU Tryz.prog 23 [.one (.adk k (rLst k) (es,n,m))] (.one (.sl rStz (stzL es))):=by
  have hll:=live_len es;refine qW (rs:=[2]) Tryz.func23 rfl rfl rfl teOk rfl ?_;refine qC ?_;refine qB ?_;refine qC ?_;refine qB ?_;refine qC ?_;refine qC ?_;refine qB ?_;refine Or.inl ?_;refine zai (rfl) ?_;refine zei _ (zai (all_c (es,n,m)) ?_);refine qO ?_;refine yE 0 0 104 rStz rfl rfl rfl ?_;refine acode_range (caps:=[.one (.ref (.adk k (rLst k) (es,n,m)))]) (xs:=itEs es) [(3,.one (.own 0 0)),(6,.one (.clo 95 (.ref (.adk k (rLst k) (es,n,m)))))] 2 (fun st j (i : Nat)=>st = false ∧ i = j) (fun i=>[(0,.box 49 [.vec 1]),(1,.vec 104 rStz (stT es i))]) (fun _=>.ret) 0 rfl rfl (all_iter es n m) (qQ ⟨rfl,rfl⟩ ⟨rfl,rfl⟩ rfl) ⟨rfl,rfl⟩ (fun j hj=>by simp [itEs]) rfl rfl rfl (fun _ _ _=>rfl) rfl ?_ ?_ ?_
  ·intro j i hk hp;obtain ⟨_,rfl⟩:=hp;obtain ⟨e,he,hg,hi,hx⟩:=itEs_get es hk;rw [hx];have hsn:=stT_snoc hi;rw [hg] at hsn;have hsl:=@stT_len es i;refine qB ?_;refine qO ?_;refine yX rfl ?_;refine qJ 1 rfl rfl rfl (by kernel_rfl) ?_;refine qJ 3 rfl rfl rfl (by kernel_rfl) ?_;refine qJ 4 rfl rfl rfl (by kernel_rfl) ?_;refine qG [0,2,5] (by kernel_rfl) rfl ?_;refine zai ?_ ?_
   ·refine qG [2,5] (by kernel_rfl) rfl ?_;refine zai ?_ ?_
    ·refine qG [5] (by kernel_rfl) rfl ?_;refine qG [6] (by kernel_rfl) rfl ?_;refine Or.inl ?_;refine zai (rfl) ?_;refine zei _ (zai (clone_c e.1.2.2 (hf e he)) ?_);refine qG [7] (by kernel_rfl) rfl ?_;refine qG [8] (by kernel_rfl) rfl ?_;refine qG [9] (by kernel_rfl) rfl ?_;refine zai (by exact qP (show (stT es i).length + 1 ≤ 1000000000 by omega) (by decide)) ?_;refine qG [10] (by kernel_rfl) rfl ?_;refine qN (by kernel_rfl) ?_;exact ⟨i + 1,⟨rfl,rfl⟩,qQ trivial ⟨rfl,qS (by rw [hsn];exact rfl)⟩ rfl⟩
    ·refine qG [2,6] (by kernel_rfl) rfl ?_;refine zai ?_ ?_
     ·refine qG [6] (by kernel_rfl) rfl ?_;refine Or.inl ?_;refine zai (rfl) ?_;refine zei _ (zai (clone_c e.1.2.2 (hf e he)) ?_);refine qG [7] (by kernel_rfl) rfl ?_;refine qG [8] (by kernel_rfl) rfl ?_;refine qG [9] (by kernel_rfl) rfl ?_;refine zai (by exact qP (show (stT es i).length + 1 ≤ 1000000000 by omega) (by decide)) ?_;refine qG [10] (by kernel_rfl) rfl ?_;refine qN (by kernel_rfl) ?_;exact ⟨i + 1,⟨rfl,rfl⟩,qQ trivial ⟨rfl,qS (by rw [hsn];exact rfl)⟩ rfl⟩
     ·refine Or.inl ?_;refine zai (rfl) ?_;refine zei _ (zai (clone_c e.1.2.2 (hf e he)) ?_);refine qG [2] (by kernel_rfl) rfl ?_;refine qG [7] (by kernel_rfl) rfl ?_;refine qG [8] (by kernel_rfl) rfl ?_;refine qG [9] (by kernel_rfl) rfl ?_;refine zai (by exact qP (show (stT es i).length + 1 ≤ 1000000000 by omega) (by decide)) ?_;refine qG [10] (by kernel_rfl) rfl ?_;refine qN (by kernel_rfl) ?_;exact ⟨i + 1,⟨rfl,rfl⟩,qQ trivial ⟨rfl,qS (by rw [hsn];exact rfl)⟩ rfl⟩
   refine zai ?_ ?_
   ·refine qG [0,5] (by kernel_rfl) rfl ?_;refine zai ?_ ?_
    ·refine qG [5] (by kernel_rfl) rfl ?_;refine qG [6] (by kernel_rfl) rfl ?_;refine Or.inl ?_;refine zai (rfl) ?_;refine zei _ (zai (clone_c e.1.2.2 (hf e he)) ?_);refine qG [7] (by kernel_rfl) rfl ?_;refine qG [8] (by kernel_rfl) rfl ?_;refine qG [9] (by kernel_rfl) rfl ?_;refine zai (by exact qP (show (stT es i).length + 1 ≤ 1000000000 by omega) (by decide)) ?_;refine qG [10] (by kernel_rfl) rfl ?_;refine qN (by kernel_rfl) ?_;exact ⟨i + 1,⟨rfl,rfl⟩,qQ trivial ⟨rfl,qS (by rw [hsn];exact rfl)⟩ rfl⟩
    ·refine qG [0,6] (by kernel_rfl) rfl ?_;refine zai ?_ ?_
     ·refine qG [6] (by kernel_rfl) rfl ?_;refine Or.inl ?_;refine zai (rfl) ?_;refine zei _ (zai (clone_c e.1.2.2 (hf e he)) ?_);refine qG [7] (by kernel_rfl) rfl ?_;refine qG [8] (by kernel_rfl) rfl ?_;refine qG [9] (by kernel_rfl) rfl ?_;refine zai (by exact qP (show (stT es i).length + 1 ≤ 1000000000 by omega) (by decide)) ?_;refine qG [10] (by kernel_rfl) rfl ?_;refine qN (by kernel_rfl) ?_;exact ⟨i + 1,⟨rfl,rfl⟩,qQ trivial ⟨rfl,qS (by rw [hsn];exact rfl)⟩ rfl⟩
     ·refine Or.inl ?_;refine zai (rfl) ?_;refine zei _ (zai (clone_c e.1.2.2 (hf e he)) ?_);refine qG [0,7] (by kernel_rfl) rfl ?_;refine zai ?_ ?_
      ·refine qG [7] (by kernel_rfl) rfl ?_;refine qG [8] (by kernel_rfl) rfl ?_;refine qG [9] (by kernel_rfl) rfl ?_;refine zai (by exact qP (show (stT es i).length + 1 ≤ 1000000000 by omega) (by decide)) ?_;refine qG [10] (by kernel_rfl) rfl ?_;refine qN (by kernel_rfl) ?_;exact ⟨i + 1,⟨rfl,rfl⟩,qQ trivial ⟨rfl,qS (by rw [hsn];exact rfl)⟩ rfl⟩
      ·refine qG [0,8] (by kernel_rfl) rfl ?_;refine zai ?_ ?_
       ·refine qG [8] (by kernel_rfl) rfl ?_;refine qG [9] (by kernel_rfl) rfl ?_;refine zai (by exact qP (show (stT es i).length + 1 ≤ 1000000000 by omega) (by decide)) ?_;refine qG [10] (by kernel_rfl) rfl ?_;refine qN (by kernel_rfl) ?_;exact ⟨i + 1,⟨rfl,rfl⟩,qQ trivial ⟨rfl,qS (by rw [hsn];exact rfl)⟩ rfl⟩
       ·refine qG [0] (by kernel_rfl) rfl ?_;refine qG [9] (by kernel_rfl) rfl ?_;refine zai (by exact qP (show (stT es i).length + 1 ≤ 1000000000 by omega) (by decide)) ?_;refine qG [10] (by kernel_rfl) rfl ?_;refine qN (by kernel_rfl) ?_;exact ⟨i + 1,⟨rfl,rfl⟩,qQ trivial ⟨rfl,qS (by rw [hsn];exact rfl)⟩ rfl⟩
   ·refine qG [0,2,6] (by kernel_rfl) rfl ?_;refine zai ?_ ?_
    ·refine qG [2,6] (by kernel_rfl) rfl ?_;refine zai ?_ ?_
     ·refine qG [6] (by kernel_rfl) rfl ?_;refine Or.inl ?_;refine zai (rfl) ?_;refine zei _ (zai (clone_c e.1.2.2 (hf e he)) ?_);refine qG [7] (by kernel_rfl) rfl ?_;refine qG [8] (by kernel_rfl) rfl ?_;refine qG [9] (by kernel_rfl) rfl ?_;refine zai (by exact qP (show (stT es i).length + 1 ≤ 1000000000 by omega) (by decide)) ?_;refine qG [10] (by kernel_rfl) rfl ?_;refine qN (by kernel_rfl) ?_;exact ⟨i + 1,⟨rfl,rfl⟩,qQ trivial ⟨rfl,qS (by rw [hsn];exact rfl)⟩ rfl⟩
     ·refine Or.inl ?_;refine zai (rfl) ?_;refine zei _ (zai (clone_c e.1.2.2 (hf e he)) ?_);refine qG [2] (by kernel_rfl) rfl ?_;refine qG [7] (by kernel_rfl) rfl ?_;refine qG [8] (by kernel_rfl) rfl ?_;refine qG [9] (by kernel_rfl) rfl ?_;refine zai (by exact qP (show (stT es i).length + 1 ≤ 1000000000 by omega) (by decide)) ?_;refine qG [10] (by kernel_rfl) rfl ?_;refine qN (by kernel_rfl) ?_;exact ⟨i + 1,⟨rfl,rfl⟩,qQ trivial ⟨rfl,qS (by rw [hsn];exact rfl)⟩ rfl⟩
    refine zai ?_ ?_
    ·refine qG [0,6] (by kernel_rfl) rfl ?_;refine zai ?_ ?_
     ·refine qG [6] (by kernel_rfl) rfl ?_;refine Or.inl ?_;refine zai (rfl) ?_;refine zei _ (zai (clone_c e.1.2.2 (hf e he)) ?_);refine qG [7] (by kernel_rfl) rfl ?_;refine qG [8] (by kernel_rfl) rfl ?_;refine qG [9] (by kernel_rfl) rfl ?_;refine zai (by exact qP (show (stT es i).length + 1 ≤ 1000000000 by omega) (by decide)) ?_;refine qG [10] (by kernel_rfl) rfl ?_;refine qN (by kernel_rfl) ?_;exact ⟨i + 1,⟨rfl,rfl⟩,qQ trivial ⟨rfl,qS (by rw [hsn];exact rfl)⟩ rfl⟩
     ·refine Or.inl ?_;refine zai (rfl) ?_;refine zei _ (zai (clone_c e.1.2.2 (hf e he)) ?_);refine qG [0,7] (by kernel_rfl) rfl ?_;refine zai ?_ ?_
      ·refine qG [7] (by kernel_rfl) rfl ?_;refine qG [8] (by kernel_rfl) rfl ?_;refine qG [9] (by kernel_rfl) rfl ?_;refine zai (by exact qP (show (stT es i).length + 1 ≤ 1000000000 by omega) (by decide)) ?_;refine qG [10] (by kernel_rfl) rfl ?_;refine qN (by kernel_rfl) ?_;exact ⟨i + 1,⟨rfl,rfl⟩,qQ trivial ⟨rfl,qS (by rw [hsn];exact rfl)⟩ rfl⟩
      ·refine qG [0,8] (by kernel_rfl) rfl ?_;refine zai ?_ ?_
       ·refine qG [8] (by kernel_rfl) rfl ?_;refine qG [9] (by kernel_rfl) rfl ?_;refine zai (by exact qP (show (stT es i).length + 1 ≤ 1000000000 by omega) (by decide)) ?_;refine qG [10] (by kernel_rfl) rfl ?_;refine qN (by kernel_rfl) ?_;exact ⟨i + 1,⟨rfl,rfl⟩,qQ trivial ⟨rfl,qS (by rw [hsn];exact rfl)⟩ rfl⟩
       ·refine qG [0] (by kernel_rfl) rfl ?_;refine qG [9] (by kernel_rfl) rfl ?_;refine zai (by exact qP (show (stT es i).length + 1 ≤ 1000000000 by omega) (by decide)) ?_;refine qG [10] (by kernel_rfl) rfl ?_;refine qN (by kernel_rfl) ?_;exact ⟨i + 1,⟨rfl,rfl⟩,qQ trivial ⟨rfl,qS (by rw [hsn];exact rfl)⟩ rfl⟩
    ·refine Or.inl ?_;refine zai (rfl) ?_;refine zei _ (zai (clone_c e.1.2.2 (hf e he)) ?_);refine qG [0,2] (by kernel_rfl) rfl ?_;refine zai ?_ ?_
     ·refine qG [2] (by kernel_rfl) rfl ?_;refine qG [7] (by kernel_rfl) rfl ?_;refine qG [8] (by kernel_rfl) rfl ?_;refine qG [9] (by kernel_rfl) rfl ?_;refine zai (by exact qP (show (stT es i).length + 1 ≤ 1000000000 by omega) (by decide)) ?_;refine qG [10] (by kernel_rfl) rfl ?_;refine qN (by kernel_rfl) ?_;exact ⟨i + 1,⟨rfl,rfl⟩,qQ trivial ⟨rfl,qS (by rw [hsn];exact rfl)⟩ rfl⟩
     ·refine qG [0,7] (by kernel_rfl) rfl ?_;refine zai ?_ ?_
      ·refine qG [7] (by kernel_rfl) rfl ?_;refine qG [8] (by kernel_rfl) rfl ?_;refine qG [9] (by kernel_rfl) rfl ?_;refine zai (by exact qP (show (stT es i).length + 1 ≤ 1000000000 by omega) (by decide)) ?_;refine qG [10] (by kernel_rfl) rfl ?_;refine qN (by kernel_rfl) ?_;exact ⟨i + 1,⟨rfl,rfl⟩,qQ trivial ⟨rfl,qS (by rw [hsn];exact rfl)⟩ rfl⟩
      ·refine qG [0,8] (by kernel_rfl) rfl ?_;refine zai ?_ ?_
       ·refine qG [8] (by kernel_rfl) rfl ?_;refine qG [9] (by kernel_rfl) rfl ?_;refine zai (by exact qP (show (stT es i).length + 1 ≤ 1000000000 by omega) (by decide)) ?_;refine qG [10] (by kernel_rfl) rfl ?_;refine qN (by kernel_rfl) ?_;exact ⟨i + 1,⟨rfl,rfl⟩,qQ trivial ⟨rfl,qS (by rw [hsn];exact rfl)⟩ rfl⟩
       ·refine qG [0] (by kernel_rfl) rfl ?_;refine qG [9] (by kernel_rfl) rfl ?_;refine zai (by exact qP (show (stT es i).length + 1 ≤ 1000000000 by omega) (by decide)) ?_;refine qG [10] (by kernel_rfl) rfl ?_;refine qN (by kernel_rfl) ?_;exact ⟨i + 1,⟨rfl,rfl⟩,qQ trivial ⟨rfl,qS (by rw [hsn];exact rfl)⟩ rfl⟩
  ·intro i hp;obtain ⟨_,rfl⟩:=hp;refine qC ?_;refine qB ?_;refine qL ?_;rw [show stT es (itEs es).length = stzL es from by unfold stT stzL;rw [itEs_len,List.take_length]];exact rfl
  ·intro j i hp;exact absurd hp.1 (by decide)
def SmallF (l : List Fld) : Prop:=∀ f ∈ l,f.1.size ≤ 1000 ∧ f.2.size ≤ 1000
structure GP (p : PSt) : Prop where
  flds : SmallF p.flds
  room : p.lns ≠ [] → p.full = false → p.flds.length < 40
  len : p.flds.length ≤ 40
  its : ∀ x ∈ p.its,SmallF x.2.2 ∧ x.2.2.length ≤ 40
theorem smallF_nil : SmallF []:=fun f hf=>by cases hf
theorem flush_gp {p q : PSt} (h : GP p) (hf : yP p = .inr q) : GP q:=by
  unfold yP at hf;split at hf
  · cases hf;exact h
  · rename_i h0;split at hf
    · cases hf
    · split at hf
      · cases hf
      · rename_i h1 h2;cases hf;have hr:=h.room h0 (by simpa using h2);refine ⟨fun f hf=>?_,fun h=>absurd rfl h,by simp only [List.length_append,List.length_cons,List.length_nil];omega,h.its⟩;rcases List.mem_append.1 hf with hf|hf
        · exact h.flds f hf
        · rw [List.mem_singleton.1 hf];rcases unf_cases (p.lns.map ls) with ⟨n,hn,e⟩|⟨k,v,e,hk,hv⟩
          · rw [e];exact ⟨by show (bytes []).size ≤ 1000;decide,by show (bytes []).size ≤ 1000;decide⟩
          · rw [e];simp only [yL];refine ⟨?_,hv⟩;unfold keyOk at hk;simp only [Bool.and_eq_true,decide_eq_true_eq] at hk;omega
theorem close_gp {q : PSt} (h : GP q) : GP (xS q):=by
  unfold xS;split
  · exact ⟨smallF_nil,fun _ _=>(by show 0 < 40;decide),(by show 0 ≤ 40;decide),h.its⟩
  · refine ⟨smallF_nil,fun _ _=>(by show 0 < 40;decide),(by show 0 ≤ 40;decide),fun x hx=>?_⟩;rcases List.mem_append.1 hx with hx|hx
    · exact h.its x hx
    · rw [List.mem_singleton.1 hx];exact ⟨h.flds,h.len⟩
theorem end_gp {p q : PSt} (h : GP p) (hf : endS p = .inr q) : GP q:=by
  unfold endS at hf;split at hf
  · cases hf
  · rename_i r e;cases hf;exact close_gp (flush_gp h e)
theorem begin_gp {p : PSt} (l : Lne) (h : GP p) : GP (xP p l):=by
  refine ⟨h.flds,fun _ hf=>?_,h.len,h.its⟩;have:=h.len;unfold xP at hf;simp only [Bool.or_eq_false_iff,decide_eq_false_iff_not] at hf;show p.flds.length < 40;omega
theorem ahead_gp {p q : PSt} {l : Lne} {k : Int} (h : GP p) (hf : yR p l k = .inr q) : GP q:=by
  unfold yR at hf;split at hf
  · split at hf
    · cases hf
    · rename_i h0;have h2 : GP { p with lns:=p.lns ++ [l.2.2.1] }:=⟨h.flds,fun _=>h.room h0,h.len,h.its⟩;split at hf
      · cases hf;exact h2
      · exact flush_gp h2 hf
  · split at hf
    · exact end_gp h hf
    · exact flush_gp h hf
theorem line_gp {p q : PSt} {l : Lne} {k : Int} (h : GP p) (hf : lineS p l k = .inr q) : GP q:=by
  unfold lineS at hf;split at hf
  · cases hf
  · split at hf
    · cases hf;refine ⟨h.flds,h.room,h.len,fun x hx=>?_⟩;rcases List.mem_append.1 hx with hx|hx
      · exact h.its x hx
      · rw [List.mem_singleton.1 hx];exact ⟨smallF_nil,by show 0 ≤ 40;decide⟩
    · split at hf
      · cases hf;have:=begin_gp l h;exact ⟨this.flds,this.room,this.len,this.its⟩
      · cases hf;exact ⟨h.flds,h.room,h.len,h.its⟩
theorem take_gp {p q : PSt} {l : Lne} (h : GP p) (hf : yS p l = .inr q) : GP q:=by
  unfold yS at hf;split at hf
  · cases hf
  · rename_i r e;exact line_gp (ahead_gp h e) hf
theorem run_gp : ∀ (L : List Lne) {p q : PSt},GP p → runS p L = .inr q → GP q
  | [],p,q,h,hf=>by
    cases hf;exact h
  | l :: r,p,q,h,hf=>by
    unfold runS at hf;split at hf
    · cases hf
    · rename_i t e;exact run_gp r (take_gp h e) hf
theorem items_small {s : ByteArray} {l : List Itm} (hp : xG s = .inr l) : ∀ x ∈ l,SmallF x.2.2 ∧ x.2.2.length ≤ 40:=by
  unfold xG at hp;split at hp
  · cases hp
  · rename_i p e;split at hp
    · cases hp
    · rename_i q e2;cases hp;exact (end_gp (run_gp _ ⟨smallF_nil,fun h=>absurd rfl h,by decide,fun x hx=>by cases hx⟩ e) e2).its
theorem fldsOk_of {l : List Fld} (h : SmallF l) (hl : l.length ≤ 40) : yJ l:=⟨by omega,fun f hf=>by have:=h f hf;omega⟩
abbrev RLs:=List Ent × Int
abbrev rRL : Rd RLs:=.st (.sl rEnt) (.int .i64)
theorem parse_ne {s : ByteArray} {at_ n : Int} (h : xG s = .inl (at_,n)) : n ≠ 0:=by
  rw [parse_ref] at h;exact runR_ne _ _ _ _ h
theorem rlbox_eq {T : TypeId} {i : Nat} {a b : Int} (h : a = b) : some (Ob.box T [.vec i,.lit (.int .i64 a)]) = some (Ob.box T [.vec i,.lit (.int .i64 b)]):=by rw [h]
theorem refOf_ok (s : ByteArray) (hs : s.size ≤ 60000) {l : List Itm} (hp : xG s = .inr l) : qU Tryz.prog 35 [is s] (.tup [(true,toL rRL (numI 1 l,1 + (cntR l : Int))),(false,[.lit (.int .i64 (-9))]),(false,[.lit (.int .i64 0)])]):=by
  have hpa:=refParse_a s hs;rw [hp] at hpa;obtain ⟨hl1,hl2⟩:=items_flds hs hp;refine acall_ofc (rs:=[.cell 2 28,.tmp 3,.tmp 4]) Tryz.func35 rfl rfl rfl teOk rfl ?_;refine qC ?_;refine qB ?_;refine qC ?_;refine qB ?_;refine Or.inl ?_;refine zai (rfl) ?_;refine zei _ (zai (hpa) ?_);refine qC ?_;refine qC ?_;refine qB ?_;refine qK rfl (fun h18=>?_) (fun h18=>?_)
  ·try simp only [decide_eq_false_iff_not,Bool.not_eq_true'] at h18
   try simp only [zds] at h18
   simp at h18
  ·try simp only [decide_eq_true_eq,Bool.not_eq_false'] at h18
   try simp only [zds] at h18
   refine qM ?_;refine qC ?_;refine qB ?_;refine qC ?_;refine qC ?_;refine yE 1 0 113 rEnt rfl rfl rfl ?_;refine qB ?_;refine qO ?_;refine qV (fun (i : Nat)=>i ≤ l.length) (fun (i : Nat)=>[(2,.one (.own 0 0)),(5,.one (.sl rItm l)),(6,ii .i64 (-9)),(8,.one (.own 1 0)),(9,ii .i64 i)]) (fun (i : Nat)=>[(0,.box 28 [.lit (.slice none 0 0),.lit (.int .i64 0)]),(1,.box 28 [.vec 2,.lit (.int .i64 (1 + (cntR (l.take i) : Int)))]),(2,.vec 113 rEnt (numI 1 (l.take i)))]) 3 (fun (i : Nat)=>l.length - i) 0 (Nat.zero_le _) (qQ ⟨rfl,rfl,rfl,rfl,rfl⟩ ⟨rfl,rfl,rfl⟩ rfl) ?_;intro i hI0;refine qC ?_;refine qC ?_;refine qB ?_;intro l6_2
   try simp only [zds] at l6_2
   refine qK rfl (fun h26=>?_) (fun h26=>?_)
   ·try simp only [decide_eq_true_eq] at h26
    try simp only [zds] at h26
    have hil : i < l.length:=(by omega);have hsn:=numI_at hil;have hcn:=cntR_at hil;have hcl:=cntR_le (l.take i);rw [List.length_take] at hcl;refine qM ?_;refine qC ?_;refine qO ?_;refine qC ?_;refine qB ?_;refine zai (by first|omega|assumption|decide|(simp only [zds];omega)|(simp <;> omega)) ?_;refine qC ?_;refine qC ?_;refine qB ?_;refine zai (by first|omega|assumption|decide|(simp only [zds];omega)|(simp <;> omega)) ?_;refine qK rfl (fun h39=>?_) (fun h39=>?_)
    ·try simp only [decide_eq_true_eq] at h39
     try simp only [Int.toNat_natCast,qI,qH,qF,qE] at h39
     have hk : isRec (l.getD i ((0 : Int),ByteArray.empty,([] : List Fld))) = true:=decide_eq_true h39;rw [hk,if_pos rfl] at hsn hcn;refine qC ?_;refine qB ?_;refine qB ?_;refine zai (by first|omega|assumption|decide|(simp only [zds];omega)|(simp <;> omega)) ?_;refine qB ?_;refine zai (by exact qP (show (numI 1 (l.take i)).length + 1 ≤ 1000000000 by rw [numI_len,List.length_take];omega) (by decide)) ?_;refine qB ?_;refine zai (by first|omega|assumption|decide|(simp only [zds];omega)|(simp <;> omega)) ?_;exact ⟨i + 1,by omega,by first|omega|(simp <;> omega),qQ ⟨rfl,rfl,rfl,rfl,(qR (by omega))⟩ ⟨rfl,(rlbox_eq (by omega)),(qS (by rw [hsn];exact rfl))⟩ rfl⟩
    ·try simp only [decide_eq_false_iff_not] at h39
     try simp only [Int.toNat_natCast,qI,qH,qF,qE] at h39
     have hk : isRec (l.getD i ((0 : Int),ByteArray.empty,([] : List Fld))) = false:=decide_eq_false h39;rw [hk,if_neg Bool.false_ne_true] at hsn hcn;refine qM ?_;refine qB ?_;refine zai (by exact qP (show (numI 1 (l.take i)).length + 1 ≤ 1000000000 by rw [numI_len,List.length_take];omega) (by decide)) ?_;refine qB ?_;refine zai (by first|omega|assumption|decide|(simp only [zds];omega)|(simp <;> omega)) ?_;exact ⟨i + 1,by omega,by first|omega|(simp <;> omega),qQ ⟨rfl,rfl,rfl,rfl,(qR (by omega))⟩ ⟨rfl,(rlbox_eq (by omega)),(qS (by rw [hsn];exact rfl))⟩ rfl⟩
   ·try simp only [decide_eq_false_iff_not,Int.not_lt] at h26
    try simp only [zds] at h26
    refine qZ ?_;refine qC ?_;refine qB ?_;refine yG [2] ?_;refine qL ?_;rw [List.take_of_length_le (by omega)];exact rfl
theorem refOf_err (s : ByteArray) (hs : s.size ≤ 60000) {at_ n : Int} (hp : xG s = .inl (at_,n)) : qU Tryz.prog 35 [is s] (.tup [(true,[.lit (.slice none 0 0),.lit (.int .i64 0)]),(false,[.lit (.int .i64 at_)]),(false,[.lit (.int .i64 n)])]):=by
  have hpa:=refParse_a s hs;rw [hp] at hpa;have hne:=parse_ne hp;refine acall_ofc (rs:=[.cell 2 28,.tmp 3,.tmp 4]) Tryz.func35 rfl rfl rfl teOk rfl ?_;refine qC ?_;refine qB ?_;refine qC ?_;refine qB ?_;refine Or.inl ?_;refine zai (rfl) ?_;refine zei _ (zai (hpa) ?_);refine qC ?_;refine qC ?_;refine qB ?_;refine qK rfl (fun h18=>?_) (fun h18=>?_)
  ·try simp only [decide_eq_false_iff_not,Bool.not_eq_true'] at h18
   try simp only [zds] at h18
   refine qC ?_;refine qB ?_;refine qL ?_;rfl
  ·try simp only [decide_eq_true_eq,Bool.not_eq_false'] at h18
   try simp only [zds] at h18
   exact absurd h18 hne
theorem stzL_snoc {es : List Ent} {i : Nat} (h : i < es.length) : stzL (es.take (i + 1)) = stzL (es.take i) ++ if live (es.getD i (((0 : Int),ByteArray.empty,([] : List Fld)),(0 : Int))) then [stzOf (es.getD i (((0 : Int),ByteArray.empty,([] : List Fld)),(0 : Int)))] else []:=by
  unfold stzL;rw [← yI (((0 : Int),ByteArray.empty,([] : List Fld)),(0 : Int)) h,List.filter_append,List.map_append]
  generalize es.getD i (((0 : Int),ByteArray.empty,([] : List Fld)),(0 : Int)) = x
  cases hk : live x
  · simp [hk]
  · simp [hk]
theorem stzL_le (es : List Ent) : (stzL es).length ≤ es.length:=by
  unfold stzL;rw [List.length_map];exact live_len es
theorem refStz_c (es : List Ent) (n : Int) (hl : es.length ≤ 1000000) : qU Tryz.prog 24 [.agg (toL rRL (es,n))] (.one (.sl rStz (stzL es))):=by
  refine qW (rs:=[2]) Tryz.func24 rfl rfl rfl teOk rfl ?_;refine qC ?_;refine qB ?_;refine qC ?_;refine qB ?_;refine qC ?_;refine qC ?_;refine yZ 3 104 rStz rfl ?_;refine qB ?_;refine qO ?_;refine qV (fun (i : Nat)=>i ≤ es.length) (fun (i : Nat)=>[(1,.one (.own 0 0)),(3,.one (.vec 1)),(4,ii .i64 i)]) (fun (i : Nat)=>[(0,.box 28 (toL rRL (es,n))),(1,.vec 104 rStz (stzL (es.take i)))]) 2 (fun (i : Nat)=>es.length - i) 0 (Nat.zero_le _) (qQ ⟨rfl,rfl,rfl⟩ ⟨rfl,rfl⟩ rfl) ?_;intro i hI0;refine qC ?_;refine qC ?_;refine qB ?_;intro l3_3;refine qK rfl (fun h9=>?_) (fun h9=>?_)
  ·try simp only [decide_eq_true_eq] at h9
   try simp only [zds] at h9
   have hil : i < es.length:=(by omega);have hsn:=stzL_snoc hil;have hsl:=stzL_le (es.take i);rw [List.length_take] at hsl;refine qM ?_;refine qC ?_;refine qO ?_;refine qC ?_;refine qB ?_;refine zai (by first|omega|assumption|decide|(simp only [];omega)|(simp <;> omega)) ?_;refine qK rfl (fun h18=>?_) (fun h18=>?_)
   ·try simp only [decide_eq_true_eq] at h18
    try simp only [Int.toNat_natCast,qI,qH,qF,qE] at h18
    have hk : live (es.getD i (((0 : Int),ByteArray.empty,([] : List Fld)),(0 : Int))) = true:=decide_eq_true h18;rw [hk,if_pos rfl] at hsn;refine yX rfl ?_;refine qJ 0 rfl rfl rfl (by kernel_rfl) ?_;refine qJ 1 rfl rfl rfl (by kernel_rfl) ?_;refine qJ 3 rfl rfl rfl (by kernel_rfl) ?_;refine qJ 7 rfl rfl rfl (by kernel_rfl) ?_;refine qJ 9 rfl rfl rfl (by kernel_rfl) ?_;refine qG [2,8] (by kernel_rfl) rfl ?_;refine zai ?_ ?_
    ·refine qJ 4 rfl rfl rfl (by kernel_rfl) ?_;refine zai (by first|omega|assumption|decide|(simp only [];omega)|(simp <;> omega)) ?_;refine qG [5,8] (by kernel_rfl) rfl ?_;refine zai ?_ ?_
     ·refine qG [6,8] (by kernel_rfl) rfl ?_;refine zai ?_ ?_
      ·refine qG [8] (by kernel_rfl) rfl ?_;refine qJ 10 rfl rfl rfl (by kernel_rfl) ?_;refine zai (by first|omega|assumption|decide|(simp only [];omega)|(simp <;> omega)) ?_;refine qG [11] (by kernel_rfl) rfl ?_;refine qG [12] (by kernel_rfl) rfl ?_;refine qG [13] (by kernel_rfl) rfl ?_;refine qG [14] (by kernel_rfl) rfl ?_;refine qG [15] (by kernel_rfl) rfl ?_;refine qG [16] (by kernel_rfl) rfl ?_;refine zai (by exact qP (show (stzL (es.take i)).length + 1 ≤ 1000000000 by omega) (by decide)) ?_;refine qJ 17 rfl rfl rfl (by kernel_rfl) ?_;refine qN (by kernel_rfl) ?_;refine qB ?_;refine zai (by first|omega|assumption|decide|(simp only [zds];omega)|(simp <;> omega)) ?_;exact ⟨i + 1,by omega,by first|omega|(simp <;> omega),qQ ⟨rfl,rfl,(qR (by omega))⟩ ⟨rfl,(qS (by rw [hsn];try exact rfl))⟩ rfl⟩
      ·refine qJ 10 rfl rfl rfl (by kernel_rfl) ?_;refine zai (by first|omega|assumption|decide|(simp only [];omega)|(simp <;> omega)) ?_;refine qG [6,11] (by kernel_rfl) rfl ?_;refine zai ?_ ?_
       ·refine qG [11] (by kernel_rfl) rfl ?_;refine qG [12] (by kernel_rfl) rfl ?_;refine qG [13] (by kernel_rfl) rfl ?_;refine qG [14] (by kernel_rfl) rfl ?_;refine qG [15] (by kernel_rfl) rfl ?_;refine qG [16] (by kernel_rfl) rfl ?_;refine zai (by exact qP (show (stzL (es.take i)).length + 1 ≤ 1000000000 by omega) (by decide)) ?_;refine qJ 17 rfl rfl rfl (by kernel_rfl) ?_;refine qN (by kernel_rfl) ?_;refine qB ?_;refine zai (by first|omega|assumption|decide|(simp only [zds];omega)|(simp <;> omega)) ?_;exact ⟨i + 1,by omega,by first|omega|(simp <;> omega),qQ ⟨rfl,rfl,(qR (by omega))⟩ ⟨rfl,(qS (by rw [hsn];try exact rfl))⟩ rfl⟩
       ·refine qG [6,12] (by kernel_rfl) rfl ?_;refine zai ?_ ?_
        ·refine qG [12] (by kernel_rfl) rfl ?_;refine qG [13] (by kernel_rfl) rfl ?_;refine qG [14] (by kernel_rfl) rfl ?_;refine qG [15] (by kernel_rfl) rfl ?_;refine qG [16] (by kernel_rfl) rfl ?_;refine zai (by exact qP (show (stzL (es.take i)).length + 1 ≤ 1000000000 by omega) (by decide)) ?_;refine qJ 17 rfl rfl rfl (by kernel_rfl) ?_;refine qN (by kernel_rfl) ?_;refine qB ?_;refine zai (by first|omega|assumption|decide|(simp only [zds];omega)|(simp <;> omega)) ?_;exact ⟨i + 1,by omega,by first|omega|(simp <;> omega),qQ ⟨rfl,rfl,(qR (by omega))⟩ ⟨rfl,(qS (by rw [hsn];try exact rfl))⟩ rfl⟩
        ·refine qG [6,13] (by kernel_rfl) rfl ?_;refine zai ?_ ?_
         ·refine qG [13] (by kernel_rfl) rfl ?_;refine qG [14] (by kernel_rfl) rfl ?_;refine qG [15] (by kernel_rfl) rfl ?_;refine qG [16] (by kernel_rfl) rfl ?_;refine zai (by exact qP (show (stzL (es.take i)).length + 1 ≤ 1000000000 by omega) (by decide)) ?_;refine qJ 17 rfl rfl rfl (by kernel_rfl) ?_;refine qN (by kernel_rfl) ?_;refine qB ?_;refine zai (by first|omega|assumption|decide|(simp only [zds];omega)|(simp <;> omega)) ?_;exact ⟨i + 1,by omega,by first|omega|(simp <;> omega),qQ ⟨rfl,rfl,(qR (by omega))⟩ ⟨rfl,(qS (by rw [hsn];try exact rfl))⟩ rfl⟩
         ·refine qG [6] (by kernel_rfl) rfl ?_;refine qG [14] (by kernel_rfl) rfl ?_;refine qG [15] (by kernel_rfl) rfl ?_;refine qG [16] (by kernel_rfl) rfl ?_;refine zai (by exact qP (show (stzL (es.take i)).length + 1 ≤ 1000000000 by omega) (by decide)) ?_;refine qJ 17 rfl rfl rfl (by kernel_rfl) ?_;refine qN (by kernel_rfl) ?_;refine qB ?_;refine zai (by first|omega|assumption|decide|(simp only [zds];omega)|(simp <;> omega)) ?_;exact ⟨i + 1,by omega,by first|omega|(simp <;> omega),qQ ⟨rfl,rfl,(qR (by omega))⟩ ⟨rfl,(qS (by rw [hsn];try exact rfl))⟩ rfl⟩
     ·refine qJ 10 rfl rfl rfl (by kernel_rfl) ?_;refine zai (by first|omega|assumption|decide|(simp only [];omega)|(simp <;> omega)) ?_;refine qG [5,11] (by kernel_rfl) rfl ?_;refine zai ?_ ?_
      ·refine qG [6,11] (by kernel_rfl) rfl ?_;refine zai ?_ ?_
       ·refine qG [11] (by kernel_rfl) rfl ?_;refine qG [12] (by kernel_rfl) rfl ?_;refine qG [13] (by kernel_rfl) rfl ?_;refine qG [14] (by kernel_rfl) rfl ?_;refine qG [15] (by kernel_rfl) rfl ?_;refine qG [16] (by kernel_rfl) rfl ?_;refine zai (by exact qP (show (stzL (es.take i)).length + 1 ≤ 1000000000 by omega) (by decide)) ?_;refine qJ 17 rfl rfl rfl (by kernel_rfl) ?_;refine qN (by kernel_rfl) ?_;refine qB ?_;refine zai (by first|omega|assumption|decide|(simp only [zds];omega)|(simp <;> omega)) ?_;exact ⟨i + 1,by omega,by first|omega|(simp <;> omega),qQ ⟨rfl,rfl,(qR (by omega))⟩ ⟨rfl,(qS (by rw [hsn];try exact rfl))⟩ rfl⟩
       ·refine qG [6,12] (by kernel_rfl) rfl ?_;refine zai ?_ ?_
        ·refine qG [12] (by kernel_rfl) rfl ?_;refine qG [13] (by kernel_rfl) rfl ?_;refine qG [14] (by kernel_rfl) rfl ?_;refine qG [15] (by kernel_rfl) rfl ?_;refine qG [16] (by kernel_rfl) rfl ?_;refine zai (by exact qP (show (stzL (es.take i)).length + 1 ≤ 1000000000 by omega) (by decide)) ?_;refine qJ 17 rfl rfl rfl (by kernel_rfl) ?_;refine qN (by kernel_rfl) ?_;refine qB ?_;refine zai (by first|omega|assumption|decide|(simp only [zds];omega)|(simp <;> omega)) ?_;exact ⟨i + 1,by omega,by first|omega|(simp <;> omega),qQ ⟨rfl,rfl,(qR (by omega))⟩ ⟨rfl,(qS (by rw [hsn];try exact rfl))⟩ rfl⟩
        ·refine qG [6,13] (by kernel_rfl) rfl ?_;refine zai ?_ ?_
         ·refine qG [13] (by kernel_rfl) rfl ?_;refine qG [14] (by kernel_rfl) rfl ?_;refine qG [15] (by kernel_rfl) rfl ?_;refine qG [16] (by kernel_rfl) rfl ?_;refine zai (by exact qP (show (stzL (es.take i)).length + 1 ≤ 1000000000 by omega) (by decide)) ?_;refine qJ 17 rfl rfl rfl (by kernel_rfl) ?_;refine qN (by kernel_rfl) ?_;refine qB ?_;refine zai (by first|omega|assumption|decide|(simp only [zds];omega)|(simp <;> omega)) ?_;exact ⟨i + 1,by omega,by first|omega|(simp <;> omega),qQ ⟨rfl,rfl,(qR (by omega))⟩ ⟨rfl,(qS (by rw [hsn];try exact rfl))⟩ rfl⟩
         ·refine qG [6] (by kernel_rfl) rfl ?_;refine qG [14] (by kernel_rfl) rfl ?_;refine qG [15] (by kernel_rfl) rfl ?_;refine qG [16] (by kernel_rfl) rfl ?_;refine zai (by exact qP (show (stzL (es.take i)).length + 1 ≤ 1000000000 by omega) (by decide)) ?_;refine qJ 17 rfl rfl rfl (by kernel_rfl) ?_;refine qN (by kernel_rfl) ?_;refine qB ?_;refine zai (by first|omega|assumption|decide|(simp only [zds];omega)|(simp <;> omega)) ?_;exact ⟨i + 1,by omega,by first|omega|(simp <;> omega),qQ ⟨rfl,rfl,(qR (by omega))⟩ ⟨rfl,(qS (by rw [hsn];try exact rfl))⟩ rfl⟩
      ·refine qG [5,12] (by kernel_rfl) rfl ?_;refine zai ?_ ?_
       ·refine qG [6,12] (by kernel_rfl) rfl ?_;refine zai ?_ ?_
        ·refine qG [12] (by kernel_rfl) rfl ?_;refine qG [13] (by kernel_rfl) rfl ?_;refine qG [14] (by kernel_rfl) rfl ?_;refine qG [15] (by kernel_rfl) rfl ?_;refine qG [16] (by kernel_rfl) rfl ?_;refine zai (by exact qP (show (stzL (es.take i)).length + 1 ≤ 1000000000 by omega) (by decide)) ?_;refine qJ 17 rfl rfl rfl (by kernel_rfl) ?_;refine qN (by kernel_rfl) ?_;refine qB ?_;refine zai (by first|omega|assumption|decide|(simp only [zds];omega)|(simp <;> omega)) ?_;exact ⟨i + 1,by omega,by first|omega|(simp <;> omega),qQ ⟨rfl,rfl,(qR (by omega))⟩ ⟨rfl,(qS (by rw [hsn];try exact rfl))⟩ rfl⟩
        ·refine qG [6,13] (by kernel_rfl) rfl ?_;refine zai ?_ ?_
         ·refine qG [13] (by kernel_rfl) rfl ?_;refine qG [14] (by kernel_rfl) rfl ?_;refine qG [15] (by kernel_rfl) rfl ?_;refine qG [16] (by kernel_rfl) rfl ?_;refine zai (by exact qP (show (stzL (es.take i)).length + 1 ≤ 1000000000 by omega) (by decide)) ?_;refine qJ 17 rfl rfl rfl (by kernel_rfl) ?_;refine qN (by kernel_rfl) ?_;refine qB ?_;refine zai (by first|omega|assumption|decide|(simp only [zds];omega)|(simp <;> omega)) ?_;exact ⟨i + 1,by omega,by first|omega|(simp <;> omega),qQ ⟨rfl,rfl,(qR (by omega))⟩ ⟨rfl,(qS (by rw [hsn];try exact rfl))⟩ rfl⟩
         ·refine qG [6] (by kernel_rfl) rfl ?_;refine qG [14] (by kernel_rfl) rfl ?_;refine qG [15] (by kernel_rfl) rfl ?_;refine qG [16] (by kernel_rfl) rfl ?_;refine zai (by exact qP (show (stzL (es.take i)).length + 1 ≤ 1000000000 by omega) (by decide)) ?_;refine qJ 17 rfl rfl rfl (by kernel_rfl) ?_;refine qN (by kernel_rfl) ?_;refine qB ?_;refine zai (by first|omega|assumption|decide|(simp only [zds];omega)|(simp <;> omega)) ?_;exact ⟨i + 1,by omega,by first|omega|(simp <;> omega),qQ ⟨rfl,rfl,(qR (by omega))⟩ ⟨rfl,(qS (by rw [hsn];try exact rfl))⟩ rfl⟩
       ·refine qG [5,13] (by kernel_rfl) rfl ?_;refine zai ?_ ?_
        ·refine qG [6,13] (by kernel_rfl) rfl ?_;refine zai ?_ ?_
         ·refine qG [13] (by kernel_rfl) rfl ?_;refine qG [14] (by kernel_rfl) rfl ?_;refine qG [15] (by kernel_rfl) rfl ?_;refine qG [16] (by kernel_rfl) rfl ?_;refine zai (by exact qP (show (stzL (es.take i)).length + 1 ≤ 1000000000 by omega) (by decide)) ?_;refine qJ 17 rfl rfl rfl (by kernel_rfl) ?_;refine qN (by kernel_rfl) ?_;refine qB ?_;refine zai (by first|omega|assumption|decide|(simp only [zds];omega)|(simp <;> omega)) ?_;exact ⟨i + 1,by omega,by first|omega|(simp <;> omega),qQ ⟨rfl,rfl,(qR (by omega))⟩ ⟨rfl,(qS (by rw [hsn];try exact rfl))⟩ rfl⟩
         ·refine qG [6] (by kernel_rfl) rfl ?_;refine qG [14] (by kernel_rfl) rfl ?_;refine qG [15] (by kernel_rfl) rfl ?_;refine qG [16] (by kernel_rfl) rfl ?_;refine zai (by exact qP (show (stzL (es.take i)).length + 1 ≤ 1000000000 by omega) (by decide)) ?_;refine qJ 17 rfl rfl rfl (by kernel_rfl) ?_;refine qN (by kernel_rfl) ?_;refine qB ?_;refine zai (by first|omega|assumption|decide|(simp only [zds];omega)|(simp <;> omega)) ?_;exact ⟨i + 1,by omega,by first|omega|(simp <;> omega),qQ ⟨rfl,rfl,(qR (by omega))⟩ ⟨rfl,(qS (by rw [hsn];try exact rfl))⟩ rfl⟩
        ·refine qG [5] (by kernel_rfl) rfl ?_;refine qG [6] (by kernel_rfl) rfl ?_;refine qG [14] (by kernel_rfl) rfl ?_;refine qG [15] (by kernel_rfl) rfl ?_;refine qG [16] (by kernel_rfl) rfl ?_;refine zai (by exact qP (show (stzL (es.take i)).length + 1 ≤ 1000000000 by omega) (by decide)) ?_;refine qJ 17 rfl rfl rfl (by kernel_rfl) ?_;refine qN (by kernel_rfl) ?_;refine qB ?_;refine zai (by first|omega|assumption|decide|(simp only [zds];omega)|(simp <;> omega)) ?_;exact ⟨i + 1,by omega,by first|omega|(simp <;> omega),qQ ⟨rfl,rfl,(qR (by omega))⟩ ⟨rfl,(qS (by rw [hsn];try exact rfl))⟩ rfl⟩
    ·refine qJ 10 rfl rfl rfl (by kernel_rfl) ?_;refine zai (by first|omega|assumption|decide|(simp only [];omega)|(simp <;> omega)) ?_;refine qG [2,11] (by kernel_rfl) rfl ?_;refine zai ?_ ?_
     ·refine qJ 4 rfl rfl rfl (by kernel_rfl) ?_;refine zai (by first|omega|assumption|decide|(simp only [];omega)|(simp <;> omega)) ?_;refine qG [5,11] (by kernel_rfl) rfl ?_;refine zai ?_ ?_
      ·refine qG [6,11] (by kernel_rfl) rfl ?_;refine zai ?_ ?_
       ·refine qG [11] (by kernel_rfl) rfl ?_;refine qG [12] (by kernel_rfl) rfl ?_;refine qG [13] (by kernel_rfl) rfl ?_;refine qG [14] (by kernel_rfl) rfl ?_;refine qG [15] (by kernel_rfl) rfl ?_;refine qG [16] (by kernel_rfl) rfl ?_;refine zai (by exact qP (show (stzL (es.take i)).length + 1 ≤ 1000000000 by omega) (by decide)) ?_;refine qJ 17 rfl rfl rfl (by kernel_rfl) ?_;refine qN (by kernel_rfl) ?_;refine qB ?_;refine zai (by first|omega|assumption|decide|(simp only [zds];omega)|(simp <;> omega)) ?_;exact ⟨i + 1,by omega,by first|omega|(simp <;> omega),qQ ⟨rfl,rfl,(qR (by omega))⟩ ⟨rfl,(qS (by rw [hsn];try exact rfl))⟩ rfl⟩
       ·refine qG [6,12] (by kernel_rfl) rfl ?_;refine zai ?_ ?_
        ·refine qG [12] (by kernel_rfl) rfl ?_;refine qG [13] (by kernel_rfl) rfl ?_;refine qG [14] (by kernel_rfl) rfl ?_;refine qG [15] (by kernel_rfl) rfl ?_;refine qG [16] (by kernel_rfl) rfl ?_;refine zai (by exact qP (show (stzL (es.take i)).length + 1 ≤ 1000000000 by omega) (by decide)) ?_;refine qJ 17 rfl rfl rfl (by kernel_rfl) ?_;refine qN (by kernel_rfl) ?_;refine qB ?_;refine zai (by first|omega|assumption|decide|(simp only [zds];omega)|(simp <;> omega)) ?_;exact ⟨i + 1,by omega,by first|omega|(simp <;> omega),qQ ⟨rfl,rfl,(qR (by omega))⟩ ⟨rfl,(qS (by rw [hsn];try exact rfl))⟩ rfl⟩
        ·refine qG [6,13] (by kernel_rfl) rfl ?_;refine zai ?_ ?_
         ·refine qG [13] (by kernel_rfl) rfl ?_;refine qG [14] (by kernel_rfl) rfl ?_;refine qG [15] (by kernel_rfl) rfl ?_;refine qG [16] (by kernel_rfl) rfl ?_;refine zai (by exact qP (show (stzL (es.take i)).length + 1 ≤ 1000000000 by omega) (by decide)) ?_;refine qJ 17 rfl rfl rfl (by kernel_rfl) ?_;refine qN (by kernel_rfl) ?_;refine qB ?_;refine zai (by first|omega|assumption|decide|(simp only [zds];omega)|(simp <;> omega)) ?_;exact ⟨i + 1,by omega,by first|omega|(simp <;> omega),qQ ⟨rfl,rfl,(qR (by omega))⟩ ⟨rfl,(qS (by rw [hsn];try exact rfl))⟩ rfl⟩
         ·refine qG [6] (by kernel_rfl) rfl ?_;refine qG [14] (by kernel_rfl) rfl ?_;refine qG [15] (by kernel_rfl) rfl ?_;refine qG [16] (by kernel_rfl) rfl ?_;refine zai (by exact qP (show (stzL (es.take i)).length + 1 ≤ 1000000000 by omega) (by decide)) ?_;refine qJ 17 rfl rfl rfl (by kernel_rfl) ?_;refine qN (by kernel_rfl) ?_;refine qB ?_;refine zai (by first|omega|assumption|decide|(simp only [zds];omega)|(simp <;> omega)) ?_;exact ⟨i + 1,by omega,by first|omega|(simp <;> omega),qQ ⟨rfl,rfl,(qR (by omega))⟩ ⟨rfl,(qS (by rw [hsn];try exact rfl))⟩ rfl⟩
      ·refine qG [5,12] (by kernel_rfl) rfl ?_;refine zai ?_ ?_
       ·refine qG [6,12] (by kernel_rfl) rfl ?_;refine zai ?_ ?_
        ·refine qG [12] (by kernel_rfl) rfl ?_;refine qG [13] (by kernel_rfl) rfl ?_;refine qG [14] (by kernel_rfl) rfl ?_;refine qG [15] (by kernel_rfl) rfl ?_;refine qG [16] (by kernel_rfl) rfl ?_;refine zai (by exact qP (show (stzL (es.take i)).length + 1 ≤ 1000000000 by omega) (by decide)) ?_;refine qJ 17 rfl rfl rfl (by kernel_rfl) ?_;refine qN (by kernel_rfl) ?_;refine qB ?_;refine zai (by first|omega|assumption|decide|(simp only [zds];omega)|(simp <;> omega)) ?_;exact ⟨i + 1,by omega,by first|omega|(simp <;> omega),qQ ⟨rfl,rfl,(qR (by omega))⟩ ⟨rfl,(qS (by rw [hsn];try exact rfl))⟩ rfl⟩
        ·refine qG [6,13] (by kernel_rfl) rfl ?_;refine zai ?_ ?_
         ·refine qG [13] (by kernel_rfl) rfl ?_;refine qG [14] (by kernel_rfl) rfl ?_;refine qG [15] (by kernel_rfl) rfl ?_;refine qG [16] (by kernel_rfl) rfl ?_;refine zai (by exact qP (show (stzL (es.take i)).length + 1 ≤ 1000000000 by omega) (by decide)) ?_;refine qJ 17 rfl rfl rfl (by kernel_rfl) ?_;refine qN (by kernel_rfl) ?_;refine qB ?_;refine zai (by first|omega|assumption|decide|(simp only [zds];omega)|(simp <;> omega)) ?_;exact ⟨i + 1,by omega,by first|omega|(simp <;> omega),qQ ⟨rfl,rfl,(qR (by omega))⟩ ⟨rfl,(qS (by rw [hsn];try exact rfl))⟩ rfl⟩
         ·refine qG [6] (by kernel_rfl) rfl ?_;refine qG [14] (by kernel_rfl) rfl ?_;refine qG [15] (by kernel_rfl) rfl ?_;refine qG [16] (by kernel_rfl) rfl ?_;refine zai (by exact qP (show (stzL (es.take i)).length + 1 ≤ 1000000000 by omega) (by decide)) ?_;refine qJ 17 rfl rfl rfl (by kernel_rfl) ?_;refine qN (by kernel_rfl) ?_;refine qB ?_;refine zai (by first|omega|assumption|decide|(simp only [zds];omega)|(simp <;> omega)) ?_;exact ⟨i + 1,by omega,by first|omega|(simp <;> omega),qQ ⟨rfl,rfl,(qR (by omega))⟩ ⟨rfl,(qS (by rw [hsn];try exact rfl))⟩ rfl⟩
       ·refine qG [5,13] (by kernel_rfl) rfl ?_;refine zai ?_ ?_
        ·refine qG [6,13] (by kernel_rfl) rfl ?_;refine zai ?_ ?_
         ·refine qG [13] (by kernel_rfl) rfl ?_;refine qG [14] (by kernel_rfl) rfl ?_;refine qG [15] (by kernel_rfl) rfl ?_;refine qG [16] (by kernel_rfl) rfl ?_;refine zai (by exact qP (show (stzL (es.take i)).length + 1 ≤ 1000000000 by omega) (by decide)) ?_;refine qJ 17 rfl rfl rfl (by kernel_rfl) ?_;refine qN (by kernel_rfl) ?_;refine qB ?_;refine zai (by first|omega|assumption|decide|(simp only [zds];omega)|(simp <;> omega)) ?_;exact ⟨i + 1,by omega,by first|omega|(simp <;> omega),qQ ⟨rfl,rfl,(qR (by omega))⟩ ⟨rfl,(qS (by rw [hsn];try exact rfl))⟩ rfl⟩
         ·refine qG [6] (by kernel_rfl) rfl ?_;refine qG [14] (by kernel_rfl) rfl ?_;refine qG [15] (by kernel_rfl) rfl ?_;refine qG [16] (by kernel_rfl) rfl ?_;refine zai (by exact qP (show (stzL (es.take i)).length + 1 ≤ 1000000000 by omega) (by decide)) ?_;refine qJ 17 rfl rfl rfl (by kernel_rfl) ?_;refine qN (by kernel_rfl) ?_;refine qB ?_;refine zai (by first|omega|assumption|decide|(simp only [zds];omega)|(simp <;> omega)) ?_;exact ⟨i + 1,by omega,by first|omega|(simp <;> omega),qQ ⟨rfl,rfl,(qR (by omega))⟩ ⟨rfl,(qS (by rw [hsn];try exact rfl))⟩ rfl⟩
        ·refine qG [5] (by kernel_rfl) rfl ?_;refine qG [6] (by kernel_rfl) rfl ?_;refine qG [14] (by kernel_rfl) rfl ?_;refine qG [15] (by kernel_rfl) rfl ?_;refine qG [16] (by kernel_rfl) rfl ?_;refine zai (by exact qP (show (stzL (es.take i)).length + 1 ≤ 1000000000 by omega) (by decide)) ?_;refine qJ 17 rfl rfl rfl (by kernel_rfl) ?_;refine qN (by kernel_rfl) ?_;refine qB ?_;refine zai (by first|omega|assumption|decide|(simp only [zds];omega)|(simp <;> omega)) ?_;exact ⟨i + 1,by omega,by first|omega|(simp <;> omega),qQ ⟨rfl,rfl,(qR (by omega))⟩ ⟨rfl,(qS (by rw [hsn];try exact rfl))⟩ rfl⟩
     ·refine qG [2,12] (by kernel_rfl) rfl ?_;refine zai ?_ ?_
      ·refine qJ 4 rfl rfl rfl (by kernel_rfl) ?_;refine zai (by first|omega|assumption|decide|(simp only [];omega)|(simp <;> omega)) ?_;refine qG [5,12] (by kernel_rfl) rfl ?_;refine zai ?_ ?_
       ·refine qG [6,12] (by kernel_rfl) rfl ?_;refine zai ?_ ?_
        ·refine qG [12] (by kernel_rfl) rfl ?_;refine qG [13] (by kernel_rfl) rfl ?_;refine qG [14] (by kernel_rfl) rfl ?_;refine qG [15] (by kernel_rfl) rfl ?_;refine qG [16] (by kernel_rfl) rfl ?_;refine zai (by exact qP (show (stzL (es.take i)).length + 1 ≤ 1000000000 by omega) (by decide)) ?_;refine qJ 17 rfl rfl rfl (by kernel_rfl) ?_;refine qN (by kernel_rfl) ?_;refine qB ?_;refine zai (by first|omega|assumption|decide|(simp only [zds];omega)|(simp <;> omega)) ?_;exact ⟨i + 1,by omega,by first|omega|(simp <;> omega),qQ ⟨rfl,rfl,(qR (by omega))⟩ ⟨rfl,(qS (by rw [hsn];try exact rfl))⟩ rfl⟩
        ·refine qG [6,13] (by kernel_rfl) rfl ?_;refine zai ?_ ?_
         ·refine qG [13] (by kernel_rfl) rfl ?_;refine qG [14] (by kernel_rfl) rfl ?_;refine qG [15] (by kernel_rfl) rfl ?_;refine qG [16] (by kernel_rfl) rfl ?_;refine zai (by exact qP (show (stzL (es.take i)).length + 1 ≤ 1000000000 by omega) (by decide)) ?_;refine qJ 17 rfl rfl rfl (by kernel_rfl) ?_;refine qN (by kernel_rfl) ?_;refine qB ?_;refine zai (by first|omega|assumption|decide|(simp only [zds];omega)|(simp <;> omega)) ?_;exact ⟨i + 1,by omega,by first|omega|(simp <;> omega),qQ ⟨rfl,rfl,(qR (by omega))⟩ ⟨rfl,(qS (by rw [hsn];try exact rfl))⟩ rfl⟩
         ·refine qG [6] (by kernel_rfl) rfl ?_;refine qG [14] (by kernel_rfl) rfl ?_;refine qG [15] (by kernel_rfl) rfl ?_;refine qG [16] (by kernel_rfl) rfl ?_;refine zai (by exact qP (show (stzL (es.take i)).length + 1 ≤ 1000000000 by omega) (by decide)) ?_;refine qJ 17 rfl rfl rfl (by kernel_rfl) ?_;refine qN (by kernel_rfl) ?_;refine qB ?_;refine zai (by first|omega|assumption|decide|(simp only [zds];omega)|(simp <;> omega)) ?_;exact ⟨i + 1,by omega,by first|omega|(simp <;> omega),qQ ⟨rfl,rfl,(qR (by omega))⟩ ⟨rfl,(qS (by rw [hsn];try exact rfl))⟩ rfl⟩
       ·refine qG [5,13] (by kernel_rfl) rfl ?_;refine zai ?_ ?_
        ·refine qG [6,13] (by kernel_rfl) rfl ?_;refine zai ?_ ?_
         ·refine qG [13] (by kernel_rfl) rfl ?_;refine qG [14] (by kernel_rfl) rfl ?_;refine qG [15] (by kernel_rfl) rfl ?_;refine qG [16] (by kernel_rfl) rfl ?_;refine zai (by exact qP (show (stzL (es.take i)).length + 1 ≤ 1000000000 by omega) (by decide)) ?_;refine qJ 17 rfl rfl rfl (by kernel_rfl) ?_;refine qN (by kernel_rfl) ?_;refine qB ?_;refine zai (by first|omega|assumption|decide|(simp only [zds];omega)|(simp <;> omega)) ?_;exact ⟨i + 1,by omega,by first|omega|(simp <;> omega),qQ ⟨rfl,rfl,(qR (by omega))⟩ ⟨rfl,(qS (by rw [hsn];try exact rfl))⟩ rfl⟩
         ·refine qG [6] (by kernel_rfl) rfl ?_;refine qG [14] (by kernel_rfl) rfl ?_;refine qG [15] (by kernel_rfl) rfl ?_;refine qG [16] (by kernel_rfl) rfl ?_;refine zai (by exact qP (show (stzL (es.take i)).length + 1 ≤ 1000000000 by omega) (by decide)) ?_;refine qJ 17 rfl rfl rfl (by kernel_rfl) ?_;refine qN (by kernel_rfl) ?_;refine qB ?_;refine zai (by first|omega|assumption|decide|(simp only [zds];omega)|(simp <;> omega)) ?_;exact ⟨i + 1,by omega,by first|omega|(simp <;> omega),qQ ⟨rfl,rfl,(qR (by omega))⟩ ⟨rfl,(qS (by rw [hsn];try exact rfl))⟩ rfl⟩
        ·refine qG [5] (by kernel_rfl) rfl ?_;refine qG [6] (by kernel_rfl) rfl ?_;refine qG [14] (by kernel_rfl) rfl ?_;refine qG [15] (by kernel_rfl) rfl ?_;refine qG [16] (by kernel_rfl) rfl ?_;refine zai (by exact qP (show (stzL (es.take i)).length + 1 ≤ 1000000000 by omega) (by decide)) ?_;refine qJ 17 rfl rfl rfl (by kernel_rfl) ?_;refine qN (by kernel_rfl) ?_;refine qB ?_;refine zai (by first|omega|assumption|decide|(simp only [zds];omega)|(simp <;> omega)) ?_;exact ⟨i + 1,by omega,by first|omega|(simp <;> omega),qQ ⟨rfl,rfl,(qR (by omega))⟩ ⟨rfl,(qS (by rw [hsn];try exact rfl))⟩ rfl⟩
      ·refine qG [2,13] (by kernel_rfl) rfl ?_;refine zai ?_ ?_
       ·refine qJ 4 rfl rfl rfl (by kernel_rfl) ?_;refine zai (by first|omega|assumption|decide|(simp only [];omega)|(simp <;> omega)) ?_;refine qG [5,13] (by kernel_rfl) rfl ?_;refine zai ?_ ?_
        ·refine qG [6,13] (by kernel_rfl) rfl ?_;refine zai ?_ ?_
         ·refine qG [13] (by kernel_rfl) rfl ?_;refine qG [14] (by kernel_rfl) rfl ?_;refine qG [15] (by kernel_rfl) rfl ?_;refine qG [16] (by kernel_rfl) rfl ?_;refine zai (by exact qP (show (stzL (es.take i)).length + 1 ≤ 1000000000 by omega) (by decide)) ?_;refine qJ 17 rfl rfl rfl (by kernel_rfl) ?_;refine qN (by kernel_rfl) ?_;refine qB ?_;refine zai (by first|omega|assumption|decide|(simp only [zds];omega)|(simp <;> omega)) ?_;exact ⟨i + 1,by omega,by first|omega|(simp <;> omega),qQ ⟨rfl,rfl,(qR (by omega))⟩ ⟨rfl,(qS (by rw [hsn];try exact rfl))⟩ rfl⟩
         ·refine qG [6] (by kernel_rfl) rfl ?_;refine qG [14] (by kernel_rfl) rfl ?_;refine qG [15] (by kernel_rfl) rfl ?_;refine qG [16] (by kernel_rfl) rfl ?_;refine zai (by exact qP (show (stzL (es.take i)).length + 1 ≤ 1000000000 by omega) (by decide)) ?_;refine qJ 17 rfl rfl rfl (by kernel_rfl) ?_;refine qN (by kernel_rfl) ?_;refine qB ?_;refine zai (by first|omega|assumption|decide|(simp only [zds];omega)|(simp <;> omega)) ?_;exact ⟨i + 1,by omega,by first|omega|(simp <;> omega),qQ ⟨rfl,rfl,(qR (by omega))⟩ ⟨rfl,(qS (by rw [hsn];try exact rfl))⟩ rfl⟩
        ·refine qG [5] (by kernel_rfl) rfl ?_;refine qG [6] (by kernel_rfl) rfl ?_;refine qG [14] (by kernel_rfl) rfl ?_;refine qG [15] (by kernel_rfl) rfl ?_;refine qG [16] (by kernel_rfl) rfl ?_;refine zai (by exact qP (show (stzL (es.take i)).length + 1 ≤ 1000000000 by omega) (by decide)) ?_;refine qJ 17 rfl rfl rfl (by kernel_rfl) ?_;refine qN (by kernel_rfl) ?_;refine qB ?_;refine zai (by first|omega|assumption|decide|(simp only [zds];omega)|(simp <;> omega)) ?_;exact ⟨i + 1,by omega,by first|omega|(simp <;> omega),qQ ⟨rfl,rfl,(qR (by omega))⟩ ⟨rfl,(qS (by rw [hsn];try exact rfl))⟩ rfl⟩
       ·refine qG [2] (by kernel_rfl) rfl ?_;refine qJ 4 rfl rfl rfl (by kernel_rfl) ?_;refine zai (by first|omega|assumption|decide|(simp only [];omega)|(simp <;> omega)) ?_;refine qG [5] (by kernel_rfl) rfl ?_;refine qG [6] (by kernel_rfl) rfl ?_;refine qG [14] (by kernel_rfl) rfl ?_;refine qG [15] (by kernel_rfl) rfl ?_;refine qG [16] (by kernel_rfl) rfl ?_;refine zai (by exact qP (show (stzL (es.take i)).length + 1 ≤ 1000000000 by omega) (by decide)) ?_;refine qJ 17 rfl rfl rfl (by kernel_rfl) ?_;refine qN (by kernel_rfl) ?_;refine qB ?_;refine zai (by first|omega|assumption|decide|(simp only [zds];omega)|(simp <;> omega)) ?_;exact ⟨i + 1,by omega,by first|omega|(simp <;> omega),qQ ⟨rfl,rfl,(qR (by omega))⟩ ⟨rfl,(qS (by rw [hsn];try exact rfl))⟩ rfl⟩
   ·try simp only [decide_eq_false_iff_not,Int.not_lt] at h18
    try simp only [Int.toNat_natCast,qI,qH,qF,qE] at h18
    have hk : live (es.getD i (((0 : Int),ByteArray.empty,([] : List Fld)),(0 : Int))) = false:=decide_eq_false (by omega);rw [hk,if_neg Bool.false_ne_true,List.append_nil] at hsn;refine qM ?_;refine qB ?_;refine zai (by first|omega|assumption|decide|(simp only [zds];omega)|(simp <;> omega)) ?_;exact ⟨i + 1,by omega,by first|omega|(simp <;> omega),qQ ⟨rfl,rfl,(qR (by omega))⟩ ⟨rfl,(qS (by rw [hsn];try exact rfl))⟩ rfl⟩
  ·try simp only [decide_eq_false_iff_not,Int.not_lt] at h9
   try simp only [zds] at h9
   refine qZ ?_;refine qC ?_;refine qB ?_;refine qL ?_;rw [List.take_of_length_le (by omega)];exact rfl
def doL (L : Lst) (e : Edt) : Lst :=
  if e.1 = 1 then
    if atE L.1 e.2.1 < 0 then L else if (chkR e.2.2).2 ≠ 0 then L else (replE L.1 (atE L.1 e.2.1).toNat (itmOf e.2.2),L.2)
  else if e.1 = 2 then
    if atE L.1 e.2.1 < 0 then L else (delE L.1 (atE L.1 e.2.1).toNat,L.2.1,L.2.2 - 1)
  else if atE L.1 e.2.1 < 0 ∧ e.2.1 ≠ 0 then L else if (chkR e.2.2).2 ≠ 0 then L else if 400 ≤ L.2.2 then L else
    (insE L.1 (atE L.1 e.2.1 + 1).toNat (itmOf e.2.2,L.2.1),L.2.1 + 1,L.2.2 + 1)
def refRep (M : RLs) (id : Int) (f : List Fld) : RLs × Int × Int :=
  if atE M.1 id < 0 then (M,-9,7) else if (chkR f).2 ≠ 0 then (M,(chkR f).1,(chkR f).2) else ((replE M.1 (atE M.1 id).toNat (itmOf f),M.2),-9,0)
def refDel (M : RLs) (id : Int) : RLs × Int :=
  if atE M.1 id < 0 then (M,7) else ((delE M.1 (atE M.1 id).toNat,M.2),0)
def refIns (M : RLs) (id : Int) (f : List Fld) : RLs × Int × Int × Int :=
  if atE M.1 id < 0 ∧ id ≠ 0 then (M,0,-9,7) else if (chkR f).2 ≠ 0 then (M,0,(chkR f).1,(chkR f).2) else if 400 ≤ ((M.1.filter live).length : Int) then (M,0,-9,11) else
    ((insE M.1 (atE M.1 id + 1).toNat (itmOf f,M.2),M.2 + 1),M.2,-9,0)
def posI (n : Int) : Bool:=decide (0 < n)
def nmsL (es : List Ent) : List Int:=(es.map (·.2)).filter posI
theorem ids_eq (es : List Ent) : (es.filter live).map (·.2) = nmsL es:=by
  unfold nmsL;rw [List.filter_map];rfl
theorem ids_len (es : List Ent) : (nmsL es).length = (es.filter live).length:=by rw [← ids_eq,List.length_map]
structure LOk (c : Nat) (L : Lst) : Prop where
  flds : ∀ e ∈ L.1,yJ e.1.2.2
  ids : ∀ e ∈ L.1,0 ≤ e.2 ∧ e.2 < L.2.1
  nd : (nmsL L.1).Nodup
  many : L.2.2 = ((nmsL L.1).length : Int)
  next : 1 ≤ L.2.1 ∧ L.2.1 ≤ c
  len : L.1.length ≤ c
theorem ids_repl (es : List Ent) (i : Nat) (x : Itm) (h : i < es.length) : (replE es i x).map (·.2) = es.map (·.2):=by
  apply List.ext_getElem
  · simp [replE]
  · intro j h1 h2;simp only [replE,List.getElem_map,List.getElem_set];split
    · rename_i e;subst e;simp only;rw [List.getD_eq_getElem?_getD,List.getElem?_eq_getElem h];rfl
    · rfl
theorem mem_repl {es : List Ent} {i : Nat} {x : Itm} {e : Ent} (h : e ∈ replE es i x) : e ∈ es ∨ e = (x,(es.getD i (((0 : Int),ByteArray.empty,([] : List Fld)),(0 : Int))).2):=List.mem_or_eq_of_mem_set h
theorem del_split {es : List Ent} {i : Nat} (h : i < es.length) : es = es.take i ++ (es.getD i (((0 : Int),ByteArray.empty,([] : List Fld)),(0 : Int))) :: es.drop (i + 1):=by
  conv=>lhs;rw [← List.take_append_drop i es,List.drop_eq_getElem_cons h]
  rw [List.getD_eq_getElem?_getD,List.getElem?_eq_getElem h];rfl
theorem mem_del {es : List Ent} {i : Nat} {e : Ent} (h : e ∈ delE es i) : e ∈ es:=by
  rcases List.mem_append.1 h with h|h
  · exact List.mem_of_mem_take h
  · exact List.mem_of_mem_drop h
theorem ids_app (a b : List Ent) : nmsL (a ++ b) = nmsL a ++ nmsL b:=by unfold nmsL;rw [List.map_append,List.filter_append]
theorem ids_cons (e : Ent) (b : List Ent) : nmsL (e :: b) = if 0 < e.2 then e.2 :: nmsL b else nmsL b:=by
  unfold nmsL;rw [List.map_cons,List.filter_cons];unfold posI
  by_cases h : 0 < e.2
  · rw [if_pos h,if_pos (decide_eq_true h)]
  · rw [if_neg h,if_neg (by simpa using h)]
theorem ids_del {es : List Ent} {i : Nat} (h : i < es.length) (hp : 0 < (es.getD i (((0 : Int),ByteArray.empty,([] : List Fld)),(0 : Int))).2) : (nmsL es).length = (nmsL (delE es i)).length + 1 ∧ ((nmsL es).Nodup → (nmsL (delE es i)).Nodup):=by
  have e1 : nmsL es = nmsL (es.take i) ++ (es.getD i (((0 : Int),ByteArray.empty,([] : List Fld)),(0 : Int))).2 :: nmsL (es.drop (i + 1)):=by
    conv=>lhs;rw [del_split h,ids_app,ids_cons,if_pos hp]
  have e2 : nmsL (delE es i) = nmsL (es.take i) ++ nmsL (es.drop (i + 1)):=ids_app _ _;rw [e1,e2];refine ⟨by simp only [List.length_append,List.length_cons];omega,fun hn=>?_⟩;exact hn.sublist (List.Sublist.append_left (List.sublist_cons_self _ _) _)
theorem mem_ins {es : List Ent} {i : Nat} {x e : Ent} (h : e ∈ insE es i x) : e ∈ es ∨ e = x:=by
  rcases List.mem_append.1 h with h|h
  · exact .inl (List.mem_of_mem_take h)
  · rcases List.mem_cons.1 h with h|h
    · exact .inr h
    · exact .inl (List.mem_of_mem_drop h)
theorem ids_ins {es : List Ent} {i : Nat} {x : Ent} (hp : 0 < x.2) (hlt : ∀ e ∈ es,e.2 < x.2) : (nmsL (insE es i x)).length = (nmsL es).length + 1 ∧ ((nmsL es).Nodup → (nmsL (insE es i x)).Nodup):=by
  have e1 : nmsL es = nmsL (es.take i) ++ nmsL (es.drop i):=by
    conv=>lhs;rw [← List.take_append_drop i es,ids_app]
  have e2 : nmsL (insE es i x) = nmsL (es.take i) ++ x.2 :: nmsL (es.drop i):=by unfold insE;rw [ids_app,ids_cons,if_pos hp]
  have hno : x.2 ∉ nmsL es:=fun h=>by
    unfold nmsL at h;obtain ⟨e,he,hx⟩:=List.mem_map.1 (List.mem_filter.1 h).1;have:=hlt e he;omega
  rw [e1] at hno ⊢;rw [e2];refine ⟨by simp only [List.length_append,List.length_cons];omega,fun hn=>?_⟩;rw [List.perm_middle.nodup_iff];exact List.nodup_cons.2 ⟨hno,hn⟩
theorem doL_ok {c : Nat} {L : Lst} {e : Edt} (h : LOk c L) (hf : yJ e.2.2) : LOk (c + 1) (doL L e):=by
  have h0 : LOk (c + 1) L:=⟨h.flds,h.ids,h.nd,h.many,⟨h.next.1,by have:=h.next.2;omega⟩,by have:=h.len;omega⟩;have hat : ∀ id,¬ atE L.1 id < 0 → ∃ i : Nat,i < L.1.length ∧ atE L.1 id = i ∧ 0 < id ∧ (L.1.getD i (((0 : Int),ByteArray.empty,([] : List Fld)),(0 : Int))).2 = id:=fun id hn=>by
    rcases at_cases L.1 id with ⟨h1,_⟩|⟨i,h1,h2,h3,h4,_⟩
    · omega
    · exact ⟨i,h1,h2,h3,h4⟩
  unfold doL;split
  · split
    · exact h0
    · rename_i hn;obtain ⟨i,hi,he,hp,hid⟩:=hat _ hn;rw [he,Int.toNat_natCast];split
      · exact h0
      · have hids : nmsL (replE L.1 i (itmOf e.2.2)) = nmsL L.1:=by unfold nmsL;rw [ids_repl _ _ _ hi]
        refine ⟨fun x hx=>?_,fun x hx=>?_,by show (nmsL (replE L.1 i _)).Nodup;rw [hids];exact h.nd,by show L.2.2 = ((nmsL (replE L.1 i _)).length : Int);rw [hids];exact h.many,h0.next,?_⟩
        · rcases mem_repl hx with hx|rfl
          · exact h.flds x hx
          · exact hf
        · rcases mem_repl hx with hx|rfl
          · exact h.ids x hx
          · show 0 ≤ (L.1.getD i (((0 : Int),ByteArray.empty,([] : List Fld)),(0 : Int))).2 ∧ (L.1.getD i (((0 : Int),ByteArray.empty,([] : List Fld)),(0 : Int))).2 < L.2.1;exact h.ids _ (yT hi (((0 : Int),ByteArray.empty,([] : List Fld)),(0 : Int)))
        · show (replE L.1 i _).length ≤ c + 1;unfold replE;rw [List.length_set];exact h0.len
  · split
    · split
      · exact h0
      · rename_i hn;obtain ⟨i,hi,he,hp,hid⟩:=hat _ hn;rw [he,Int.toNat_natCast];obtain ⟨h1,h2⟩:=ids_del hi (by omega);refine ⟨fun x hx=>h.flds x (mem_del hx),fun x hx=>h.ids x (mem_del hx),h2 h.nd,?_,h0.next,?_⟩
        · show L.2.2 - 1 = ((nmsL (delE L.1 i)).length : Int);rw [h.many];omega
        · show (delE L.1 i).length ≤ c + 1;have:=h.len;unfold delE;rw [List.length_append,List.length_take,List.length_drop];omega
    · split
      · exact h0
      · rename_i hn;split
        · exact h0
        · split
          · exact h0
          · have hnx:=h.next;obtain ⟨h1,h2⟩:=ids_ins (es:=L.1) (i:=(atE L.1 e.2.1 + 1).toNat) (x:=(itmOf e.2.2,L.2.1)) (by show 0 < L.2.1;omega) (fun x hx=>(h.ids x hx).2);refine ⟨fun x hx=>?_,fun x hx=>?_,h2 h.nd,?_,⟨by show 1 ≤ L.2.1 + 1;omega,by show L.2.1 + 1 ≤ ((c + 1 : Nat) : Int);omega⟩,?_⟩
            · rcases mem_ins hx with hx|rfl
              · exact h.flds x hx
              · exact hf
            · show 0 ≤ x.2 ∧ x.2 < L.2.1 + 1;rcases mem_ins hx with hx|rfl
              · have:=h.ids x hx;omega
              · show 0 ≤ L.2.1 ∧ L.2.1 < L.2.1 + 1;omega
            · show L.2.2 + 1 = _;rw [h1,h.many];omega
            · have:=h.len;show (insE L.1 _ _).length ≤ c + 1;unfold insE;rw [List.length_append,List.length_cons,List.length_take,List.length_drop];omega
theorem ids_num : ∀ (l : List Itm) (n : Int),1 ≤ n → nmsL (numI n l) = (List.range (cntR l)).map (fun k : Nat=>n + (k : Int)) ∧ ∀ e ∈ numI n l,0 ≤ e.2 ∧ e.2 < n + (cntR l : Int)
  | [],n,_=>⟨rfl,fun e he=>by cases he⟩
  | x :: r,n,hn=>by
    unfold numI;split
    · rename_i h;obtain ⟨h1,h2⟩:=ids_num r (n + 1) (by omega);have hc : cntR (x :: r) = cntR r + 1:=by simp [cntR,h]
      rw [hc];refine ⟨?_,fun e he=>?_⟩
      · rw [ids_cons,if_pos (show 0 < n by omega),h1,List.range_succ_eq_map,List.map_cons,List.map_map]
        congr 1
        · simp
        · apply List.map_congr_left;intro k _;simp only [Function.comp];omega
      · rcases List.mem_cons.1 he with rfl|he
        · show 0 ≤ n ∧ n < _;omega
        · have:=h2 e he;omega
    · rename_i h;obtain ⟨h1,h2⟩:=ids_num r n hn;have hc : cntR (x :: r) = cntR r:=by simp [cntR,h]
      rw [hc];refine ⟨?_,fun e he=>?_⟩
      · rw [ids_cons,if_neg (show ¬ (0 : Int) < 0 by omega),h1]
      · rcases List.mem_cons.1 he with rfl|he
        · show 0 ≤ (0 : Int) ∧ (0 : Int) < _;omega
        · exact h2 e he
theorem ofT_ok {l : List Itm} {c : Nat} (hl : l.length < c) (hf : ∀ x ∈ l,yJ x.2.2) : LOk c (ofT l):=by
  obtain ⟨h1,h2⟩:=ids_num l 1 (Int.le_refl _);have h3:=List.length_filter_le isRec l;have h4 : cntR l ≤ l.length:=h3;refine ⟨fun e he=>?_,h2,?_,?_,⟨?_,?_⟩,?_⟩
  · have : e.1 ∈ (numI 1 l).map (·.1):=List.mem_map.2 ⟨e,he,rfl⟩;rw [numI_items] at this;exact hf _ this
  · show (nmsL (numI 1 l)).Nodup;rw [h1];refine List.Pairwise.map _ ?_ List.nodup_range;intro a b hab e;apply hab;omega
  · show (cntR l : Int) = _;rw [show nmsL (ofT l).1 = _ from h1,List.length_map,List.length_range]
  · show 1 ≤ 1 + (cntR l : Int);omega
  · show 1 + (cntR l : Int) ≤ c;omega
  · show (numI 1 l).length ≤ c;rw [numI_len];omega
def refDo (M : RLs) (e : Edt) : RLs:=if e.1 = 1 then (refRep M e.2.1 e.2.2).1 else if e.1 = 2 then (refDel M e.2.1).1 else (refIns M e.2.1 e.2.2).1
def prPl (es : List Ent) (id : Int) : Bool → Nat → Nat × Int → Prop
  | false,j,x=>x.1 = j ∧ x.2 = 0 ∧ ((es.filter live).take x.1).any (hasId id) = false
  | true,_,x=>x.2 = plcL es id
theorem copyL_o {k : Nat} (es : List Ent) (n m : Int) (hl : es.length ≤ 1000000) : qX Tryz.prog 51 [.one (.adk k (rLst k) (es,n,m))] [] 0 (.one (.own 1 0)) [(1,.box 116 [.vec 0,.lit (.int .i64 n),.lit (.int .i64 m)]),(0,.vec 111 rEnt es)] 2:=by
  have hcl:=cloneE_o (k:=k) es hl;refine qT (rs:=[2]) Tryz.func51 rfl rfl rfl teOk (by decide) rfl ?_;refine qC ?_;refine qB ?_;refine qC ?_;refine qC ?_;refine qB ?_;refine qK rfl (fun h4=>?_) (fun h4=>?_)
  ·try simp only [zbq] at h4
   try simp only [zds] at h4
   simp at h4
  ·try simp only [zbq] at h4
   try simp only [zds] at h4
   refine qM ?_;refine qC ?_;refine yX rfl ?_;refine qJ 0 rfl rfl rfl (by kernel_rfl) ?_;refine qJ 1 rfl rfl rfl (by kernel_rfl) ?_;refine qJ 2 rfl rfl rfl (by kernel_rfl) ?_;refine qJ 5 rfl rfl rfl (by kernel_rfl) ?_;refine qJ 6 rfl rfl rfl (by kernel_rfl) ?_;refine qJ 7 rfl rfl rfl (by kernel_rfl) ?_;refine qJ 9 rfl rfl rfl (by kernel_rfl) ?_;refine qJ 10 rfl rfl rfl (by kernel_rfl) ?_;refine qJ 11 rfl rfl rfl (by kernel_rfl) ?_;refine qG [3,8,12] (by kernel_rfl) rfl ?_;refine zai ?_ ?_
   ·refine qG [4,8,12] (by kernel_rfl) rfl ?_;refine zai ?_ ?_
    ·refine Or.inr (Or.inl (zei [] (zei [] (zei _ (zei _ (zei _ (zei _ (zei _ (zai (hcl) (zai rfl (zai True.intro (zai rfl ?_))))))))))));refine qG [8,12] (by kernel_rfl) rfl ?_;refine zai ?_ ?_
     ·refine qG [12] (by kernel_rfl) rfl ?_;refine qG [13] (by kernel_rfl) rfl ?_;refine qG [14] (by kernel_rfl) rfl ?_;refine qJ 15 rfl rfl rfl (by kernel_rfl) ?_;refine qN (by kernel_rfl) ?_;refine qL ?_;exact ⟨rfl,⟨rfl,rfl⟩,rfl⟩
     ·refine qG [8] (by kernel_rfl) rfl ?_;refine qG [13] (by kernel_rfl) rfl ?_;refine qG [14] (by kernel_rfl) rfl ?_;refine qJ 15 rfl rfl rfl (by kernel_rfl) ?_;refine qN (by kernel_rfl) ?_;refine qL ?_;exact ⟨rfl,⟨rfl,rfl⟩,rfl⟩
    refine zai ?_ ?_
    ·refine qG [4,12] (by kernel_rfl) rfl ?_;refine zai ?_ ?_
     ·refine Or.inr (Or.inl (zei [] (zei [] (zei _ (zei _ (zei _ (zei _ (zei _ (zai (hcl) (zai rfl (zai True.intro (zai rfl ?_))))))))))));refine qG [12] (by kernel_rfl) rfl ?_;refine qG [13] (by kernel_rfl) rfl ?_;refine qG [14] (by kernel_rfl) rfl ?_;refine qJ 15 rfl rfl rfl (by kernel_rfl) ?_;refine qN (by kernel_rfl) ?_;refine qL ?_;exact ⟨rfl,⟨rfl,rfl⟩,rfl⟩
     ·refine qG [4] (by kernel_rfl) rfl ?_;refine Or.inr (Or.inl (zei [] (zei [] (zei _ (zei _ (zei _ (zei _ (zei _ (zai (hcl) (zai rfl (zai True.intro (zai rfl ?_))))))))))));refine qG [13] (by kernel_rfl) rfl ?_;refine qG [14] (by kernel_rfl) rfl ?_;refine qJ 15 rfl rfl rfl (by kernel_rfl) ?_;refine qN (by kernel_rfl) ?_;refine qL ?_;exact ⟨rfl,⟨rfl,rfl⟩,rfl⟩
    ·refine qG [4,8] (by kernel_rfl) rfl ?_;refine zai ?_ ?_
     ·refine Or.inr (Or.inl (zei [] (zei [] (zei _ (zei _ (zei _ (zei _ (zei _ (zai (hcl) (zai rfl (zai True.intro (zai rfl ?_))))))))))));refine qG [8] (by kernel_rfl) rfl ?_;refine qG [13] (by kernel_rfl) rfl ?_;refine qG [14] (by kernel_rfl) rfl ?_;refine qJ 15 rfl rfl rfl (by kernel_rfl) ?_;refine qN (by kernel_rfl) ?_;refine qL ?_;exact ⟨rfl,⟨rfl,rfl⟩,rfl⟩
     ·refine qG [4] (by kernel_rfl) rfl ?_;refine Or.inr (Or.inl (zei [] (zei [] (zei _ (zei _ (zei _ (zei _ (zei _ (zai (hcl) (zai rfl (zai True.intro (zai rfl ?_))))))))))));refine qG [13] (by kernel_rfl) rfl ?_;refine qG [14] (by kernel_rfl) rfl ?_;refine qJ 15 rfl rfl rfl (by kernel_rfl) ?_;refine qN (by kernel_rfl) ?_;refine qL ?_;exact ⟨rfl,⟨rfl,rfl⟩,rfl⟩
   refine zai ?_ ?_
   ·refine qG [3,12] (by kernel_rfl) rfl ?_;refine zai ?_ ?_
    ·refine qG [4,12] (by kernel_rfl) rfl ?_;refine zai ?_ ?_
     ·refine Or.inr (Or.inl (zei [] (zei [] (zei _ (zei _ (zei _ (zei _ (zei _ (zai (hcl) (zai rfl (zai True.intro (zai rfl ?_))))))))))));refine qG [12] (by kernel_rfl) rfl ?_;refine qG [13] (by kernel_rfl) rfl ?_;refine qG [14] (by kernel_rfl) rfl ?_;refine qJ 15 rfl rfl rfl (by kernel_rfl) ?_;refine qN (by kernel_rfl) ?_;refine qL ?_;exact ⟨rfl,⟨rfl,rfl⟩,rfl⟩
     ·refine qG [4] (by kernel_rfl) rfl ?_;refine Or.inr (Or.inl (zei [] (zei [] (zei _ (zei _ (zei _ (zei _ (zei _ (zai (hcl) (zai rfl (zai True.intro (zai rfl ?_))))))))))));refine qG [13] (by kernel_rfl) rfl ?_;refine qG [14] (by kernel_rfl) rfl ?_;refine qJ 15 rfl rfl rfl (by kernel_rfl) ?_;refine qN (by kernel_rfl) ?_;refine qL ?_;exact ⟨rfl,⟨rfl,rfl⟩,rfl⟩
    ·refine qG [3] (by kernel_rfl) rfl ?_;refine qG [4] (by kernel_rfl) rfl ?_;refine Or.inr (Or.inl (zei [] (zei [] (zei _ (zei _ (zei _ (zei _ (zei _ (zai (hcl) (zai rfl (zai True.intro (zai rfl ?_))))))))))));refine qG [13] (by kernel_rfl) rfl ?_;refine qG [14] (by kernel_rfl) rfl ?_;refine qJ 15 rfl rfl rfl (by kernel_rfl) ?_;refine qN (by kernel_rfl) ?_;refine qL ?_;exact ⟨rfl,⟨rfl,rfl⟩,rfl⟩
   ·refine qG [3,8] (by kernel_rfl) rfl ?_;refine zai ?_ ?_
    ·refine qG [4,8] (by kernel_rfl) rfl ?_;refine zai ?_ ?_
     ·refine Or.inr (Or.inl (zei [] (zei [] (zei _ (zei _ (zei _ (zei _ (zei _ (zai (hcl) (zai rfl (zai True.intro (zai rfl ?_))))))))))));refine qG [8] (by kernel_rfl) rfl ?_;refine qG [13] (by kernel_rfl) rfl ?_;refine qG [14] (by kernel_rfl) rfl ?_;refine qJ 15 rfl rfl rfl (by kernel_rfl) ?_;refine qN (by kernel_rfl) ?_;refine qL ?_;exact ⟨rfl,⟨rfl,rfl⟩,rfl⟩
     ·refine qG [4] (by kernel_rfl) rfl ?_;refine Or.inr (Or.inl (zei [] (zei [] (zei _ (zei _ (zei _ (zei _ (zei _ (zai (hcl) (zai rfl (zai True.intro (zai rfl ?_))))))))))));refine qG [13] (by kernel_rfl) rfl ?_;refine qG [14] (by kernel_rfl) rfl ?_;refine qJ 15 rfl rfl rfl (by kernel_rfl) ?_;refine qN (by kernel_rfl) ?_;refine qL ?_;exact ⟨rfl,⟨rfl,rfl⟩,rfl⟩
    ·refine qG [3] (by kernel_rfl) rfl ?_;refine qG [4] (by kernel_rfl) rfl ?_;refine Or.inr (Or.inl (zei [] (zei [] (zei _ (zei _ (zei _ (zei _ (zei _ (zai (hcl) (zai rfl (zai True.intro (zai rfl ?_))))))))))));refine qG [13] (by kernel_rfl) rfl ?_;refine qG [14] (by kernel_rfl) rfl ?_;refine qJ 15 rfl rfl rfl (by kernel_rfl) ?_;refine qN (by kernel_rfl) ?_;refine qL ?_;exact ⟨rfl,⟨rfl,rfl⟩,rfl⟩
abbrev zRL : List C:=[.lit (.slice none 0 0),.lit (.int .i64 0)]
def insT (es : List Ent) (j : Nat) (e : Ent) (i : Nat) : List Ent:=if i < j then es.take i else insE (es.take i) j e
def doB (num at_ id bad at2 want : Int) : Bool:=((true && decide (num = bad)) && decide (at_ = at2)) && decide (id = want)
theorem chk_shape {f : List Fld} (h : (chkR f).2 ≠ 0) : (∃ k9,chkA f = errN k9 ∧ k9 ≠ 0 ∧ (-9 : Int) = (chkR f).1 ∧ k9 = (chkR f).2) ∨ ∃ a9 k9,chkA f = errF a9 k9 ∧ k9 ≠ 0 ∧ a9 = (chkR f).1 ∧ k9 = (chkR f).2:=by
  obtain ⟨e,he,hs⟩:=chk_bad h;rcases hs with ⟨n,hn,rfl,hr⟩|⟨i,n,hn,rfl,hr⟩
  · exact .inl ⟨n,he,hn,by rw [hr],by rw [hr]⟩
  · exact .inr ⟨i,n,he,hn,by rw [hr],by rw [hr]⟩
def plays (L : Lst) (s : List Edt) (i : Nat) : Lst:=(s.take i).foldl doL L
theorem plays_snoc (L : Lst) {s : List Edt} {i : Nat} (h : i < s.length) : plays L s (i + 1) = doL (plays L s i) (s.getD i ((0 : Int),(0 : Int),([] : List Fld))):=by
  unfold plays;rw [← yI ((0 : Int),(0 : Int),([] : List Fld)) h,List.foldl_append];rfl
theorem plays_ok {c : Nat} {L : Lst} {s : List Edt} (h : LOk c L) (hf : ∀ e ∈ s,yJ e.2.2) : ∀ i,i ≤ s.length → LOk (c + i) (plays L s i)
  | 0,_=>by simpa [plays] using h
  | i + 1,hi=>by
    rw [plays_snoc L (by omega)];exact doL_ok (plays_ok h hf i (by omega)) (hf _ (yT (by omega) ((0 : Int),(0 : Int),([] : List Fld))))
theorem items_len {s : ByteArray} {l : List Itm} (hp : xG s = .inr l) : l.length ≤ 2 * s.size + 1:=by
  have h0:=parse_ref s;rw [hp] at h0;obtain ⟨h1,_⟩:=linesT_len s;have key : ∀ (L : List Lne) (t : RSt) (bh : Bool) (l : List Itm),runR bh t L = .inr l → l.length ≤ t.out.length + 1 + 2 * L.length:=by
    intro L
    induction L with
    | nil =>
      intro t bh l h;unfold runR at h;cases h;split <;> simp
    | cons a r ih =>
      intro t bh l h;unfold runR at h;split at h
      · cases h
      · have i1:=ih _ _ _ h;have so : (yU t a r).out.length ≤ t.out.length + 2:=by
          unfold yU;split
          · simp only;split <;> simp
          · split <;> simp
        rw [List.length_cons];omega
  have k1:=key _ _ _ _ h0.symm;simp only [rst0,List.length_nil] at k1;omega
theorem of_lok {s : ByteArray} {l : List Itm} (hs : s.size ≤ 4000) (hp : xG s = .inr l) : LOk 9000 (ofT l):=by
  have h1:=items_len hp;exact ofT_ok (by omega) fun x hx=>fldsOk_of (items_small hp x hx).1 (items_small hp x hx).2
end Q
end Ab
end Go.Proofs.YtpfkncffaanjcaaGreatDoor
namespace Go.Proofs.YtpfkncffaanjcaaGreatDoor
open Go.RowKit
namespace Ab
set_option maxRecDepth 100000
abbrev rEdk (κ : Nat) : Rd Edt:=.st (.int .i64) (.st (.int .i64) (.slk κ rFld))
namespace Q
def goodN (x : Edt) : Int:=if x.1 = 2 then (if 0 < x.2.2.length then 2 else 0) else if x.1 = 1 ∨ x.1 = 3 then (chkR x.2.2).2 else 2
def chkF (k : Int) : List Edt → Int × Int
  | []=>(-9,0)
  | x :: r=>if goodN x ≠ 0 then (k,goodN x) else chkF (k + 1) r
def chkB (l : List Edt) : Int × Int:=if l.length < 1 ∨ 40 < l.length then (-9,1) else chkF 0 l
theorem chkF_at : ∀ (l : List Edt) (i : Nat) (k : Int),i < l.length → (∀ e ∈ l.take i,goodN e = 0) → goodN (l.getD i ((0 : Int),(0 : Int),([] : List Fld))) ≠ 0 → chkF k l = (k + i,goodN (l.getD i ((0 : Int),(0 : Int),([] : List Fld))))
  | [],i,k,h,_,_=>by simp at h
  | f :: r,0,k,_,_,hb=>by
    unfold chkF;rw [if_pos (by simpa using hb)];simp
  | f :: r,i + 1,k,h,ht,hb=>by
    unfold chkF;rw [if_neg (by simpa using ht f (by simp))];rw [chkF_at r i (k + 1) (by simpa using h) (fun g hg=>ht g (by simp [hg])) (by simpa using hb)];simp only [List.getD_cons_succ]
    congr 1
    omega
theorem chkF_no : ∀ (l : List Edt) (k : Int),(∀ e ∈ l,goodN e = 0) → chkF k l = (-9,0)
  | [],_,_=>rfl
  | f :: r,k,h=>by
    unfold chkF;rw [if_neg (by simpa using h f (by simp))];exact chkF_no r (k + 1) (fun g hg=>h g (by simp [hg]))
theorem chkF_zero : ∀ (l : List Edt) (k : Int),(chkF k l).2 = 0 → ∀ e ∈ l,goodN e = 0
  | [],_,_,f,hf=>by cases hf
  | g :: r,k,h,f,hf=>by
    unfold chkF at h;split at h
    · rename_i hg;exact absurd h hg
    · rename_i hg;rcases List.mem_cons.1 hf with rfl|hf
      · exact Classical.not_not.1 hg
      · exact chkF_zero r (k + 1) h f hf
theorem chkB_rng {l : List Edt} (h : l.length < 1 ∨ 40 < l.length) : chkB l = (-9,1):=if_pos h
theorem chkB_at {l : List Edt} {i : Nat} (h1 : ¬ (l.length < 1 ∨ 40 < l.length)) (h : i < l.length) (ht : ∀ e ∈ l.take i,goodN e = 0) (hb : goodN (l.getD i ((0 : Int),(0 : Int),([] : List Fld))) ≠ 0) : chkB l = ((i : Int),goodN (l.getD i ((0 : Int),(0 : Int),([] : List Fld)))):=by
  unfold chkB;rw [if_neg h1,chkF_at l i 0 h ht hb,Int.zero_add]
theorem chkB_no {l : List Edt} (h1 : ¬ (l.length < 1 ∨ 40 < l.length)) (h : ∀ e ∈ l,goodN e = 0) : chkB l = (-9,0):=by
  unfold chkB;rw [if_neg h1,chkF_no l 0 h]
theorem chkB_zero {l : List Edt} (h : (chkB l).2 = 0) : (1 ≤ l.length ∧ l.length ≤ 40) ∧ ∀ e ∈ l,goodN e = 0:=by
  unfold chkB at h;split at h
  · cases h
  · exact ⟨by omega,chkF_zero l 0 h⟩
theorem chkB_good {l : List Edt} (h : (chkB l).2 = 0) : chkB l = (-9,0):=chkB_no (by have:=(chkB_zero h).1;omega) (chkB_zero h).2
theorem take_good {l : List Edt} {i : Nat} (h : i < l.length) (ht : ∀ e ∈ l.take i,goodN e = 0) (hb : goodN (l.getD i ((0 : Int),(0 : Int),([] : List Fld))) = 0) : ∀ e ∈ l.take (i + 1),goodN e = 0:=by
  rw [← yI ((0 : Int),(0 : Int),([] : List Fld)) h];intro e he;rcases List.mem_append.1 he with he|he
  · exact ht e he
  · rw [List.mem_singleton.1 he];exact hb
def oneN (L : Lst) (e : Edt) : Int :=
  if e.1 = 1 then (if atE L.1 e.2.1 < 0 then 7 else (chkR e.2.2).2)
  else if e.1 = 2 then (if atE L.1 e.2.1 < 0 then 7 else 0)
  else if atE L.1 e.2.1 < 0 ∧ e.2.1 ≠ 0 then 7 else if (chkR e.2.2).2 ≠ 0 then (chkR e.2.2).2 else if 400 ≤ L.2.2 then 11 else 0
def newN (L : Lst) (e : Edt) : Int:=if e.1 = 1 ∨ e.1 = 2 then 0 else if oneN L e = 0 then L.2.1 else 0
def batK (k : Int) (L : Lst) : List Edt → Int × Int
  | []=>(-9,0)
  | x :: r=>if oneN L x ≠ 0 then (k,oneN L x) else batK (k + 1) (doL L x) r
def doR (L : Lst) (s : List Edt) : Int × Int:=if (chkB s).2 ≠ 0 then chkB s else batK 0 L s
def idsT (L : Lst) (s : List Edt) (i : Nat) : List Int:=((List.range i).map fun j=>newN (plays L s j) (s.getD j ((0 : Int),(0 : Int),([] : List Fld)))).filter posI
theorem idsT_snoc (L : Lst) (s : List Edt) (i : Nat) : idsT L s (i + 1) = idsT L s i ++ if 0 < newN (plays L s i) (s.getD i ((0 : Int),(0 : Int),([] : List Fld))) then [newN (plays L s i) (s.getD i ((0 : Int),(0 : Int),([] : List Fld)))] else []:=by
  unfold idsT;rw [List.range_succ,List.map_append,List.filter_append]
  congr 1
  simp only [List.map_cons,List.map_nil,List.filter_cons,List.filter_nil,posI,decide_eq_true_eq]
theorem idsT_len (L : Lst) (s : List Edt) (i : Nat) : (idsT L s i).length ≤ i:=by
  unfold idsT;have:=List.length_filter_le posI ((List.range i).map fun j=>newN (plays L s j) (s.getD j ((0 : Int),(0 : Int),([] : List Fld))));rw [List.length_map,List.length_range] at this;exact this
end Q
end Ab
end Go.Proofs.YtpfkncffaanjcaaGreatDoor
namespace Go.Proofs.YtpfkncffaanjcaaGreatDoor
open Go.RowKit
namespace Ab
set_option maxRecDepth 100000
namespace Q
def getF (L : Lst) (id : Int) : Option (List Fld):=if atE L.1 id < 0 then none else some (getL L.1 id)
theorem stz_app (a b : List Ent) : stzL (a ++ b) = stzL a ++ stzL b:=by unfold stzL;rw [List.filter_append,List.map_append]
theorem stz_cons (e : Ent) (b : List Ent) : stzL (e :: b) = if live e then stzOf e :: stzL b else stzL b:=by
  unfold stzL;rw [List.filter_cons];split <;> rfl
theorem stz_num {es : List Ent} {x : Stz} (h : x ∈ stzL es) : x.1 ∈ nmsL es:=by
  rw [← ids_eq];unfold stzL at h;obtain ⟨e,he,rfl⟩:=List.mem_map.1 h;exact List.mem_map_of_mem he
theorem getF_at {L : Lst} {i : Nat} {id : Int} (hi : i < L.1.length) (he : atE L.1 id = i) : getF L id = some (L.1.getD i (((0 : Int),ByteArray.empty,([] : List Fld)),(0 : Int))).1.2.2:=by
  unfold getF getL;rw [if_neg (by omega),he,Int.toNat_natCast]
theorem getF_no {L : Lst} {id : Int} (h : atE L.1 id < 0) : getF L id = none:=if_pos h
theorem getF_iff {c : Nat} {L : Lst} (h : LOk c L) (id : Int) (f : List Fld) : getF L id = some f ↔ (id,f) ∈ stzL L.1:=by
  rcases at_cases L.1 id with ⟨h1,h2⟩|⟨i,h1,h2,h3,h4,h5⟩
  · rw [getF_no (by rw [h1];decide)];refine ⟨fun e=>(by cases e),fun hm=>?_⟩;unfold stzL at hm;obtain ⟨e,he,hx⟩:=List.mem_map.1 hm;have hl:=(List.mem_filter.1 he).2;have hx1 : e.2 = id:=congrArg Prod.fst hx;exact absurd hx1 (h2 e (List.mem_filter.1 he).1 (by rw [← hx1];exact of_decide_eq_true hl))
  · rw [getF_at h1 h2];have hsp:=del_split h1;have hlv : live (L.1.getD i (((0 : Int),ByteArray.empty,([] : List Fld)),(0 : Int))) = true:=decide_eq_true (by rw [h4];exact h3);have hst : stzL L.1 = stzL (L.1.take i) ++ stzOf (L.1.getD i (((0 : Int),ByteArray.empty,([] : List Fld)),(0 : Int))) :: stzL (L.1.drop (i + 1)):=by
      conv=>lhs;rw [hsp,stz_app,stz_cons,if_pos hlv]
    have hnm : nmsL L.1 = nmsL (L.1.take i) ++ id :: nmsL (L.1.drop (i + 1)):=by
      conv=>lhs;rw [hsp,ids_app,ids_cons,h4,if_pos h3]
    have hn:=h.nd;rw [hnm] at hn;obtain ⟨n1,n2,n3⟩:=List.nodup_append.1 hn;rw [hst];refine ⟨fun e=>?_,fun hm=>?_⟩
    · refine List.mem_append_right _ (List.mem_cons.2 (.inl ?_));rw [← Option.some.inj e,← h4];rfl
    · rcases List.mem_append.1 hm with hm|hm
      · exact absurd rfl (n3 _ (stz_num hm) _ List.mem_cons_self)
      · rcases List.mem_cons.1 hm with hm|hm
        · rw [show f = _ from congrArg Prod.snd hm];rfl
        · exact absurd (stz_num hm) (List.nodup_cons.1 n2).1
theorem getF_pos {c : Nat} {L : Lst} (h : LOk c L) {id : Int} (hg : getF L id ≠ none) : 0 < id ∧ id < L.2.1 ∧ ¬ atE L.1 id < 0:=by
  rcases at_cases L.1 id with ⟨h1,_⟩|⟨i,h1,h2,h3,h4,_⟩
  · exact absurd (getF_no (by rw [h1];decide)) hg
  · refine ⟨h3,?_,by omega⟩;have:=(h.ids _ (yT h1 (((0 : Int),ByteArray.empty,([] : List Fld)),(0 : Int)))).2;rw [h4] at this;exact this
theorem one_rep0 {L : Lst} {e : Edt} (h1 : e.1 = 1) (hg : ¬ atE L.1 e.2.1 < 0) (hc : (chkR e.2.2).2 = 0) : oneN L e = 0:=by
  unfold oneN;rw [if_pos h1,if_neg hg];exact hc
theorem one_del0 {L : Lst} {e : Edt} (h1 : e.1 = 2) (hg : ¬ atE L.1 e.2.1 < 0) : oneN L e = 0:=by
  unfold oneN;rw [if_neg (by omega),if_pos h1,if_neg hg]
theorem one_ins0 {L : Lst} {e : Edt} (h1 : e.1 ≠ 1) (h2 : e.1 ≠ 2) (hg : e.2.1 = 0 ∨ ¬ atE L.1 e.2.1 < 0) (hc : (chkR e.2.2).2 = 0) : oneN L e = if 400 ≤ L.2.2 then 11 else 0:=by
  unfold oneN;rw [if_neg h1,if_neg h2,if_neg (fun h=>hg.elim h.2 fun g=>g h.1),if_neg (fun h=>h hc)]
def repA (a : List Edt) (id : Int) : Bool:=a.any fun x=>decide (x.1 = 1) && decide (x.2.1 = id)
def delA (a : List Edt) (id : Int) : Bool:=a.any fun x=>decide (x.1 = 2) && decide (x.2.1 = id)
def tchA (a : List Edt) (id : Int) : Bool:=repA a id || delA a id
def insA : List Edt → Nat
  | []=>0
  | x :: r=>(if x.1 = 3 then 1 else 0) + insA r
def clsh (a : List Edt) (x : Edt) : Bool:=if x.1 = 1 then tchA a x.2.1 else if x.1 = 2 then tchA a x.2.1 && !delA a x.2.1 else if x.1 = 3 then delA a x.2.1 else false
def reb1 (next k : Int) (a : List Edt) (x : Edt) : List Edt:=if next ≤ x.2.1 then [(x.1,x.2.1 + k,x.2.2)] else if x.1 = 2 ∧ delA a x.2.1 = true then [] else [x]
def rebB (next : Int) (a b : List Edt) : List Edt:=b.flatMap (reb1 next (insA a) a)
def takes (L : Lst) : List Edt → Prop
  | []=>True
  | x :: r=>oneN L x = 0 ∧ takes (doL L x) r
def runL (L : Lst) (s : List Edt) : Lst:=s.foldl doL L
def kindsOk (s : List Edt) : Prop:=∀ x ∈ s,x.1 = 1 ∨ x.1 = 2 ∨ x.1 = 3
theorem takes_to : ∀ (s : List Edt) (L : Lst),takes L s → ∀ j,j < s.length → oneN (plays L s j) (s.getD j ((0 : Int),(0 : Int),([] : List Fld))) = 0
  | _ :: _,_,h,0,_=>h.1
  | x :: r,L,h,j + 1,hj=>takes_to r (doL L x) h.2 j (by simpa using hj)
theorem run_plays (L : Lst) (s : List Edt) : plays L s s.length = runL L s:=by unfold plays runL;rw [List.take_length]
theorem run_ok {c : Nat} {L : Lst} : ∀ {s : List Edt},LOk c L → (∀ e ∈ s,yJ e.2.2) → LOk (c + s.length) (runL L s)
  | s,h,hf=>by rw [← run_plays];exact plays_ok h hf s.length (Nat.le_refl _)
structure Ran (L : Lst) (a : List Edt) (P : Lst) : Prop where
  next : P.2.1 = L.2.1 + (insA a : Int)
  unt : ∀ id,id < L.2.1 → tchA a id = false → getF P id = getF L id
  gone : ∀ id,id < L.2.1 → getF L id = none → getF P id = none
  del : ∀ id,id < L.2.1 → delA a id = true → getF P id = none
  keep : ∀ id,id < L.2.1 → getF L id ≠ none → delA a id = false → getF P id ≠ none
structure Sim (L P : Lst) (a : List Edt) (k : Int) (Q Y : Lst) (sk : Int) : Prop where
  old : ∀ id,id < L.2.1 → getF Y id = if tchA a id = true then getF P id else getF Q id
  mid : ∀ id,L.2.1 ≤ id → id < P.2.1 → getF Y id = getF P id
  new : ∀ id,L.2.1 ≤ id → getF Y (id + k) = getF Q id
  next : Y.2.1 = Q.2.1 + k
  mono : L.2.1 ≤ Q.2.1
  keep : ∀ id,id < L.2.1 → getF Q id ≠ none → getF L id ≠ none
  many : Y.2.2 - P.2.2 = Q.2.2 - L.2.2 + sk
end Q
end Ab
end Go.Proofs.YtpfkncffaanjcaaGreatDoor
namespace Go.Proofs.YtpfkncffaanjcaaGreatDoor.As
open Go.RowKit Go.Extern.Stop Go.Stop Go.Extern
theorem valueOf27 (t : Addr) (w : World) : (ReflectliteValue.unpack (.iface 193 (.pointer (some t)))).run Tryz.prog w
    = .ok (.agg #[.pointer (some ⟨4,193,none⟩),.pointer (some ⟨w.heap.size,0,none⟩),.int .u64 150]) (w.alloc (.cells #[.pointer (some t)] 193)):=by kernel_rfl
theorem type27 (a : Addr) (w : World) : (ReflectliteValue.methodAny (ReflectliteValue.valueError "reflectlite.Value.Type" 0) (fun t _ _ _ => ReflectliteType.toType t) #[.agg #[.pointer (some ⟨4, 193, none⟩), .pointer (some a), .int .u64 150]]).run Tryz.prog w
    = .ok (.iface 239 (.agg #[.pointer (some ⟨4,193,none⟩)])) w:=by kernel_rfl
theorem methodKind (h : Value) (w : World) : (Go.method 409 239 (.agg #[h]) "Kind").run Tryz.prog w = .ok (223, h) w := by kernel_rfl
theorem kind27 (w : World) : ((ReflectliteType.abiMethod fun t=>(fun a : Nat=>Value.int IntKind.u8 (a : Int)) <$> Rtype.kind t) #[.pointer (some ⟨4,193,none⟩)]).run Tryz.prog w = .ok (.int .u8 22) w:=by kernel_rfl
theorem kind25 (w : World) : ((ReflectliteType.abiMethod fun t=>(fun a : Nat=>Value.int IntKind.u8 (a : Int)) <$> Rtype.kind t) #[.pointer (some ⟨4,93,none⟩)]).run Tryz.prog w = .ok (.int .u8 22) w:=by kernel_rfl
theorem rlm (z : Sem Value) (f : TypeId → Addr → Nat → Nat → Sem Value) (v : Value) :
    ReflectliteValue.method z f #[v] = (do match ← ReflectliteValue.parts v with|none=>z|some (t,a,fl)=>f t a fl (fl % 32)):=rfl
theorem parts27 (a : Addr) (w : World) : (ReflectliteValue.parts (.agg #[.pointer (some ⟨4,193,none⟩),.pointer (some a),.int .u64 150])).run Tryz.prog w = .ok (some (193,a,150)) w:=by kernel_rfl
theorem isNil27 (a p : Addr) (W : World) (ha : W.cell? a = some (.pointer (some p))) :
    (ReflectliteValue.method (ReflectliteValue.valueError "reflectlite.Value.IsNil" 0) ReflectliteValue.isNil #[.agg #[.pointer (some ⟨4, 193, none⟩), .pointer (some a), .int .u64 150]]).run Tryz.prog W = .ok (.bool false) W := by
  rw [rlm];simp only [Sem.run_bind,parts27,Result.andThen];simp [ReflectliteValue.isNil,loadVar,isAgg,underlying,Tryz.underlying193,ha,Result.andThen]
theorem methodElem (h : Value) (w : World) : (Go.method 409 239 (.agg #[h]) "Elem").run Tryz.prog w = .ok (236, .agg #[h]) w := by kernel_rfl
theorem methodImplements (h : Value) (w : World) : (Go.method 409 239 (.agg #[h]) "Implements").run Tryz.prog w = .ok (237, .agg #[h]) w := by kernel_rfl
theorem methodAssignableTo (h : Value) (w : World) : (Go.method 409 239 (.agg #[h]) "AssignableTo").run Tryz.prog w = .ok (234, .agg #[h]) w := by kernel_rfl
theorem elem27 (w : World) : (ReflectliteType.method ReflectliteType.elem #[.agg #[.pointer (some ⟨4,193,none⟩)]]).run Tryz.prog w = .ok (.iface 239 (.agg #[.pointer (some ⟨4,93,none⟩)])) w:=by kernel_rfl
theorem implements25 (w : World) : (ReflectliteType.relation "Implements" ReflectliteType.implements_ #[.agg #[.pointer (some ⟨4, 93, none⟩)], .iface 239 (.agg #[.pointer (some ⟨4, 34, none⟩)])]).run Tryz.prog w = .ok (.bool true) w := by kernel_rfl
theorem typeOf25 (v : Value) (w : World) : (ReflectliteType.typeOf #[.iface 93 v]).run Tryz.prog w = .ok (.iface 239 (.agg #[.pointer (some ⟨4,93,none⟩)])) w:=by kernel_rfl
theorem assignable25 (w : World) : (ReflectliteType.relation "AssignableTo" ReflectliteType.assignableTo #[.agg #[.pointer (some ⟨4, 93, none⟩)], .iface 239 (.agg #[.pointer (some ⟨4, 93, none⟩)])]).run Tryz.prog w = .ok (.bool true) w := by kernel_rfl
theorem valueOf25 (e : Addr) (w : World) : (ReflectliteValue.unpack (.iface 93 (.pointer (some e)))).run Tryz.prog w
    = .ok (.agg #[.pointer (some ⟨4,93,none⟩),.pointer (some ⟨w.heap.size,0,none⟩),.int .u64 150]) (w.alloc (.cells #[.pointer (some e)] 93)):=by kernel_rfl
theorem elemOf27 (w : World) : (Rtype.elem? 193).run Tryz.prog w = .ok (some 93) w:=by kernel_rfl
theorem mk25 (p : Addr) (w : World) : (ReflectliteValue.mk 93 p ReflectliteValue.flagAddr).run Tryz.prog w = .ok (.agg #[.pointer (some ⟨4,93,none⟩),.pointer (some p),.int .u64 406]) w:=by kernel_rfl
theorem elemV27 (a p : Addr) (W : World) (ha : W.cell? a = some (.pointer (some p))) :
    (ReflectliteValue.method (ReflectliteValue.valueError "reflectlite.Value.Elem" 0) ReflectliteValue.elem #[.agg #[.pointer (some ⟨4, 193, none⟩), .pointer (some a), .int .u64 150]]).run Tryz.prog W
      = .ok (.agg #[.pointer (some ⟨4,93,none⟩),.pointer (some p),.int .u64 406]) W:=by
  rw [rlm];simp only [Sem.run_bind,parts27,Result.andThen];simp [ReflectliteValue.elem,loadVar,isAgg,underlying,Tryz.underlying193,ha,Result.andThen,elemOf27,mk25]
theorem rls (v x : Value) : ReflectliteValue.set #[v,x] = (do
    let (some (dst,a,fl),some (src,b,_)):=(← ReflectliteValue.parts v,← ReflectliteValue.parts x)
      | unsupported (.noEntry "extern/(internal/reflectlite.Value).Set.zeroValue")
    if fl / ReflectliteValue.flagAddr % 2 == 0 then unsupported (.noEntry "extern/(internal/reflectlite.Value).Set.unaddressable")
    let val ← loadVar src b
    if ← Rtype.directlyAssignable dst src then storeVar dst a val
    else if ← Rtype.implements dst src then
      if (← Rtype.kind src) == 20 then
        match val with
        | .nilIface => unsupported (.noEntry "extern/reflectlite: a nil value of one interface type handed on as a value of another")
        | _=>storeVar dst a val
      else storeVar dst a (.iface src val)
    else panicString ("reflectlite.Set: value of type " ++ (← Rtype.spelt src) ++ " is not assignable to type " ++ (← Rtype.spelt dst))
    pure (.tuple #[])):=rfl
theorem parts25a (a : Addr) (w : World) : (ReflectliteValue.parts (.agg #[.pointer (some ⟨4,93,none⟩),.pointer (some a),.int .u64 406])).run Tryz.prog w = .ok (some (93,a,406)) w:=by kernel_rfl
theorem parts25 (a : Addr) (w : World) : (ReflectliteValue.parts (.agg #[.pointer (some ⟨4,93,none⟩),.pointer (some a),.int .u64 150])).run Tryz.prog w = .ok (some (93,a,150)) w:=by kernel_rfl
theorem direct25 (w : World) : (Rtype.directlyAssignable 93 93).run Tryz.prog w = .ok true w:=by kernel_rfl
theorem set25 (ta b e : Addr) (old : Value) (W : World) (hb : W.cell? b = some (.pointer (some e))) (ht : W.cell? ta = some old) (hf : W.frozen? ta = false) :
    (ReflectliteValue.set #[.agg #[.pointer (some ⟨4,93,none⟩),.pointer (some ta),.int .u64 406],.agg #[.pointer (some ⟨4,93,none⟩),.pointer (some b),.int .u64 150]]).run Tryz.prog W
      = .ok (.tuple #[]) (W.setCell ta (.pointer (some e))):=by
  rw [rls];simp only [Sem.run_bind,parts25a,parts25,Result.andThen];simp [ReflectliteValue.flagAddr,loadVar,isAgg,underlying,Tryz.underlying93,hb,Result.andThen,direct25,storeVar,Value.cells,storeCells,Addr.add];rw [run_store Tryz.prog W ta _ _ (by rfl)];simp [ht,hf]
theorem typeOfN (v : Value) (w : World) : (ReflectliteType.typeOf #[.iface 59 v]).run Tryz.prog w = .ok (.iface 239 (.agg #[.pointer (some ⟨4,59,none⟩)])) w:=by kernel_rfl
theorem assignableN (w : World) : (ReflectliteType.relation "AssignableTo" ReflectliteType.assignableTo #[.agg #[.pointer (some ⟨4, 59, none⟩)], .iface 239 (.agg #[.pointer (some ⟨4, 93, none⟩)])]).run Tryz.prog w = .ok (.bool false) w := by kernel_rfl
theorem noAs (v : Value) (xT : TypeId) (w : World) : (Instr.typeAssert (.iface 59 v) xT 244 true).run Tryz.prog w = .ok (.tuple #[.nilIface,.bool false]) w:=run_typeAssert_lacksB Tryz.underlying244 (by kernel_rfl) (by kernel_rfl) v xT w
theorem noUnwrap (v : Value) (xT : TypeId) (w : World) : (Instr.typeAssert (.iface 59 v) xT 247 true).run Tryz.prog w = .ok (.tuple #[.nilIface,.bool false]) w:=run_typeAssert_lacksB Tryz.underlying247 (by kernel_rfl) (by kernel_rfl) v xT w
theorem noUnwraps (v : Value) (xT : TypeId) (w : World) : (Instr.typeAssert (.iface 59 v) xT 248 true).run Tryz.prog w = .ok (.tuple #[.nilIface,.bool false]) w:=run_typeAssert_lacksB Tryz.underlying248 (by kernel_rfl) (by kernel_rfl) v xT w
set_option maxHeartbeats 4000000 in
theorem as_hit (e t : Addr) (old : Value) (w : World) (hg : w.cell? ⟨0,0,none⟩ = some (.iface 239 (.agg #[.pointer (some ⟨4,34,none⟩)]))) (ht0 : w.cell? t = some old) (hf0 : w.frozen? t = false) :
    Calls Tryz.prog 121 #[.iface 93 (.pointer (some e)),.iface 193 (.pointer (some t))] w fun ev w'=>ev = .returned (.bool true) ∧ w' = ((((w.alloc (.cells #[.pointer (some t)] 193)).alloc (.cells #[.pointer (some ⟨4,193,none⟩),.pointer (some ⟨w.heap.size,0,none⟩),.int .u64 150] 222)).alloc (.cells #[.pointer (some ⟨4,193,none⟩),.pointer (some ⟨w.heap.size,0,none⟩),.int .u64 150] 222)).alloc (.cells #[.pointer (some e)] 93)).setCell t (.pointer (some e)):=by
  have h6 := @run_callFunc_extern Tryz.prog 150 _ (fun args => ReflectliteValue.unpack (args.getD 0 (.tuple #[]))) Tryz.func150 (by kernel_rfl) (by kernel_rfl) (by kernel_rfl) (by kernel_rfl);have h7 := @run_callFunc_extern Tryz.prog 151 _ (ReflectliteValue.methodAny (ReflectliteValue.valueError "reflectlite.Value.Type" 0) (fun t _ _ _ => ReflectliteType.toType t)) Tryz.func151 (by kernel_rfl) (by kernel_rfl) (by kernel_rfl) (by kernel_rfl);have h8 := @run_callFunc_extern Tryz.prog 152 _ (ReflectliteValue.method (ReflectliteValue.valueError "reflectlite.Value.IsNil" 0) ReflectliteValue.isNil) Tryz.func152 (by kernel_rfl) (by kernel_rfl) (by kernel_rfl) (by kernel_rfl);have h27 := @run_callFunc_extern Tryz.prog 223 _ (ReflectliteType.abiMethod fun t => do pure (.int .u8 (← Rtype.kind t))) Tryz.func223 (by kernel_rfl) (by kernel_rfl) (by kernel_rfl) (by kernel_rfl);have h37 := @run_callFunc_extern Tryz.prog 236 _ (ReflectliteType.method ReflectliteType.elem) Tryz.func236 (by kernel_rfl) (by kernel_rfl) (by kernel_rfl) (by kernel_rfl);have h38 := @run_callFunc_extern Tryz.prog 237 _ (ReflectliteType.relation "Implements" ReflectliteType.implements_) Tryz.func237 (by kernel_rfl) (by kernel_rfl) (by kernel_rfl) (by kernel_rfl);have h10 := @run_callFunc_extern Tryz.prog 166 _ ReflectliteType.typeOf Tryz.func166 (by kernel_rfl) (by kernel_rfl) (by kernel_rfl) (by kernel_rfl);have h35 := @run_callFunc_extern Tryz.prog 234 _ (ReflectliteType.relation "AssignableTo" ReflectliteType.assignableTo) Tryz.func234 (by kernel_rfl) (by kernel_rfl) (by kernel_rfl) (by kernel_rfl);have h11 := @run_callFunc_extern Tryz.prog 167 _ (ReflectliteValue.method (ReflectliteValue.valueError "reflectlite.Value.Elem" 0) ReflectliteValue.elem) Tryz.func167 (by kernel_rfl) (by kernel_rfl) (by kernel_rfl) (by kernel_rfl);have h12 := @run_callFunc_extern Tryz.prog 168 _ ReflectliteValue.set Tryz.func168 (by kernel_rfl) (by kernel_rfl) (by kernel_rfl) (by kernel_rfl);have tO := typeOf25;have mA := methodAssignableTo;have a25 := assignable25;have v25 := valueOf25;have f6 := valueOf27;have f7 := type27;have mK := methodKind;have mE := methodElem;have mI := methodImplements;have k27 := kind27;have k25 := kind25;have e27 := elem27;have i25 := implements25;have n8 := isNil27 ⟨w.heap.size, 0, none⟩ t ((w.alloc (.cells #[.pointer (some t)] 193)).alloc (.cells #[.pointer (some ⟨4, 193, none⟩), .pointer (some ⟨w.heap.size, 0, none⟩), .int .u64 150] 222)) (by simp);have hlt : 0 < w.heap.size := by
    rcases Nat.lt_or_ge 0 w.heap.size with h|h
    · exact h
    · simp [World.cell?,Array.getElem?_eq_none h] at hg
  have hg2 : ((w.alloc (.cells #[.pointer (some t)] 193)).alloc (.cells #[.pointer (some ⟨4,193,none⟩),.pointer (some ⟨w.heap.size,0,none⟩),.int .u64 150] 222)).cell? ⟨0,0,none⟩ = some (.iface 239 (.agg #[.pointer (some ⟨4,34,none⟩)])):=by
    rw [World.cell?_alloc_lt _ _ ⟨0,0,none⟩ (by simp),World.cell?_alloc_lt _ _ ⟨0,0,none⟩ hlt];exact hg
  have htl : t.block < w.heap.size:=by
    rcases Nat.lt_or_ge t.block w.heap.size with h|h
    · exact h
    · simp [World.cell?,Array.getElem?_eq_none h] at ht0
  have el:=elemV27 ⟨w.heap.size,0,none⟩ t (((w.alloc (.cells #[.pointer (some t)] 193)).alloc (.cells #[.pointer (some ⟨4,193,none⟩),.pointer (some ⟨w.heap.size,0,none⟩),.int .u64 150] 222)).alloc (.cells #[.pointer (some ⟨4,193,none⟩),.pointer (some ⟨w.heap.size,0,none⟩),.int .u64 150] 222)) (by rw [World.cell?_alloc_lt _ _ ⟨w.heap.size,0,none⟩ (by simp;omega)];simp);have st:=set25 t ⟨w.heap.size + 1 + 1 + 1,0,none⟩ e old ((((w.alloc (.cells #[.pointer (some t)] 193)).alloc (.cells #[.pointer (some ⟨4,193,none⟩),.pointer (some ⟨w.heap.size,0,none⟩),.int .u64 150] 222)).alloc (.cells #[.pointer (some ⟨4,193,none⟩),.pointer (some ⟨w.heap.size,0,none⟩),.int .u64 150] 222)).alloc (.cells #[.pointer (some e)] 93))
    (by rw [World.cell?_alloc_at _ _ _ _ (by simp)];rfl)
    (by rw [World.cell?_alloc_lt _ _ t (by simp;omega),World.cell?_alloc_lt _ _ t (by simp;omega),World.cell?_alloc_lt _ _ t (by simp;omega),World.cell?_alloc_lt _ _ t htl];exact ht0)
    (by rw [World.frozen?_alloc_old _ _ t (by simp;omega),World.frozen?_alloc_old _ _ t (by simp;omega),World.frozen?_alloc_old _ _ t (by simp;omega),World.frozen?_alloc_old _ _ t (Nat.ne_of_lt htl)];exact hf0)
  go_enter Tryz.func121,Tryz.ntmps121
  go_wp2
  refine wp_loop_rounds 1 ?_;rw [rounds_succ]
  go_wp2
  go_ret
  exact ⟨rfl,rfl⟩
set_option maxHeartbeats 4000000 in
theorem as_miss (v : Value) (t : Addr) (old : Value) (w : World) (hg : w.cell? ⟨0,0,none⟩ = some (.iface 239 (.agg #[.pointer (some ⟨4,34,none⟩)]))) (ht0 : w.cell? t = some old) (_ : w.frozen? t = false) :
    Calls Tryz.prog 121 #[.iface 59 v,.iface 193 (.pointer (some t))] w fun ev w'=>ev = .returned (.bool false) ∧ w' = ((w.alloc (.cells #[.pointer (some t)] 193)).alloc (.cells #[.pointer (some ⟨4,193,none⟩),.pointer (some ⟨w.heap.size,0,none⟩),.int .u64 150] 222)).alloc (.cells #[.pointer (some ⟨4,193,none⟩),.pointer (some ⟨w.heap.size,0,none⟩),.int .u64 150] 222):=by
  have h6 := @run_callFunc_extern Tryz.prog 150 _ (fun args => ReflectliteValue.unpack (args.getD 0 (.tuple #[]))) Tryz.func150 (by kernel_rfl) (by kernel_rfl) (by kernel_rfl) (by kernel_rfl);have h7 := @run_callFunc_extern Tryz.prog 151 _ (ReflectliteValue.methodAny (ReflectliteValue.valueError "reflectlite.Value.Type" 0) (fun t _ _ _ => ReflectliteType.toType t)) Tryz.func151 (by kernel_rfl) (by kernel_rfl) (by kernel_rfl) (by kernel_rfl);have h8 := @run_callFunc_extern Tryz.prog 152 _ (ReflectliteValue.method (ReflectliteValue.valueError "reflectlite.Value.IsNil" 0) ReflectliteValue.isNil) Tryz.func152 (by kernel_rfl) (by kernel_rfl) (by kernel_rfl) (by kernel_rfl);have h27 := @run_callFunc_extern Tryz.prog 223 _ (ReflectliteType.abiMethod fun t => do pure (.int .u8 (← Rtype.kind t))) Tryz.func223 (by kernel_rfl) (by kernel_rfl) (by kernel_rfl) (by kernel_rfl);have h37 := @run_callFunc_extern Tryz.prog 236 _ (ReflectliteType.method ReflectliteType.elem) Tryz.func236 (by kernel_rfl) (by kernel_rfl) (by kernel_rfl) (by kernel_rfl);have h38 := @run_callFunc_extern Tryz.prog 237 _ (ReflectliteType.relation "Implements" ReflectliteType.implements_) Tryz.func237 (by kernel_rfl) (by kernel_rfl) (by kernel_rfl) (by kernel_rfl);have h10 := @run_callFunc_extern Tryz.prog 166 _ ReflectliteType.typeOf Tryz.func166 (by kernel_rfl) (by kernel_rfl) (by kernel_rfl) (by kernel_rfl);have h35 := @run_callFunc_extern Tryz.prog 234 _ (ReflectliteType.relation "AssignableTo" ReflectliteType.assignableTo) Tryz.func234 (by kernel_rfl) (by kernel_rfl) (by kernel_rfl) (by kernel_rfl);have h11 := @run_callFunc_extern Tryz.prog 167 _ (ReflectliteValue.method (ReflectliteValue.valueError "reflectlite.Value.Elem" 0) ReflectliteValue.elem) Tryz.func167 (by kernel_rfl) (by kernel_rfl) (by kernel_rfl) (by kernel_rfl);have h12 := @run_callFunc_extern Tryz.prog 168 _ ReflectliteValue.set Tryz.func168 (by kernel_rfl) (by kernel_rfl) (by kernel_rfl) (by kernel_rfl);have tO := typeOfN;have q1 := noAs;have q2 := noUnwrap;have q3 := noUnwraps;have mA := methodAssignableTo;have a25 := assignableN;have v25 := valueOf25;have f6 := valueOf27;have f7 := type27;have mK := methodKind;have mE := methodElem;have mI := methodImplements;have k27 := kind27;have k25 := kind25;have e27 := elem27;have i25 := implements25;have n8 := isNil27 ⟨w.heap.size, 0, none⟩ t ((w.alloc (.cells #[.pointer (some t)] 193)).alloc (.cells #[.pointer (some ⟨4, 193, none⟩), .pointer (some ⟨w.heap.size, 0, none⟩), .int .u64 150] 222)) (by simp);have hlt : 0 < w.heap.size := by
    rcases Nat.lt_or_ge 0 w.heap.size with h|h
    · exact h
    · simp [World.cell?,Array.getElem?_eq_none h] at hg
  have hg2 : ((w.alloc (.cells #[.pointer (some t)] 193)).alloc (.cells #[.pointer (some ⟨4,193,none⟩),.pointer (some ⟨w.heap.size,0,none⟩),.int .u64 150] 222)).cell? ⟨0,0,none⟩ = some (.iface 239 (.agg #[.pointer (some ⟨4,34,none⟩)])):=by
    rw [World.cell?_alloc_lt _ _ ⟨0,0,none⟩ (by simp),World.cell?_alloc_lt _ _ ⟨0,0,none⟩ hlt];exact hg
  have htl : t.block < w.heap.size:=by
    rcases Nat.lt_or_ge t.block w.heap.size with h|h
    · exact h
    · simp [World.cell?,Array.getElem?_eq_none h] at ht0
  have el:=elemV27 ⟨w.heap.size,0,none⟩ t (((w.alloc (.cells #[.pointer (some t)] 193)).alloc (.cells #[.pointer (some ⟨4,193,none⟩),.pointer (some ⟨w.heap.size,0,none⟩),.int .u64 150] 222)).alloc (.cells #[.pointer (some ⟨4,193,none⟩),.pointer (some ⟨w.heap.size,0,none⟩),.int .u64 150] 222)) (by rw [World.cell?_alloc_lt _ _ ⟨w.heap.size,0,none⟩ (by simp;omega)];simp)
  go_enter Tryz.func121,Tryz.ntmps121
  go_wp2
  refine wp_loop_rounds 1 ?_;rw [rounds_succ]
  go_wp2
  go_ret
  exact ⟨rfl,rfl⟩
end Go.Proofs.YtpfkncffaanjcaaGreatDoor.As
namespace Go.Proofs.YtpfkncffaanjcaaGreatDoor
open Go.RowKit
namespace Ab
set_option maxRecDepth 100000
namespace Q
theorem errCell {ok : Oks} {w : World} (h : GlobAt ok w) : w.cell? ⟨0,0,none⟩ = some (.iface 239 (.agg #[.pointer (some ⟨3 + 1,34,none⟩)])):=h.2.2.2
theorem as_hit' {n0 : Nat} (e t : Addr) (old : Value) (w : World) (hg : w.cell? ⟨0,0,none⟩ = some (.iface 239 (.agg #[.pointer (some ⟨3 + 1,34,none⟩)]))) (ht : w.cell? t = some old) (hf : w.frozen? t = false) (h0 : n0 ≤ t.block) (h1 : n0 ≤ w.heap.size) :
    Calls Tryz.prog 121 #[.iface 93 (.pointer (some e)),.iface 193 (.pointer (some t))] w fun ev w'=>ev = .returned (.bool true) ∧ Below n0 w w' ∧ w'.cell? t = some (.pointer (some e)):=by
  have htl : t.block < w.heap.size:=by
    rcases Nat.lt_or_ge t.block w.heap.size with h|h
    · exact h
    · simp [World.cell?,Array.getElem?_eq_none h] at ht
  refine (As.as_hit e t old w hg ht hf).mono ?_
  rintro ev w' ⟨rfl,rfl⟩
  have hb:=((((Below.refl n0 w).alloc h1 (.cells #[.pointer (some t)] 193)).alloc (by simp;omega) (.cells #[.pointer (some ⟨3 + 1,193,none⟩),.pointer (some ⟨w.heap.size,0,none⟩),.int .u64 150] 222)).alloc (by simp;omega) (.cells #[.pointer (some ⟨3 + 1,193,none⟩),.pointer (some ⟨w.heap.size,0,none⟩),.int .u64 150] 222)).alloc (by simp;omega) (.cells #[.pointer (some e)] 93);refine ⟨rfl,hb.setCell h0 _,World.cell?_setCell_same _ _ _ (u:=old) ?_⟩;rw [World.cell?_alloc_lt _ _ t (by simp;omega),World.cell?_alloc_lt _ _ t (by simp;omega),World.cell?_alloc_lt _ _ t (by simp;omega),World.cell?_alloc_lt _ _ t htl];exact ht
theorem as_miss' {n0 : Nat} (v : Value) (t : Addr) (old : Value) (w : World) (hg : w.cell? ⟨0,0,none⟩ = some (.iface 239 (.agg #[.pointer (some ⟨3 + 1,34,none⟩)]))) (ht : w.cell? t = some old) (hf : w.frozen? t = false) (h1 : n0 ≤ w.heap.size) :
    Calls Tryz.prog 121 #[.iface 59 v,.iface 193 (.pointer (some t))] w fun ev w'=>ev = .returned (.bool false) ∧ Below n0 w w':=by
  refine (As.as_miss v t old w hg ht hf).mono ?_
  rintro ev w' ⟨rfl,rfl⟩
  exact ⟨rfl,(((Below.refl n0 w).alloc h1 _).alloc (by simp;omega) _).alloc (by simp;omega) _⟩
set_option maxHeartbeats 4000000 in
theorem bareN_calls (v : Value) (w : World) (hg : w.cell? ⟨0,0,none⟩ = some (.iface 239 (.agg #[.pointer (some ⟨3 + 1,34,none⟩)]))) (hlt : 0 < w.heap.size) :
    Calls Tryz.prog 86 #[.iface 59 v] w fun e w'=>e = .returned (.iface 59 v) ∧ Below w.heap.size w w':=by
  have hgA : (w.alloc (.cells #[.pointer none] 93)).cell? ⟨0,0,none⟩ = some (.iface 239 (.agg #[.pointer (some ⟨3 + 1,34,none⟩)])):=by
    rw [World.cell?_alloc_lt _ _ ⟨0,0,none⟩ hlt];exact hg
  have htA : (w.alloc (.cells #[.pointer none] 93)).cell? ⟨w.heap.size,0,none⟩ = some (.pointer none):=by simp
  have hfA : (w.alloc (.cells #[.pointer none] 93)).frozen? ⟨w.heap.size,0,none⟩ = false:=by simp
  have hbA : Below w.heap.size w (w.alloc (.cells #[.pointer none] 93)):=(Below.refl _ w).alloc (Nat.le_refl _) _
  go_enter Tryz.func86,Tryz.ntmps86
  go_wp2_with (go_at_call 121;refine (as_miss' (n0:=w.heap.size) v _ _ _ hgA htA hfA (by simp)).mono ?_;rintro e w' ⟨rfl,hb⟩)
  go_ret
  exact ⟨rfl,hbA.trans hb⟩
set_option maxHeartbeats 4000000 in
theorem bareF_calls (b off : Nat) (x : Value) (w : World) (hg : w.cell? ⟨0,0,none⟩ = some (.iface 239 (.agg #[.pointer (some ⟨3 + 1,34,none⟩)]))) (hlt : 0 < w.heap.size) (hx : w.cell? ⟨b,off + 1,none⟩ = some x) :
    Calls Tryz.prog 86 #[.iface 93 (.pointer (some ⟨b,off,none⟩))] w fun e w'=>e = .returned x ∧ Below w.heap.size w w':=by
  have hgA : (w.alloc (.cells #[.pointer none] 93)).cell? ⟨0,0,none⟩ = some (.iface 239 (.agg #[.pointer (some ⟨3 + 1,34,none⟩)])):=by
    rw [World.cell?_alloc_lt _ _ ⟨0,0,none⟩ hlt];exact hg
  have htA : (w.alloc (.cells #[.pointer none] 93)).cell? ⟨w.heap.size,0,none⟩ = some (.pointer none):=by simp
  have hfA : (w.alloc (.cells #[.pointer none] 93)).frozen? ⟨w.heap.size,0,none⟩ = false:=by simp
  have hbA : Below w.heap.size w (w.alloc (.cells #[.pointer none] 93)):=(Below.refl _ w).alloc (Nat.le_refl _) _
  go_enter Tryz.func86,Tryz.ntmps86
  go_wp2_with (go_at_call 121;refine (as_hit' (n0:=w.heap.size) ⟨b,off,none⟩ _ _ _ hgA htA hfA (by simp) (by simp)).mono ?_;rintro e w' ⟨rfl,hb,hc⟩;have hx2 : w'.cell? ⟨b,off + 1,none⟩ = some x:=cell_later (hbA.trans hb) hx)
  go_ret
  exact ⟨rfl,hbA.trans hb⟩
theorem bareN_c (n : Int) : qU Tryz.prog 86 [.one (errN n)] (.one (errN n)):=by
  refine ⟨⟨_,Tryz.func86,rfl,rfl⟩,fun ok w vs hg hvs=>?_⟩;obtain ⟨v,t,rfl,hv,ht⟩:=hvs;rw [show t = [] from ht,show v = _ from hv];exact (bareN_calls (.int .i64 n) w (errCell hg) (Nat.lt_of_lt_of_le (by decide) hg.2.1)).mono fun e w' ⟨he,hb⟩=>⟨_,he,hb,rfl⟩
theorem bareF_c (a n : Int) : qU Tryz.prog 86 [.one (errF a n)] (.one (errN n)):=by
  refine ⟨⟨_,Tryz.func86,rfl,rfl⟩,fun ok w vs hg hvs=>?_⟩;obtain ⟨v,t,rfl,⟨u,rfl,b,off,cs,rfl,_,hlt,hc,hr⟩,ht⟩:=hvs;obtain ⟨c,d,rfl,h1,h2⟩:=hr;rw [show t = [] from ht];have hx : w.cell? ⟨b,off + 1,none⟩ = some (.iface 59 (.int .i64 n)):=by
    rw [hc.2 1 (by decide),show c = _ from h1,show d = _ from h2.1];rfl
  exact (bareF_calls b off _ w (errCell hg) (Nat.lt_of_lt_of_le (by decide) hg.2.1) hx).mono fun e w' ⟨he,hb⟩=>⟨_,he,hb,rfl⟩
end Q
end Ab
end Go.Proofs.YtpfkncffaanjcaaGreatDoor
namespace Go.Proofs.YtpfkncffaanjcaaGreatDoor
open Go.RowKit
namespace Ab
set_option maxRecDepth 100000
abbrev rItm3 : Rd Itm:=rItm.kd 3
namespace Q
end Q
end Ab
end Go.Proofs.YtpfkncffaanjcaaGreatDoor
namespace Go.Proofs.YtpfkncffaanjcaaGreatDoor
open Go.RowKit
namespace Ab
set_option maxRecDepth 100000
namespace Q
def al0 : List Ent:=[((3,⟨#[65,58,32,49,10]⟩,[(⟨#[65]⟩,⟨#[49]⟩)]),1)]
def alF : List Fld:=[(⟨#[66]⟩,⟨#[50]⟩)]
def al1 : List Ent:=insE al0 0 (itmOf alF,2)
structure SeenI (es : List Ent) (n : Int) (i : Nat) (sn : List Bool) : Prop where
  le : i ≤ (stzL es).length
  len : sn.length = n.toNat
  seen : ∀ k : Nat,sn.getD k false = true → ∃ j,j < i ∧ ((stzL es).getD j ((0 : Int),([] : List Fld))).1 = k
theorem SeenI.next {es : List Ent} {n : Int} {i : Nat} {sn : List Bool} (h : SeenI es n i sn) (hi : i < (stzL es).length) (hp : 0 < ((stzL es).getD i ((0 : Int),([] : List Fld))).1) : SeenI es n (i + 1) (sn.set (((stzL es).getD i ((0 : Int),([] : List Fld))).1).toNat true):=by
  refine ⟨hi,by rw [List.length_set];exact h.len,fun k hk=>?_⟩
  by_cases e : (((stzL es).getD i ((0 : Int),([] : List Fld))).1).toNat = k
  · exact ⟨i,Nat.lt_succ_self _,by omega⟩
  · rw [List.getD_eq_getElem?_getD,List.getElem?_set_ne e,← List.getD_eq_getElem?_getD] at hk;obtain ⟨j,hj,h2⟩:=h.seen k hk;exact ⟨j,by omega,h2⟩
theorem lsvec_eq {L M : Lst} (h : M = L) : some (Ob.vec 111 rEnt L.1) = some (Ob.vec 111 rEnt M.1):=by rw [h]
abbrev rStz3 : Rd Stz:=rStz.kd 3
def goodA (x : Edt) : C:=if x.1 = 2 then (if 0 < x.2.2.length then errN 2 else .lit .nilIface) else if x.1 = 1 ∨ x.1 = 3 then chkA x.2.2 else errN 2
theorem goodA_cases (x : Edt) : (goodN x = 0 ∧ goodA x = .lit .nilIface) ∨ (∃ n,n ≠ 0 ∧ goodN x = n ∧ goodA x = errN n) ∨ ∃ a n,n ≠ 0 ∧ goodN x = n ∧ goodA x = errF a n:=by
  unfold goodN goodA
  by_cases h2 : x.1 = 2
  · simp only [if_pos h2]
    by_cases h3 : 0 < x.2.2.length
    · simp only [if_pos h3];exact .inr (.inl ⟨2,by decide,rfl,rfl⟩)
    · simp only [if_neg h3];exact .inl ⟨trivial,trivial⟩
  · simp only [if_neg h2]
    by_cases h3 : x.1 = 1 ∨ x.1 = 3
    · simp only [if_pos h3]
      by_cases hc : (chkR x.2.2).2 = 0
      · exact .inl ⟨hc,(chk_good hc).2.2⟩
      · obtain ⟨e,he,hs⟩:=chk_bad hc;rcases hs with ⟨n,hn,rfl,hr⟩|⟨i,n,hn,rfl,hr⟩
        · exact .inr (.inl ⟨n,hn,by rw [hr],he⟩)
        · exact .inr (.inr ⟨i,n,hn,by rw [hr],he⟩)
    · simp only [if_neg h3];exact .inr (.inl ⟨2,by decide,rfl,rfl⟩)
theorem goodA_2 {x : Edt} (h : x.1 = 2) (h3 : 0 < x.2.2.length) : goodA x = errN 2:=by unfold goodA;rw [if_pos h,if_pos h3]
theorem goodA_20 {x : Edt} (h : x.1 = 2) (h3 : ¬ 0 < x.2.2.length) : goodA x = .lit .nilIface:=by unfold goodA;rw [if_pos h,if_neg h3]
theorem goodA_13 {x : Edt} (h : x.1 = 1 ∨ x.1 = 3) : goodA x = chkA x.2.2:=by unfold goodA;rw [if_neg (by omega),if_pos h]
theorem goodA_no {x : Edt} (h : x.1 ≠ 2) (h3 : ¬ (x.1 = 1 ∨ x.1 = 3)) : goodA x = errN 2:=by unfold goodA;rw [if_neg h,if_neg h3]
theorem chkA_cases (l : List Fld) : chkA l = .lit .nilIface ∨ (∃ n,chkA l = errN n) ∨ ∃ a n,chkA l = errF a n:=by
  unfold chkA;split
  · exact .inl rfl
  · split
    · exact .inr (.inl ⟨_,rfl⟩)
    · exact .inr (.inr ⟨_,_,rfl⟩)
theorem good_c {κ : Nat} (x : Edt) (hf : yJ x.2.2) : qU Tryz.prog 81 [.agg (toL (rEdk κ) x)] (.one (goodA x)):=by
  refine qW (rs:=[2]) Tryz.func81 rfl rfl rfl teOk rfl ?_;refine qC ?_;refine qB ?_;refine qC ?_;refine qC ?_;refine qB ?_;refine qO ?_;refine qC ?_;refine qB ?_;refine qK rfl (fun h5=>?_) (fun h5=>?_)
  ·try simp only [decide_eq_true_eq] at h5
   try simp only [zds] at h5
   refine qC ?_;refine qC ?_;refine qB ?_;intro l3_2
   try simp only [zds] at l3_2
   refine qK rfl (fun h10=>?_) (fun h10=>?_)
   ·try simp only [decide_eq_true_eq] at h10
    try simp only [zds] at h10
    refine qC ?_;refine qB ?_;refine qL ?_;rw [goodA_2 h5 (by omega)];rfl
   ·try simp only [decide_eq_false_iff_not,Int.not_lt] at h10
    try simp only [zds] at h10
    refine qM ?_;refine qC ?_;refine qB ?_;refine qL ?_;rw [goodA_20 h5 (by omega)];rfl
  ·try simp only [decide_eq_false_iff_not] at h5
   try simp only [zds] at h5
   refine qC ?_;refine qC ?_;refine qB ?_;refine qK rfl (fun h12=>?_) (fun h12=>?_)
   ·try simp only [decide_eq_true_eq] at h12
    try simp only [zds] at h12
    refine qM ?_;refine qK rfl (fun h12=>?_) (fun h12=>?_)
    ·try simp only [decide_eq_true_eq] at h12
     try simp only [zds] at h12
     refine qC ?_;have hk:=pcheck_c (κ:=κ) x.2.2 hf ; rcases chkA_cases x.2.2 with hA|⟨n,hA⟩|⟨a,n,hA⟩ <;> rw [hA] at hk
     ·refine qB ?_;refine Or.inl ?_;refine zai (rfl) ?_;refine zei _ (zai (hk) ?_);refine qL ?_;rw [goodA_13 (by omega),hA];rfl
     ·refine qB ?_;refine Or.inl ?_;refine zai (rfl) ?_;refine zei _ (zai (hk) ?_);refine qL ?_;rw [goodA_13 (by omega),hA];rfl
     ·refine qB ?_;refine Or.inl ?_;refine zai (rfl) ?_;refine zei _ (zai (hk) ?_);refine qL ?_;rw [goodA_13 (by omega),hA];rfl
    ·try simp only [decide_eq_false_iff_not] at h12
     try simp only [zds] at h12
     omega
   ·try simp only [decide_eq_false_iff_not] at h12
    try simp only [zds] at h12
    refine qB ?_;refine qK rfl (fun h12=>?_) (fun h12=>?_)
    ·try simp only [decide_eq_true_eq] at h12
     try simp only [zds] at h12
     refine qC ?_;have hk:=pcheck_c (κ:=κ) x.2.2 hf ; rcases chkA_cases x.2.2 with hA|⟨n,hA⟩|⟨a,n,hA⟩ <;> rw [hA] at hk
     ·refine qB ?_;refine Or.inl ?_;refine zai (rfl) ?_;refine zei _ (zai (hk) ?_);refine qL ?_;rw [goodA_13 (by omega),hA];rfl
     ·refine qB ?_;refine Or.inl ?_;refine zai (rfl) ?_;refine zei _ (zai (hk) ?_);refine qL ?_;rw [goodA_13 (by omega),hA];rfl
     ·refine qB ?_;refine Or.inl ?_;refine zai (rfl) ?_;refine zei _ (zai (hk) ?_);refine qL ?_;rw [goodA_13 (by omega),hA];rfl
    ·try simp only [decide_eq_false_iff_not] at h12
     try simp only [zds] at h12
     skip
     refine qM ?_;refine qC ?_;refine qB ?_;refine qL ?_;rw [goodA_no (by omega) (by omega)];rfl
theorem faultN_c (i n : Int) : qU Tryz.prog 53 [ii .i64 i,.one (errN n)] (.one (errF i n)):=by
  refine qW (rs:=[4]) Tryz.func53 rfl rfl rfl teOk rfl ?_;refine qC ?_;refine qB ?_;refine qC ?_;refine qB ?_;refine Or.inl ?_;refine zai (rfl) ?_;refine zei _ (zai (bareN_c n) ?_);refine qL ?_;rfl
theorem faultF_c (i a n : Int) : qU Tryz.prog 53 [ii .i64 i,.one (errF a n)] (.one (errF i n)):=by
  refine qW (rs:=[4]) Tryz.func53 rfl rfl rfl teOk rfl ?_;refine qC ?_;refine qB ?_;refine qC ?_;refine qB ?_;refine Or.inl ?_;refine zai (rfl) ?_;refine zei _ (zai (bareF_c a n) ?_);refine qL ?_;rfl
def erB (p : Int × Int) : C:=if p.2 = 0 then .lit .nilIface else if p.1 = -9 then errN p.2 else errF p.1 p.2
theorem erB_z : erB (-9,0) = .lit .nilIface:=rfl
theorem erB_n {n : Int} (h : n ≠ 0) : erB (-9,n) = errN n:=by unfold erB;rw [if_neg h,if_pos rfl]
theorem erB_f {i : Nat} {n : Int} (h : n ≠ 0) : erB ((i : Int),n) = errF i n:=by unfold erB;rw [if_neg h,if_neg (show ¬ (i : Int) = -9 by omega)]
theorem check_c9 {κ κ' : Nat} (s : List Edt) (hf : ∀ e ∈ s,yJ e.2.2) (hl : s.length ≤ 1000000) : qU Tryz.prog 50 [.one (.slk κ (rEdk κ') s)] (.one (erB (chkB s))):=by
  refine qW (rs:=[2]) Tryz.func50 rfl rfl rfl teOk rfl ?_;refine qC ?_;refine qB ?_;refine qC ?_;refine qC ?_;refine qB ?_;intro l1_1
  try simp only [zds] at l1_1
  refine zai (fun h=>trivial) ?_;refine zai (fun h=>⟨⟨h,trivial⟩,trivial⟩) ?_;refine zai (fun h=>⟨⟨h,trivial⟩,trivial⟩) ?_;refine zai (by first|(intro h;rw [h];rfl)|(intro h;cases h)) ?_;refine qK rfl (fun h13=>?_) (fun h13=>?_)
  ·try simp only [decide_eq_true_eq,Bool.or_eq_true] at h13
   try simp only [zds] at h13
   refine qC ?_;refine qB ?_;refine qL ?_;rw [chkB_rng (by omega),erB_n (by decide)];rfl
  ·try simp only [decide_eq_false_iff_not,Bool.or_eq_false_iff,Int.not_lt] at h13
   try simp only [zds] at h13
   refine qM ?_;refine qC ?_;refine qC ?_;refine qB ?_;intro l3_1
   try simp only [zds] at l3_1
   refine qO ?_;refine qV (fun (i : Nat)=>i ≤ s.length ∧ ∀ e ∈ s.take i,goodN e = 0) (fun (i : Nat)=>[(15,.one (.slk κ (rEdk κ') s)),(16,ii .i64 s.length),(17,ii .i64 i)]) (fun (i : Nat)=>[]) 0 (fun (i : Nat)=>s.length - i) 0 (⟨Nat.zero_le _,by simp⟩) (qQ ⟨rfl,rfl,rfl⟩ trivial rfl) ?_;intro i hI0;obtain ⟨hi,hall⟩:=hI0;refine qC ?_;refine qB ?_;refine qC ?_;refine qK rfl (fun h18=>?_) (fun h18=>?_)
   ·try simp only [decide_eq_true_eq] at h18
    try simp only [zds] at h18
    have hlt : i < s.length:=(by omega);have hm:=hf _ (yT hlt ((0 : Int),(0 : Int),([] : List Fld)));have hg:=good_c (κ:=κ') (s.getD i ((0 : Int),(0 : Int),([] : List Fld))) hm;refine qM ?_;refine qC ?_;refine qO ?_;refine qC ?_;refine qB ?_;refine zai (by first|omega|assumption|decide|(simp only [zds];omega)|(simp <;> omega)) ?_;refine qC ?_;rcases goodA_cases (s.getD i ((0 : Int),(0 : Int),([] : List Fld))) with ⟨hz,hA⟩|⟨n,hn,hz,hA⟩|⟨a,n,hn,hz,hA⟩ <;> rw [hA] at hg
    ·refine qB ?_;refine Or.inl ?_;refine zai (rfl) ?_;refine zei _ (zai (hg) ?_);refine qC ?_;refine qB ?_;refine qK rfl (fun h25=>?_) (fun h25=>?_)
     ·try simp only [Bool.not_eq_true'] at h25
      try simp only [zds] at h25
      cases h25
     ·try simp only [Bool.not_eq_false'] at h25
      try simp only [zds] at h25
      refine qM ?_;refine qB ?_;refine zai (by first|omega|assumption|decide|(simp only [zds];omega)|(simp <;> omega)) ?_;exact ⟨i + 1,⟨by omega,take_good hlt hall hz⟩,by first|omega|(simp <;> omega),qQ ⟨rfl,rfl,(qR (by omega))⟩ trivial rfl⟩
    ·refine qB ?_;refine Or.inl ?_;refine zai (rfl) ?_;refine zei _ (zai (hg) ?_);refine qC ?_;refine qB ?_;refine qK rfl (fun h25=>?_) (fun h25=>?_)
     ·skip
      refine qC ?_;refine qB ?_;refine Or.inl ?_;refine zai (rfl) ?_;refine zei _ (zai (faultN_c i n) ?_);refine qL ?_;rw [chkB_at (by omega) hlt hall (by rw [hz];exact hn),hz,erB_f hn];rfl
     ·try simp only [zbq] at h25
      try simp only [zds] at h25
      cases h25
    ·refine qB ?_;refine Or.inl ?_;refine zai (rfl) ?_;refine zei _ (zai (hg) ?_);refine qC ?_;refine qB ?_;refine qK rfl (fun h25=>?_) (fun h25=>?_)
     ·skip
      refine qC ?_;refine qB ?_;refine Or.inl ?_;refine zai (rfl) ?_;refine zei _ (zai (faultF_c i a n) ?_);refine qL ?_;rw [chkB_at (by omega) hlt hall (by rw [hz];exact hn),hz,erB_f hn];rfl
     ·try simp only [zbq] at h25
      try simp only [zds] at h25
      cases h25
   ·try simp only [decide_eq_false_iff_not,Int.not_lt] at h18
    try simp only [zds] at h18
    refine qZ ?_;refine qC ?_;refine qB ?_;refine qL ?_;rw [List.take_of_length_le (by omega)] at hall;rw [chkB_no (by omega) hall,erB_z];rfl
theorem edits_c {κ κ' : Nat} (a b : List Edt) : qU Tryz.prog 20 [.one (.slk κ (rEdk κ') a),.one (.sl rEdt b)] (ib (decide (a = b))):=by
  refine qW (rs:=[4]) Tryz.func20 rfl rfl rfl teOk rfl ?_;refine qC ?_;refine qB ?_;refine qC ?_;refine qC ?_;refine qB ?_;intro l1_1
  try simp only [zds] at l1_1
  intro l1_3
  try simp only [zds] at l1_3
  refine qK rfl (fun h10=>?_) (fun h10=>?_)
  ·try simp only [decide_eq_false_iff_not,Bool.not_eq_true'] at h10
   try simp only [zds] at h10
   refine qC ?_;refine qB ?_;refine qL ?_;exact ib_eq (decide_eq_false (fun e=>by rw [e] at h10;omega)).symm
  ·try simp only [decide_eq_true_eq,Bool.not_eq_false'] at h10
   try simp only [zds] at h10
   refine qM ?_;refine qC ?_;refine qC ?_;refine qB ?_;intro l3_1
   try simp only [zds] at l3_1
   refine qO ?_;refine qV (fun (i : Nat)=>i ≤ a.length ∧ a.take i = b.take i) (fun (i : Nat)=>[(0,.one (.slk κ (rEdk κ') a)),(1,.one (.sl rEdt b)),(12,ii .i64 a.length),(13,ii .i64 i)]) (fun (i : Nat)=>[]) 0 (fun (i : Nat)=>a.length - i) 0 (⟨Nat.zero_le _,by simp⟩) (qQ ⟨rfl,rfl,rfl,rfl⟩ trivial rfl) ?_;intro i hI0;obtain ⟨hi,ht⟩:=hI0;refine qC ?_;refine qB ?_;refine qC ?_;refine qK rfl (fun h14=>?_) (fun h14=>?_)
   ·try simp only [decide_eq_true_eq] at h14
    try simp only [zds] at h14
    have hla : i < a.length:=(by omega);have hlb : i < b.length:=(by omega);refine qM ?_;refine qC ?_;refine qO ?_;refine qC ?_;refine qB ?_;refine qC ?_;refine acode_draw rfl (by kernel_rfl) ?_;refine zai (by first|omega|assumption|decide|(simp only [zds];omega)|(simp <;> omega)) ?_;refine zai (by first|omega|assumption|decide|(simp only [zds];omega)|(simp <;> omega)) ?_;refine zai (fun h=>trivial) ?_;refine zai (fun h=>trivial) ?_;refine zai (fun h=>⟨⟨⟨h,trivial⟩,⟨h,trivial⟩,trivial⟩,by first|omega|decide|(simp only [zds];omega)|(have h9:=of_decide_eq_true h;omega)|(simp [gq] at h;omega)⟩) ?_;refine zai (fun h=>⟨⟨h,trivial⟩,trivial⟩) ?_;refine zai (fun h=>⟨⟨h,trivial⟩,trivial⟩) ?_;refine zai (fun h=>trivial) ?_;refine zai (fun h=>trivial) ?_;refine zai (fun h=>⟨⟨⟨h,trivial⟩,⟨h,trivial⟩,trivial⟩,by first|omega|decide|(simp only [zds];omega)|(have h9:=of_decide_eq_true h;omega)|(simp [gq] at h;omega)⟩) ?_;refine zai (fun h=>⟨⟨h,trivial⟩,trivial⟩) ?_;refine zai (fun h=>⟨⟨h,trivial⟩,trivial⟩) ?_;refine zai (fun h=>⟨⟨h,trivial⟩,⟨h,trivial⟩,trivial⟩) ?_;refine zai (by first|(intro h;rw [h];rfl)|(intro h;cases h)) ?_;refine zai (fun h=>trivial) ?_;refine zai (fun h=>trivial) ?_;refine zai (fun h=>⟨⟨⟨h,trivial⟩,⟨h,trivial⟩,trivial⟩,by first|omega|decide|(simp only [zds];omega)|(have h9:=of_decide_eq_true h;omega)|(simp [gq] at h;omega)⟩) ?_;refine zai (fun h=>⟨⟨h,trivial⟩,trivial⟩) ?_;refine zai (fun h=>⟨⟨h,trivial⟩,trivial⟩) ?_;refine zai (fun h=>trivial) ?_;refine zai (fun h=>trivial) ?_;refine zai (fun h=>⟨⟨⟨h,trivial⟩,⟨h,trivial⟩,trivial⟩,by first|omega|decide|(simp only [zds];omega)|(have h9:=of_decide_eq_true h;omega)|(simp [gq] at h;omega)⟩) ?_;refine zai (fun h=>⟨⟨h,trivial⟩,trivial⟩) ?_;refine zai (fun h=>⟨⟨h,trivial⟩,trivial⟩) ?_;refine zai (rfl) ?_;refine zei _ (zai (fun h=>⟨⟨⟨h,trivial⟩,⟨h,trivial⟩,trivial⟩,fieldsk_c (κ:=κ') (a.getD i ((0 : Int),(0 : Int),([] : List Fld))).2.2 (b.getD i ((0 : Int),(0 : Int),([] : List Fld))).2.2⟩) ?_);refine zai (fun h=>⟨⟨h,trivial⟩,trivial⟩) ?_;refine zai (by first|(intro h;rw [h];rfl)|(intro h;cases h)) ?_;refine qK rfl (fun h53=>?_) (fun h53=>?_)
    ·try simp only [decide_eq_false_iff_not,Bool.not_eq_true',Bool.or_eq_true] at h53
     try simp only [Int.toNat_natCast,qI,qH,qE] at h53
     refine qC ?_;refine qB ?_;refine qL ?_;exact ib_eq (decide_eq_false (ne_at (i:=i) ((0 : Int),(0 : Int),([] : List Fld)) (fun e=>by rcases h53 with (h|h)|h;exact h (congrArg Prod.fst e);exact h (congrArg (fun p=>p.2.1) e);exact h (congrArg (fun p=>p.2.2) e)))).symm
    ·try simp only [decide_eq_true_eq,Bool.not_eq_false',Bool.or_eq_false_iff] at h53
     try simp only [Int.toNat_natCast,qI,qH,qE] at h53
     refine qM ?_;refine qB ?_;refine zai (by first|omega|assumption|decide|(simp only [zds];omega)|(simp <;> omega)) ?_;exact ⟨i + 1,⟨by omega,list_ext_take ((0 : Int),(0 : Int),([] : List Fld)) hla hlb ht (Prod.ext h53.1.1 (Prod.ext h53.1.2 h53.2))⟩,by first|omega|(simp <;> omega),qQ ⟨rfl,rfl,rfl,(qR (by omega))⟩ trivial rfl⟩
   ·try simp only [decide_eq_false_iff_not,Int.not_lt] at h14
    try simp only [zds] at h14
    refine qZ ?_;refine qC ?_;refine qB ?_;refine qL ?_;exact ib_eq (decide_eq_true (by rw [List.take_of_length_le (by omega),List.take_of_length_le (by omega)] at ht;exact ht)).symm
theorem oneRep_z {κ : Nat} (L L' : Lst) (id : Int) (f : List Fld) (h : qX Tryz.prog 83 [.one (.own 0 0),ii .i64 id,.one (.slk κ rFld f)] (lsO L) 2 (.one (.lit .nilIface)) (lsO L') 2) : qX Tryz.prog 52 [.one (.own 0 0),.agg (toL (rEdk κ) ((1 : Int),id,f))] (lsO L) 2 (.tup [(false,[.lit (.int .i64 0)]),(false,[.lit .nilIface])]) (lsO L') 2:=by
  refine qT (rs:=[4,5]) Tryz.func52 rfl rfl rfl teOk (by decide) rfl ?_;refine qC ?_;refine qB ?_;refine qC ?_;refine qC ?_;refine qB ?_;refine qO ?_;refine qC ?_;refine qB ?_;refine qK rfl (fun h8=>?_) (fun h8=>?_)
  ·try simp only [decide_eq_true_eq] at h8
   try simp only [zds] at h8
   refine qC ?_;refine qB ?_;refine Or.inr (Or.inl (zei [] (zei [0,1] (zei _ (zei _ (zei _ (zei _ (zei _ (zai (h) (zai rfl (zai (zai (zai rfl rfl) (zai (zai rfl rfl) True.intro)) (zai rfl ?_))))))))))));refine qL ?_;exact ⟨rfl,⟨rfl,rfl⟩,rfl⟩
  ·try simp only [decide_eq_false_iff_not] at h8
   try simp only [zds] at h8
   simp at h8
theorem oneDel_z {κ : Nat} (L L' : Lst) (id : Int) (f : List Fld) (h : qX Tryz.prog 84 [.one (.own 0 0),ii .i64 id] (lsO L) 2 (.one (.lit .nilIface)) (lsO L') 2) : qX Tryz.prog 52 [.one (.own 0 0),.agg (toL (rEdk κ) ((2 : Int),id,f))] (lsO L) 2 (.tup [(false,[.lit (.int .i64 0)]),(false,[.lit .nilIface])]) (lsO L') 2:=by
  refine qT (rs:=[4,5]) Tryz.func52 rfl rfl rfl teOk (by decide) rfl ?_;refine qC ?_;refine qB ?_;refine qC ?_;refine qC ?_;refine qB ?_;refine qO ?_;refine qC ?_;refine qB ?_;refine qK rfl (fun h8=>?_) (fun h8=>?_)
  ·try simp only [decide_eq_true_eq] at h8
   try simp only [zds] at h8
   simp at h8
  ·try simp only [decide_eq_false_iff_not] at h8
   try simp only [zds] at h8
   refine qC ?_;refine qB ?_;refine qK rfl (fun h16=>?_) (fun h16=>?_)
   ·try simp only [decide_eq_true_eq] at h16
    try simp only [zds] at h16
    refine qC ?_;refine qB ?_;refine Or.inr (Or.inl (zei [] (zei [0,1] (zei _ (zei _ (zei _ (zei _ (zei _ (zai (h) (zai rfl (zai (zai (zai rfl rfl) (zai (zai rfl rfl) True.intro)) (zai rfl ?_))))))))))));refine qL ?_;exact ⟨rfl,⟨rfl,rfl⟩,rfl⟩
   ·try simp only [decide_eq_false_iff_not] at h16
    try simp only [zds] at h16
    simp at h16
theorem oneIns_z {κ : Nat} (L L' : Lst) (k id m : Int) (f : List Fld) (h1 : k ≠ 1) (h2 : k ≠ 2) (h : qX Tryz.prog 85 [.one (.own 0 0),ii .i64 id,.one (.slk κ rFld f)] (lsO L) 2 (.tup [(false,[.lit (.int .i64 m)]),(false,[.lit .nilIface])]) (lsO L') 2) : qX Tryz.prog 52 [.one (.own 0 0),.agg (toL (rEdk κ) (k,id,f))] (lsO L) 2 (.tup [(false,[.lit (.int .i64 m)]),(false,[.lit .nilIface])]) (lsO L') 2:=by
  refine qT (rs:=[4,5]) Tryz.func52 rfl rfl rfl teOk (by decide) rfl ?_;refine qC ?_;refine qB ?_;refine qC ?_;refine qC ?_;refine qB ?_;refine qO ?_;refine qC ?_;refine qB ?_;refine qK rfl (fun h8=>?_) (fun h8=>?_)
  ·try simp only [decide_eq_true_eq] at h8
   try simp only [zds] at h8
   exact absurd h8 h1
  ·try simp only [decide_eq_false_iff_not] at h8
   try simp only [zds] at h8
   refine qC ?_;refine qB ?_;refine qK rfl (fun h16=>?_) (fun h16=>?_)
   ·try simp only [decide_eq_true_eq] at h16
    try simp only [zds] at h16
    exact absurd h16 h2
   ·try simp only [decide_eq_false_iff_not] at h16
    try simp only [zds] at h16
    refine qM ?_;refine qC ?_;refine qB ?_;refine Or.inr (Or.inl (zei [] (zei [0,1] (zei _ (zei _ (zei _ (zei _ (zei _ (zai (h) (zai rfl (zai (zai (zai rfl rfl) (zai (zai rfl rfl) True.intro)) (zai rfl ?_))))))))))));refine qL ?_;exact ⟨rfl,⟨rfl,rfl⟩,rfl⟩
theorem oneRep_n {κ : Nat} (L L' : Lst) (k9 : Int) (id : Int) (f : List Fld) (h : qX Tryz.prog 83 [.one (.own 0 0),ii .i64 id,.one (.slk κ rFld f)] (lsO L) 2 (.one (errN k9)) (lsO L') 2) : qX Tryz.prog 52 [.one (.own 0 0),.agg (toL (rEdk κ) ((1 : Int),id,f))] (lsO L) 2 (.tup [(false,[.lit (.int .i64 0)]),(false,[errN k9])]) (lsO L') 2:=by
  refine qT (rs:=[4,5]) Tryz.func52 rfl rfl rfl teOk (by decide) rfl ?_;refine qC ?_;refine qB ?_;refine qC ?_;refine qC ?_;refine qB ?_;refine qO ?_;refine qC ?_;refine qB ?_;refine qK rfl (fun h8=>?_) (fun h8=>?_)
  ·try simp only [decide_eq_true_eq] at h8
   try simp only [zds] at h8
   refine qC ?_;refine qB ?_;refine Or.inr (Or.inl (zei [] (zei [0,1] (zei _ (zei _ (zei _ (zei _ (zei _ (zai (h) (zai rfl (zai (zai (zai rfl rfl) (zai (zai rfl rfl) True.intro)) (zai rfl ?_))))))))))));refine qL ?_;exact ⟨rfl,⟨rfl,rfl⟩,rfl⟩
  ·try simp only [decide_eq_false_iff_not] at h8
   try simp only [zds] at h8
   simp at h8
theorem oneDel_n {κ : Nat} (L L' : Lst) (k9 : Int) (id : Int) (f : List Fld) (h : qX Tryz.prog 84 [.one (.own 0 0),ii .i64 id] (lsO L) 2 (.one (errN k9)) (lsO L') 2) : qX Tryz.prog 52 [.one (.own 0 0),.agg (toL (rEdk κ) ((2 : Int),id,f))] (lsO L) 2 (.tup [(false,[.lit (.int .i64 0)]),(false,[errN k9])]) (lsO L') 2:=by
  refine qT (rs:=[4,5]) Tryz.func52 rfl rfl rfl teOk (by decide) rfl ?_;refine qC ?_;refine qB ?_;refine qC ?_;refine qC ?_;refine qB ?_;refine qO ?_;refine qC ?_;refine qB ?_;refine qK rfl (fun h8=>?_) (fun h8=>?_)
  ·try simp only [decide_eq_true_eq] at h8
   try simp only [zds] at h8
   simp at h8
  ·try simp only [decide_eq_false_iff_not] at h8
   try simp only [zds] at h8
   refine qC ?_;refine qB ?_;refine qK rfl (fun h16=>?_) (fun h16=>?_)
   ·try simp only [decide_eq_true_eq] at h16
    try simp only [zds] at h16
    refine qC ?_;refine qB ?_;refine Or.inr (Or.inl (zei [] (zei [0,1] (zei _ (zei _ (zei _ (zei _ (zei _ (zai (h) (zai rfl (zai (zai (zai rfl rfl) (zai (zai rfl rfl) True.intro)) (zai rfl ?_))))))))))));refine qL ?_;exact ⟨rfl,⟨rfl,rfl⟩,rfl⟩
   ·try simp only [decide_eq_false_iff_not] at h16
    try simp only [zds] at h16
    simp at h16
theorem oneIns_n {κ : Nat} (L L' : Lst) (k9 : Int) (k id m : Int) (f : List Fld) (h1 : k ≠ 1) (h2 : k ≠ 2) (h : qX Tryz.prog 85 [.one (.own 0 0),ii .i64 id,.one (.slk κ rFld f)] (lsO L) 2 (.tup [(false,[.lit (.int .i64 m)]),(false,[errN k9])]) (lsO L') 2) : qX Tryz.prog 52 [.one (.own 0 0),.agg (toL (rEdk κ) (k,id,f))] (lsO L) 2 (.tup [(false,[.lit (.int .i64 m)]),(false,[errN k9])]) (lsO L') 2:=by
  refine qT (rs:=[4,5]) Tryz.func52 rfl rfl rfl teOk (by decide) rfl ?_;refine qC ?_;refine qB ?_;refine qC ?_;refine qC ?_;refine qB ?_;refine qO ?_;refine qC ?_;refine qB ?_;refine qK rfl (fun h8=>?_) (fun h8=>?_)
  ·try simp only [decide_eq_true_eq] at h8
   try simp only [zds] at h8
   exact absurd h8 h1
  ·try simp only [decide_eq_false_iff_not] at h8
   try simp only [zds] at h8
   refine qC ?_;refine qB ?_;refine qK rfl (fun h16=>?_) (fun h16=>?_)
   ·try simp only [decide_eq_true_eq] at h16
    try simp only [zds] at h16
    exact absurd h16 h2
   ·try simp only [decide_eq_false_iff_not] at h16
    try simp only [zds] at h16
    refine qM ?_;refine qC ?_;refine qB ?_;refine Or.inr (Or.inl (zei [] (zei [0,1] (zei _ (zei _ (zei _ (zei _ (zei _ (zai (h) (zai rfl (zai (zai (zai rfl rfl) (zai (zai rfl rfl) True.intro)) (zai rfl ?_))))))))))));refine qL ?_;exact ⟨rfl,⟨rfl,rfl⟩,rfl⟩
theorem oneRep_f {κ : Nat} (L L' : Lst) (a9 k9 : Int) (id : Int) (f : List Fld) (h : qX Tryz.prog 83 [.one (.own 0 0),ii .i64 id,.one (.slk κ rFld f)] (lsO L) 2 (.one (errF a9 k9)) (lsO L') 2) : qX Tryz.prog 52 [.one (.own 0 0),.agg (toL (rEdk κ) ((1 : Int),id,f))] (lsO L) 2 (.tup [(false,[.lit (.int .i64 0)]),(false,[errF a9 k9])]) (lsO L') 2:=by
  refine qT (rs:=[4,5]) Tryz.func52 rfl rfl rfl teOk (by decide) rfl ?_;refine qC ?_;refine qB ?_;refine qC ?_;refine qC ?_;refine qB ?_;refine qO ?_;refine qC ?_;refine qB ?_;refine qK rfl (fun h8=>?_) (fun h8=>?_)
  ·try simp only [decide_eq_true_eq] at h8
   try simp only [zds] at h8
   refine qC ?_;refine qB ?_;refine Or.inr (Or.inl (zei [] (zei [0,1] (zei _ (zei _ (zei _ (zei _ (zei _ (zai (h) (zai rfl (zai (zai (zai rfl rfl) (zai (zai rfl rfl) True.intro)) (zai rfl ?_))))))))))));refine qL ?_;exact ⟨rfl,⟨rfl,rfl⟩,rfl⟩
  ·try simp only [decide_eq_false_iff_not] at h8
   try simp only [zds] at h8
   simp at h8
theorem oneIns_f {κ : Nat} (L L' : Lst) (a9 k9 : Int) (k id m : Int) (f : List Fld) (h1 : k ≠ 1) (h2 : k ≠ 2) (h : qX Tryz.prog 85 [.one (.own 0 0),ii .i64 id,.one (.slk κ rFld f)] (lsO L) 2 (.tup [(false,[.lit (.int .i64 m)]),(false,[errF a9 k9])]) (lsO L') 2) : qX Tryz.prog 52 [.one (.own 0 0),.agg (toL (rEdk κ) (k,id,f))] (lsO L) 2 (.tup [(false,[.lit (.int .i64 m)]),(false,[errF a9 k9])]) (lsO L') 2:=by
  refine qT (rs:=[4,5]) Tryz.func52 rfl rfl rfl teOk (by decide) rfl ?_;refine qC ?_;refine qB ?_;refine qC ?_;refine qC ?_;refine qB ?_;refine qO ?_;refine qC ?_;refine qB ?_;refine qK rfl (fun h8=>?_) (fun h8=>?_)
  ·try simp only [decide_eq_true_eq] at h8
   try simp only [zds] at h8
   exact absurd h8 h1
  ·try simp only [decide_eq_false_iff_not] at h8
   try simp only [zds] at h8
   refine qC ?_;refine qB ?_;refine qK rfl (fun h16=>?_) (fun h16=>?_)
   ·try simp only [decide_eq_true_eq] at h16
    try simp only [zds] at h16
    exact absurd h16 h2
   ·try simp only [decide_eq_false_iff_not] at h16
    try simp only [zds] at h16
    refine qM ?_;refine qC ?_;refine qB ?_;refine Or.inr (Or.inl (zei [] (zei [0,1] (zei _ (zei _ (zei _ (zei _ (zei _ (zai (h) (zai rfl (zai (zai (zai rfl rfl) (zai (zai rfl rfl) True.intro)) (zai rfl ?_))))))))))));refine qL ?_;exact ⟨rfl,⟨rfl,rfl⟩,rfl⟩
theorem one_cases {κ c : Nat} {L : Lst} (h : LOk c L) (hc : c ≤ 200000) (e : Edt) (hf : yJ e.2.2) :
    (oneN L e = 0 ∧ qX Tryz.prog 52 [.one (.own 0 0),.agg (toL (rEdk κ) e)] (lsO L) 2 (.tup [(false,[.lit (.int .i64 (newN L e))]),(false,[.lit .nilIface])]) (lsO (doL L e)) 2) ∨
    (∃ k9,k9 ≠ 0 ∧ oneN L e = k9 ∧ qX Tryz.prog 52 [.one (.own 0 0),.agg (toL (rEdk κ) e)] (lsO L) 2 (.tup [(false,[.lit (.int .i64 0)]),(false,[errN k9])]) (lsO L) 2) ∨
    (∃ a9 k9,k9 ≠ 0 ∧ oneN L e = k9 ∧ qX Tryz.prog 52 [.one (.own 0 0),.agg (toL (rEdk κ) e)] (lsO L) 2 (.tup [(false,[.lit (.int .i64 0)]),(false,[errF a9 k9])]) (lsO L) 2):=by
  obtain ⟨es,n,m⟩:=L;obtain ⟨k,id,f⟩:=e;have hmany:=h.many;have hnx:=h.next;have hln:=h.len;have hids:=ids_len es;have hil:=List.length_filter_le live es;simp only at hmany hnx hln hf;unfold newN oneN doL;simp only
  by_cases h1 : k = 1
  · subst h1;simp only [if_pos,true_or]
    by_cases h0 : atE es id < 0
    · simp only [if_pos h0];exact .inr (.inl ⟨7,by decide,rfl,oneRep_n _ _ 7 id f (lRep_no es n m id f h0)⟩)
    · simp only [if_neg h0]
      by_cases hck : (chkR f).2 ≠ 0
      · have hb:=lRep_bad (κ:=κ) es n m id f (by omega) hf hck;rcases chk_shape hck with ⟨k9,g1,g2,g3,g4⟩|⟨a9,k9,g1,g2,g3,g4⟩
        · rw [g1] at hb;exact .inr (.inl ⟨k9,g2,g4.symm,oneRep_n _ _ k9 id f hb⟩)
        · rw [g1] at hb;exact .inr (.inr ⟨a9,k9,g2,g4.symm,oneRep_f _ _ a9 k9 id f hb⟩)
      · have hck' : (chkR f).2 = 0:=Classical.not_not.1 hck;simp only [if_neg hck];obtain ⟨i,hi,he,_,_⟩:=at_lt h0;rw [he,Int.toNat_natCast];exact .inl ⟨hck',oneRep_z _ _ id f (lRep_ok es n m id f i hi he hf hck')⟩
  · by_cases h2 : k = 2
    · subst h2;simp only [if_neg (show ¬ (2 : Int) = 1 by decide),if_pos,or_true]
      by_cases h0 : atE es id < 0
      · simp only [if_pos h0];exact .inr (.inl ⟨7,by decide,rfl,oneDel_n _ _ 7 id f (lDel_no es n m id h0)⟩)
      · simp only [if_neg h0];obtain ⟨i,hi,he,_,_⟩:=at_lt h0;rw [he,Int.toNat_natCast];exact .inl ⟨trivial,oneDel_z _ _ id f (lDel_ok es n m id i hi he (by omega) (by omega))⟩
    · simp only [if_neg h1,if_neg h2,if_neg (show ¬ (k = 1 ∨ k = 2) from fun h=>h.elim h1 h2)]
      by_cases h0 : atE es id < 0 ∧ id ≠ 0
      · simp only [if_pos h0];exact .inr (.inl ⟨7,by decide,rfl,oneIns_n _ _ 7 k id 0 f h1 h2 (lIns_no es n m id f h0.1 h0.2)⟩)
      · simp only [if_neg h0]
        by_cases hck : (chkR f).2 ≠ 0
        · have hb:=lIns_bad (κ:=κ) es n m id f h0 hf hck;simp only [if_pos hck];rcases chk_shape hck with ⟨k9,g1,g2,g3,g4⟩|⟨a9,k9,g1,g2,g3,g4⟩
          · rw [g1] at hb;exact .inr (.inl ⟨k9,g2,g4.symm,oneIns_n _ _ k9 k id 0 f h1 h2 hb⟩)
          · rw [g1] at hb;exact .inr (.inr ⟨a9,k9,g2,g4.symm,oneIns_f _ _ a9 k9 k id 0 f h1 h2 hb⟩)
        · have hck' : (chkR f).2 = 0:=Classical.not_not.1 hck;simp only [if_neg hck]
          by_cases h4 : 400 ≤ m
          · simp only [if_pos h4];exact .inr (.inl ⟨11,by decide,rfl,oneIns_n _ _ 11 k id 0 f h1 h2 (lIns_full es n m id f h0 hf hck' h4)⟩)
          · simp only [if_neg h4];obtain ⟨j,hj,hje⟩ : ∃ j : Nat,j ≤ es.length ∧ atE es id + 1 = (j : Int):=by
              rcases at_cases es id with ⟨h1,_⟩|⟨i,h1,h2,_⟩
              · exact ⟨0,Nat.zero_le _,by omega⟩
              · exact ⟨i + 1,by omega,by omega⟩
            rw [hje,Int.toNat_natCast];exact .inl ⟨trivial,oneIns_z _ _ k id n f h1 h2 (lIns_ok es n m id f j hj h0 hje hf hck' (by omega) (by omega) (by omega))⟩
theorem lsbox0_eq {L M : Lst} (h : M = L) : some (Ob.box 116 [.vec 0,.lit (.int .i64 L.2.1),.lit (.int .i64 L.2.2)]) = some (Ob.box 116 [.vec 0,.lit (.int .i64 M.2.1),.lit (.int .i64 M.2.2)]):=by rw [h]
theorem took {c : Nat} {L : Lst} {s : List Edt} (h : LOk c L) (hf : ∀ e ∈ s,yJ e.2.2) {i : Nat} (hi : i < s.length) : LOk (c + i) (plays L s i) ∧ yJ (s.getD i ((0 : Int),(0 : Int),([] : List Fld))).2.2:=⟨plays_ok h hf i (by omega),hf _ (yT hi ((0 : Int),(0 : Int),([] : List Fld)))⟩
theorem doOk_o {κ κ' k c : Nat} (L : Lst) (s : List Edt) (hL : LOk c L) (hc : c + s.length ≤ 200000) (hf : ∀ e ∈ s,yJ e.2.2) (h : (chkB s).2 = 0) (ht : ∀ j,j < s.length → oneN (plays L s j) (s.getD j ((0 : Int),(0 : Int),([] : List Fld))) = 0) :
    qX Tryz.prog 13 [.one (.adk k (rLst k) L),.one (.slk κ (rEdk κ') s)] [] 0 (.tup [(false,[.own 1 0]),(false,[.sl (.int .i64) (idsT L s s.length)]),(false,[.lit .nilIface])]) [(1,.box 116 [.vec 0,.lit (.int .i64 (plays L s s.length).2.1),.lit (.int .i64 (plays L s s.length).2.2)]),(0,.vec 111 rEnt (plays L s s.length).1)] 2:=by
  obtain ⟨hln,hgd⟩:=chkB_zero h;have hk:=check_c9 (κ:=κ) (κ':=κ') s hf (by omega);rw [chkB_good h,erB_z] at hk;have hlen:=hL.len;have hcp:=copyL_o (k:=k) L.1 L.2.1 L.2.2 (by omega);refine qT (rs:=[4,5,6]) Tryz.func13 rfl rfl rfl teOk (by decide) rfl ?_;refine qC ?_;refine qB ?_;refine qC ?_;refine qC ?_;refine qB ?_;refine Or.inl ?_;refine zai (rfl) ?_;refine zei _ (zai (hk) ?_);refine qC ?_;refine qB ?_;refine qK rfl (fun h17=>?_) (fun h17=>?_)
  ·try simp only [Bool.not_eq_true'] at h17
   try simp only [zds] at h17
   cases h17
  ·try simp only [Bool.not_eq_false'] at h17
   try simp only [zds] at h17
   refine qM ?_;refine qC ?_;refine qB ?_;refine Or.inr (Or.inl (zei [] (zei [] (zei _ (zei _ (zei _ (zei _ (zei _ (zai (hcp) (zai rfl (zai True.intro (zai rfl ?_))))))))))));refine qC ?_;refine qB ?_;refine qC ?_;refine qC ?_;refine yZ 9 3 (.int .i64) rfl ?_;refine qB ?_;intro l6_1
   try simp only [zds] at l6_1
   refine qO ?_;refine qV (fun (i : Nat)=>i ≤ s.length) (fun (i : Nat)=>[(8,.one (.own 1 0)),(9,.one (.vec 2)),(21,.one (.slk κ (rEdk κ') s)),(22,ii .i64 s.length),(23,ii .i64 i)]) (fun (i : Nat)=>[(0,.vec 111 rEnt (plays L s i).1),(1,.box 116 [.vec 0,.lit (.int .i64 (plays L s i).2.1),.lit (.int .i64 (plays L s i).2.2)]),(2,.vec 3 (.int .i64) (idsT L s i))]) 3 (fun (i : Nat)=>s.length - i) 0 (Nat.zero_le _) (qQ ⟨rfl,rfl,rfl,rfl,rfl⟩ ⟨rfl,rfl,rfl⟩ rfl) ?_;intro i hI0;refine qC ?_;refine qB ?_;refine qC ?_;refine qK rfl (fun h24=>?_) (fun h24=>?_)
   ·try simp only [decide_eq_true_eq] at h24
    try simp only [zds] at h24
    have hil : i < s.length:=(by omega);obtain ⟨hLi,hfe⟩:=took hL hf hil;have hsn:=plays_snoc L hil;have hin:=idsT_snoc L s i;have hilen:=idsT_len L s i;refine qM ?_;refine qC ?_;refine qO ?_;refine qC ?_;refine qB ?_;refine zai (by first|omega|assumption|decide|(simp only [zds];omega)|(simp <;> omega)) ?_;refine qC ?_;rcases one_cases (κ:=κ') hLi (by omega) (s.getD i ((0 : Int),(0 : Int),([] : List Fld))) hfe with ⟨hz,ho⟩|⟨n,hn,hz,ho⟩|⟨a,n,hn,hz,ho⟩
    ·refine qB ?_;refine Or.inr (Or.inl (zei [] (zei [1,0] (zei _ (zei _ (zei _ (zei _ (zei _ (zai (ho) (zai rfl (zai (zai (zai rfl rfl) (zai (zai rfl rfl) True.intro)) (zai rfl ?_))))))))))));refine qC ?_;refine qC ?_;refine qB ?_;refine qK rfl (fun h35=>?_) (fun h35=>?_)
     ·try simp only [Bool.not_eq_true'] at h35
      try simp only [zds] at h35
      cases h35
     ·try simp only [Bool.not_eq_false'] at h35
      try simp only [zds] at h35
      refine qM ?_;refine qC ?_;refine qB ?_;refine qK rfl (fun h40=>?_) (fun h40=>?_)
      ·try simp only [decide_eq_true_eq] at h40
       try simp only [zds] at h40
       refine qB ?_;refine zai (by first|exact qP (by first|omega|(simp only [List.length_cons,List.length_nil];omega)|(simp;omega)) (by decide)|omega|assumption|decide|(simp only [zds];omega)|(simp <;> omega)) ?_;refine qB ?_;refine zai (by first|omega|assumption|decide|(simp only [zds];omega)|(simp <;> omega)) ?_;exact ⟨i + 1,by omega,by first|omega|(simp <;> omega),qQ ⟨rfl,rfl,rfl,rfl,(qR (by omega))⟩ ⟨(lsvec_eq hsn),(lsbox0_eq hsn),(qS (by rw [hin,if_pos (by omega)];try exact rfl))⟩ rfl⟩
      ·try simp only [decide_eq_false_iff_not,Int.not_lt] at h40
       try simp only [zds] at h40
       refine qM ?_;refine qB ?_;refine zai (by first|omega|assumption|decide|(simp only [zds];omega)|(simp <;> omega)) ?_;exact ⟨i + 1,by omega,by first|omega|(simp <;> omega),qQ ⟨rfl,rfl,rfl,rfl,(qR (by omega))⟩ ⟨(lsvec_eq hsn),(lsbox0_eq hsn),(qS (by rw [hin,if_neg (by omega),List.append_nil]))⟩ rfl⟩
    ·refine qB ?_;refine Or.inr (Or.inl (zei [] (zei [1,0] (zei _ (zei _ (zei _ (zei _ (zei _ (zai (ho) (zai rfl (zai (zai (zai rfl rfl) (zai (zai rfl rfl) True.intro)) (zai rfl ?_))))))))))));refine qC ?_;refine qC ?_;refine qB ?_;refine qK rfl (fun h35=>?_) (fun h35=>?_)
     ·skip
      exact absurd ((ht i hil).symm.trans hz) (by omega)
     ·try simp only [zbq] at h35
      try simp only [zds] at h35
      simp at h35
    ·refine qB ?_;refine Or.inr (Or.inl (zei [] (zei [1,0] (zei _ (zei _ (zei _ (zei _ (zei _ (zai (ho) (zai rfl (zai (zai (zai rfl rfl) (zai (zai rfl rfl) True.intro)) (zai rfl ?_))))))))))));refine qC ?_;refine qC ?_;refine qB ?_;refine qK rfl (fun h35=>?_) (fun h35=>?_)
     ·skip
      exact absurd ((ht i hil).symm.trans hz) (by omega)
     ·try simp only [zbq] at h35
      try simp only [zds] at h35
      simp at h35
   ·try simp only [decide_eq_false_iff_not,Int.not_lt] at h24
    try simp only [zds] at h24
    refine qZ ?_;refine qC ?_;refine qB ?_;refine yG [2] ?_;refine qL ?_;rw [show i = s.length by omega];exact ⟨rfl,⟨rfl,rfl⟩,rfl⟩
def unkR (l : List (List Fld)) : List (List (Unit × Unit)):=l.map fun r=>r.map fun _=>((),())
def plainI (x : Itm) : Bool:=decide ((chkR x.2.2).2 = 0) && decide (x.1 = 3) && decide (bytes (foldL x.2.2) = x.2.1)
abbrev rItmU : Rd (Int × ByteArray × List (Unit × Unit)):=.st (.int .i64) (.st .str (.slk 7 rUnk2))
def unkI (l : List Itm) : List (Int × ByteArray × List (Unit × Unit)):=l.map fun x=>(x.1,x.2.1,x.2.2.map fun _=>((),()))
abbrev rStzU : Rd (Int × List (Unit × Unit)):=.st (.int .i64) (.slk 7 rUnk2)
def unkS (l : List Stz) : List (Int × List (Unit × Unit)):=l.map fun x=>(x.1,x.2.map fun _=>((),()))
def BlankI (x : Itm) : Prop:=∃ t : ByteArray,x = (1,t ++ ⟨#[10]⟩,[]) ∧ yB (ls t) = 1 ∧ (10 : UInt8) ∉ ls t
def Good1 (x : Itm) : Prop:=BlankI x ∨ (x.1 ≠ 1 ∧ Blk x)
def BIP (p : PSt) : Prop:=(∀ x ∈ p.its,x.1 = 1 → BlankI x) ∧ p.recs = (cntR p.its : Int)
theorem isRec1 (t : ByteArray) : isRec (1,t,[]) = false:=by unfold isRec;simp
theorem close_bi {p : PSt} (h : BIP p) : BIP (xS p):=by
  unfold xS;split
  · exact h
  · by_cases hf : p.flds = []
    · simp only [if_pos hf];refine ⟨fun x hx hx1=>?_,?_⟩
      · rcases List.mem_append.1 hx with hx|hx
        · exact h.1 x hx hx1
        · rw [List.mem_singleton.1 hx] at hx1;cases hx1
      · simp only [cntR_app];rw [h.2];simp [cntR,isRec]
    · simp only [if_neg hf];refine ⟨fun x hx hx1=>?_,?_⟩
      · rcases List.mem_append.1 hx with hx|hx
        · exact h.1 x hx hx1
        · rw [List.mem_singleton.1 hx] at hx1;cases hx1
      · simp only [cntR_app];rw [h.2];simp [cntR,isRec]
theorem flush_bi {p q : PSt} (h : BIP p) (hf : yP p = .inr q) : BIP q:=by
  unfold BIP;rw [(flush_same hf).1,flush_recs hf];exact h
theorem end_bi {p q : PSt} (h : BIP p) (hf : endS p = .inr q) : BIP q:=by
  unfold endS at hf;cases e : yP p with
  | inl x=>rw [e] at hf;cases hf
  | inr r=>rw [e] at hf;cases hf;exact close_bi (flush_bi h e)
theorem take_bi {p q : PSt} {l : Lne} (h : BIP p) (hf : yS p l = .inr q) (hn : (10 : UInt8) ∉ ls l.2.2.1) : BIP q:=by
  unfold yS at hf;cases e : yR p l (yB (ls l.2.2.1)) with
  | inl x=>rw [e] at hf;cases hf
  | inr r =>
    rw [e] at hf;have hr : BIP r:=by
      unfold yR at e;split at e
      · split at e
        · cases e
        · split at e
          · cases e;exact h
          · exact flush_bi (p:={ p with lns:=p.lns ++ [l.2.2.1] }) h e
      · split at e
        · exact end_bi h e
        · exact flush_bi h e
    simp only at hf;unfold lineS at hf;split at hf
    · cases hf
    · split at hf
      · rename_i hk;cases hf;refine ⟨fun x hx hx1=>?_,?_⟩
        · rcases List.mem_append.1 hx with hx|hx
          · exact hr.1 x hx hx1
          · exact ⟨l.2.2.1,List.mem_singleton.1 hx,hk,hn⟩
        · simp only [cntR_app];rw [hr.2];simp [cntR,isRec1]
      · split at hf
        · cases hf;exact hr
        · cases hf;exact hr
theorem run_bi : ∀ (L : List Lne) (p q : PSt),BIP p → runS p L = .inr q → (∀ l ∈ L,(10 : UInt8) ∉ ls l.2.2.1) → BIP q
  | [],p,q,hp,h,_=>by cases h;exact hp
  | l :: r,p,q,hp,h,hn=>by
    simp only [runS] at h;cases e : yS p l with
    | inl x=>rw [e] at h;cases h
    | inr p1 =>
      rw [e] at h;exact run_bi r p1 q (take_bi hp e (hn l List.mem_cons_self)) h (fun x hx=>hn x (List.mem_cons_of_mem _ hx))
theorem parse_good {s : ByteArray} {l : List Itm} (hp : xG s = .inr l) : (∀ x ∈ l,Good1 x) ∧ cntR l ≤ 400:=by
  have hb:=parse_blks hp;unfold xG at hp;cases e : runS pst0 (yC s) with
  | inl x=>rw [e] at hp;cases hp
  | inr p =>
    rw [e] at hp;simp only at hp;cases e2 : endS p with
    | inl x=>rw [e2] at hp;cases hp
    | inr q =>
      rw [e2] at hp;cases hp;have hno : ∀ l ∈ yC s,(10 : UInt8) ∉ ls l.2.2.1:=fun l hl=>by
        have h1 : l.2.2 ∈ (yC s).map (·.2.2):=List.mem_map_of_mem hl;rw [lines_text] at h1;exact linesB_no _ _ _ h1
      have h1 : BIP q:=end_bi (run_bi _ _ _ ⟨(fun _ h=>by cases h),rfl⟩ e hno) e2;have h2:=(end_par (run_par _ _ _ ⟨[],0,[],pst0,rel_0,rfl,rfl,rfl,(fun _ h=>by cases h),(fun _ h=>by cases h)⟩ e hno) e2).2.2.2;refine ⟨fun x hx=>?_,by have:=h1.2;omega⟩
      by_cases hx1 : x.1 = 1
      · exact .inl (h1.1 x hx hx1)
      · exact .inr ⟨hx1,hb x hx hx1⟩
def HF (p : PSt) : Prop:=p.lns ≠ [] ∨ p.flds ≠ []
structure LGd (B : Nat) (L : Lst) : Prop where
  good : ∀ e ∈ L.1,Good1 e.1 ∧ isRec e.1 = live e
  m4 : L.2.2 ≤ 400
  sz : szI (itmL L.1) ≤ B
theorem num_good : ∀ (l : List Itm) (n : Int),1 ≤ n → (∀ x ∈ l,Good1 x) → ∀ e ∈ numI n l,Good1 e.1 ∧ isRec e.1 = live e
  | [],_,_,_,e,he=>by cases he
  | x :: r,n,hn,hg,e,he=>by
    unfold numI at he;split at he
    · rename_i hr;rcases List.mem_cons.1 he with rfl|he
      · refine ⟨hg x List.mem_cons_self,?_⟩;rw [hr];unfold live;rw [decide_eq_true (by simp only;omega)]
      · exact num_good r (n + 1) (by omega) (fun y hy=>hg y (List.mem_cons_of_mem _ hy)) e he
    · rename_i hr;rcases List.mem_cons.1 he with rfl|he
      · refine ⟨hg x List.mem_cons_self,?_⟩;rw [hr];rfl
      · exact num_good r n hn (fun y hy=>hg y (List.mem_cons_of_mem _ hy)) e he
theorem ofT_gd {s : ByteArray} {l : List Itm} (hp : xG s = .inr l) : LGd s.size (ofT l):=by
  obtain ⟨h1,h2⟩:=parse_good hp;refine ⟨num_good l 1 (Int.le_refl _) h1,by show (cntR l : Int) ≤ 400;omega,?_⟩;show szI (itmL (numI 1 l)) ≤ _;unfold itmL;rw [numI_items];have h3:=raws_text hp;rw [← raws_sz,← h3,yL];exact Nat.le_refl _
abbrev zRL9 : List C:=[.lit (.slice none 0 0),.lit (.int .i64 0)]
abbrev lsO12 (L : Lst) : Obs:=[(1,.box 116 [.vec 2,.lit (.int .i64 L.2.1),.lit (.int .i64 L.2.2)]),(2,.vec 111 rEnt L.1)]
def alS : List Edt:=[(2,1,[]),(1,1,[(⟨#[65]⟩,ByteArray.empty)])]
def clear (next : Int) (a b : List Edt) : Prop:=∀ x ∈ b,x.2.1 < next → clsh a x = false
def whole (next : Int) (a b : List Edt) : Prop:=∀ x ∈ b,¬ (x.2.1 < next ∧ x.1 = 2 ∧ delA a x.2.1 = true)
def fullAt (Y : Lst) (s : List Edt) : Prop:=∃ q,q < s.length ∧ oneN (plays Y s q) (s.getD q ((0 : Int),(0 : Int),([] : List Fld))) = 11 ∧ (∀ j,j < q → oneN (plays Y s j) (s.getD j ((0 : Int),(0 : Int),([] : List Fld))) = 0) ∧ 400 ≤ (plays Y s q).2.2
theorem full_cons {Y : Lst} {y : Edt} {s : List Edt} (h0 : oneN Y y = 0) (h : fullAt (doL Y y) s) : fullAt Y (y :: s):=by
  obtain ⟨q,h1,h2,h3,h4⟩:=h;refine ⟨q + 1,by simpa using h1,h2,fun j hj=>?_,h4⟩;cases j with
  | zero=>exact h0
  | succ j=>exact h3 j (by omega)
def apartB (next : Int) (a b : List Edt) : Prop:=(∀ x ∈ b,x.2.1 < next → (x.1 ≠ 3 → tchA a x.2.1 = false) ∧ delA a x.2.1 = false) ∧ ∀ x ∈ a,x.2.1 < next → delA b x.2.1 = false
theorem many_st {L : Lst} {e : Edt} : (doL L e).2.2 ≤ L.2.2 + 1:=by
  unfold doL;split
  · split
    · omega
    · split
      · omega
      · show L.2.2 ≤ _;omega
  · split
    · split
      · omega
      · show L.2.2 - 1 ≤ _;omega
    · split
      · omega
      · split
        · omega
        · split
          · omega
          · show L.2.2 + 1 ≤ _;omega
theorem many_pl (L : Lst) (s : List Edt) : ∀ i,i ≤ s.length → (plays L s i).2.2 ≤ L.2.2 + i
  | 0,_=>by show L.2.2 ≤ _;omega
  | i + 1,hi=>by
    have h:=many_pl L s i (by omega);rw [plays_snoc L (by omega)];have:=many_st (L:=plays L s i) (e:=s.getD i ((0 : Int),(0 : Int),([] : List Fld)));omega
theorem not_full {L : Lst} {s : List Edt} (h : L.2.2 + (s.length : Int) ≤ 400) : ¬ fullAt L s:=fun ⟨q,h1,_,_,h4⟩=>by
  have:=many_pl L s q (by omega);omega
def edW : List Int → List Stz → List (List Fld) → Int → Int → List Edt
  | [],_,_,_,_=>[]
  | s :: w,o,r,b,n =>
    if s = 1 then edW w o.tail r.tail (o.headD ((0 : Int),([] : List Fld))).1 n
    else if s = 2 then (1,(o.headD ((0 : Int),([] : List Fld))).1,r.headD []) :: edW w o.tail r.tail (o.headD ((0 : Int),([] : List Fld))).1 n
    else if s = 3 then (2,(o.headD ((0 : Int),([] : List Fld))).1,[]) :: edW w o.tail r b n
    else (3,b,r.headD []) :: edW w o r.tail n (n + 1)
theorem edW_len : ∀ (w : List Int) (o : List Stz) (r : List (List Fld)) (b n : Int),(edW w o r b n).length = Dif.cnt w
  | [],_,_,_,_=>rfl
  | s :: w,o,r,b,n=>by
    unfold edW;have hc : Dif.cnt (s :: w) = if s = 1 then Dif.cnt w else Dif.cnt w + 1:=by
      unfold Dif.cnt;rw [List.filter_cons]
      by_cases h : s = 1
      · rw [if_pos h,if_neg (by simpa using h)]
      · rw [if_neg h,if_pos (by simpa using h),List.length_cons]
    rw [hc];split
    · exact edW_len w _ _ _ _
    · split
      · rw [List.length_cons,edW_len w]
      · split <;> rw [List.length_cons,edW_len w]
theorem edW_good : ∀ (w : List Int) (o : List Stz) (r : List (List Fld)) (b n : Int),Dif.Al w (o.map (·.2)) r → (∀ f ∈ r,yJ f ∧ (chkR f).2 = 0) → ∀ e ∈ edW w o r b n,goodN e = 0 ∧ yJ e.2.2
  | [],_,_,_,_,_,_,e,he=>by cases he
  | s :: w,o,r,b,n,h,hr,e,he=>by
    unfold edW at he;rcases h with ⟨rfl,x,us,vs,hx,rfl,h⟩|⟨rfl,x,y,us,vs,hx,rfl,h⟩|⟨rfl,x,us,hx,h⟩|⟨rfl,y,vs,rfl,h⟩
    · obtain ⟨a,o',rfl,_,rfl⟩:=List.map_eq_cons_iff.1 hx;rw [if_pos rfl] at he;exact edW_good w o' vs _ _ h (fun f hf=>hr f (List.mem_cons_of_mem _ hf)) e he
    · obtain ⟨a,o',rfl,_,rfl⟩:=List.map_eq_cons_iff.1 hx;rw [if_neg (by decide),if_pos rfl] at he;rcases List.mem_cons.1 he with rfl|he
      · obtain ⟨h1,h2⟩:=hr y List.mem_cons_self;refine ⟨?_,h1⟩;unfold goodN;rw [if_neg (show ¬ (1 : Int) = 2 by decide),if_pos (.inl rfl)];exact h2
      · exact edW_good w o' vs _ _ h (fun f hf=>hr f (List.mem_cons_of_mem _ hf)) e he
    · obtain ⟨a,o',rfl,_,rfl⟩:=List.map_eq_cons_iff.1 hx;rw [if_neg (by decide),if_neg (by decide),if_pos rfl] at he;rcases List.mem_cons.1 he with rfl|he
      · exact ⟨rfl,Nat.zero_le _,fun f hf=>by cases hf⟩
      · exact edW_good w o' r _ _ h hr e he
    · rw [if_neg (by decide),if_neg (by decide),if_neg (by decide)] at he;rcases List.mem_cons.1 he with rfl|he
      · obtain ⟨h1,h2⟩:=hr y List.mem_cons_self;refine ⟨?_,h1⟩;unfold goodN;rw [if_neg (show ¬ (3 : Int) = 2 by decide),if_pos (.inr rfl)];exact h2
      · exact edW_good w o vs _ _ h (fun f hf=>hr f (List.mem_cons_of_mem _ hf)) e he
theorem uniq : ∀ {A A' B B' : List Stz} {x x' : Stz},A ++ x :: B = A' ++ x' :: B' → x.1 = x'.1 → ((A ++ x :: B).map (·.1)).Nodup → A = A' ∧ x = x' ∧ B = B'
  | [],[],B,B',x,x',h,_,_=>⟨rfl,(List.cons.inj h).1,(List.cons.inj h).2⟩
  | [],a :: A',B,B',x,x',h,hx,hn=>by
    obtain ⟨_,h2⟩:=List.cons.inj h;rw [List.nil_append,List.map_cons] at hn;refine absurd ?_ (List.nodup_cons.1 hn).1;rw [h2,hx];exact List.mem_map_of_mem (List.mem_append_right _ List.mem_cons_self)
  | a :: A,[],B,B',x,x',h,hx,hn=>by
    obtain ⟨h1,h2⟩:=List.cons.inj h;rw [List.cons_append,List.map_cons] at hn;refine absurd ?_ (List.nodup_cons.1 hn).1;rw [show a = x' from h1,← hx];exact List.mem_map_of_mem (List.mem_append_right _ List.mem_cons_self)
  | a :: A,a' :: A',B,B',x,x',h,hx,hn=>by
    obtain ⟨h1,h2⟩:=List.cons.inj h;rw [List.cons_append,List.map_cons] at hn;obtain ⟨g1,g2,g3⟩:=uniq h2 hx (List.nodup_cons.1 hn).2;exact ⟨by rw [h1,g1],g2,g3⟩
theorem stz_nd {c : Nat} {L : Lst} (h : LOk c L) : ((stzL L.1).map (·.1)).Nodup:=by
  have e : (stzL L.1).map (·.1) = nmsL L.1:=by
    rw [← ids_eq];unfold stzL;rw [List.map_map];rfl
  rw [e];exact h.nd
theorem stz_split {c : Nat} {L : Lst} (h : LOk c L) {A B : List Stz} {id : Int} {g : List Fld} (hs : stzL L.1 = A ++ (id,g) :: B) : ∃ i : Nat,i < L.1.length ∧ ¬ atE L.1 id < 0 ∧ atE L.1 id = i ∧ 0 < id ∧ (L.1.getD i (((0 : Int),ByteArray.empty,([] : List Fld)),(0 : Int))).2 = id ∧ stzL (L.1.take i) = A ∧ stzL (L.1.drop (i + 1)) = B ∧ stzOf (L.1.getD i (((0 : Int),ByteArray.empty,([] : List Fld)),(0 : Int))) = (id,g):=by
  have hg : getF L id = some g:=(getF_iff h id g).2 (by rw [hs];exact List.mem_append_right _ List.mem_cons_self);have hn : ¬ atE L.1 id < 0:=(getF_pos h (by rw [hg];exact fun e=>by cases e)).2.2;obtain ⟨i,hi,he,hp,hid⟩:=at_lt hn;have hst : stzL L.1 = stzL (L.1.take i) ++ stzOf (L.1.getD i (((0 : Int),ByteArray.empty,([] : List Fld)),(0 : Int))) :: stzL (L.1.drop (i + 1)):=by
    conv=>lhs;rw [del_split hi,stz_app,stz_cons,if_pos (show live (L.1.getD i (((0 : Int),ByteArray.empty,([] : List Fld)),(0 : Int))) = true from decide_eq_true (by rw [hid];exact hp))]
  have hnd:=stz_nd h;rw [hst] at hnd;obtain ⟨g1,g2,g3⟩:=uniq (hst.symm.trans hs) hid hnd;exact ⟨i,hi,hn,he,hp,hid,g1,g3,g2⟩
theorem ord_rep {c : Nat} {L : Lst} (h : LOk c L) {A B : List Stz} {id : Int} {g f : List Fld} (hs : stzL L.1 = A ++ (id,g) :: B) (hc : (chkR f).2 = 0) :
    oneN L (1,id,f) = 0 ∧ stzL (doL L (1,id,f)).1 = A ++ (id,f) :: B ∧ (doL L (1,id,f)).2.1 = L.2.1:=by
  obtain ⟨i,hi,hn,he,hp,hid,hA,hB,_⟩:=stz_split h hs;have hd : doL L (1,id,f) = (replE L.1 i (itmOf f),L.2):=by
    unfold doL;rw [if_pos rfl,if_neg hn,if_neg (fun h=>h hc),he,Int.toNat_natCast]
  refine ⟨one_rep0 rfl hn hc,?_,by rw [hd]⟩;rw [hd];show stzL (replE L.1 i (itmOf f)) = _;unfold replE;rw [List.set_eq_take_append_cons_drop,if_pos hi,hid,stz_app,stz_cons,if_pos (show live (itmOf f,id) = true from decide_eq_true hp),hA,hB];rfl
theorem ord_del {c : Nat} {L : Lst} (h : LOk c L) {A B : List Stz} {id : Int} {g : List Fld} (hs : stzL L.1 = A ++ (id,g) :: B) :
    oneN L (2,id,[]) = 0 ∧ stzL (doL L (2,id,[])).1 = A ++ B ∧ (doL L (2,id,[])).2.1 = L.2.1:=by
  obtain ⟨i,hi,hn,he,hp,hid,hA,hB,_⟩:=stz_split h hs;have hd : doL L (2,id,[]) = (delE L.1 i,L.2.1,L.2.2 - 1):=by
    unfold doL;rw [if_neg (show ¬ (2 : Int) = 1 by decide),if_pos rfl,if_neg hn,he,Int.toNat_natCast]
  refine ⟨one_del0 rfl hn,?_,by rw [hd]⟩;rw [hd];show stzL (L.1.take i ++ L.1.drop (i + 1)) = _;rw [stz_app,hA,hB]
theorem ord_ins {c : Nat} {L : Lst} (h : LOk c L) {D o : List Stz} {b : Int} {f : List Fld} (hs : stzL L.1 = D ++ o) (hb : (D = [] ∧ b = 0) ∨ ∃ D' g,D = D' ++ [(b,g)]) (hc : (chkR f).2 = 0) :
    oneN L (3,b,f) = (if 400 ≤ L.2.2 then 11 else 0) ∧ (¬ 400 ≤ L.2.2 → stzL (doL L (3,b,f)).1 = D ++ (L.2.1,f) :: o ∧ (doL L (3,b,f)).2.1 = L.2.1 + 1):=by
  have hnx:=h.next;have hlv : live (itmOf f,L.2.1) = true:=decide_eq_true (by show 0 < L.2.1;omega);rcases hb with ⟨rfl,rfl⟩|⟨D',g,rfl⟩
  · have hat : atE L.1 0 = -1:=by unfold atE;rw [if_pos (by decide)]
    refine ⟨one_ins0 (show (3 : Int) ≠ 1 by decide) (show (3 : Int) ≠ 2 by decide) (.inl rfl) hc,fun h4=>?_⟩;have hd : doL L (3,0,f) = (insE L.1 0 (itmOf f,L.2.1),L.2.1 + 1,L.2.2 + 1):=by
      unfold doL;rw [if_neg (show ¬ (3 : Int) = 1 by decide),if_neg (show ¬ (3 : Int) = 2 by decide),if_neg (fun h=>h.2 rfl),if_neg (fun h=>h hc),if_neg h4,hat];rfl
    rw [hd];refine ⟨?_,rfl⟩;show stzL (L.1.take 0 ++ (itmOf f,L.2.1) :: L.1.drop 0) = _;rw [List.take_zero,List.drop_zero,List.nil_append,stz_cons,if_pos hlv,hs];rfl
  · rw [List.append_assoc,List.singleton_append] at hs;obtain ⟨i,hi,hn,he,hp,hid,hA,hB,hg⟩:=stz_split h hs;refine ⟨one_ins0 (show (3 : Int) ≠ 1 by decide) (show (3 : Int) ≠ 2 by decide) (.inr hn) hc,fun h4=>?_⟩;have hd : doL L (3,b,f) = (insE L.1 (i + 1) (itmOf f,L.2.1),L.2.1 + 1,L.2.2 + 1):=by
      unfold doL;rw [if_neg (show ¬ (3 : Int) = 1 by decide),if_neg (show ¬ (3 : Int) = 2 by decide),if_neg (fun h=>hn h.1),if_neg (fun h=>h hc),if_neg h4];show (insE L.1 (atE L.1 b + 1).toNat _,_) = _;rw [he];rfl
    rw [hd];refine ⟨?_,rfl⟩;show stzL (L.1.take (i + 1) ++ (itmOf f,L.2.1) :: L.1.drop (i + 1)) = _;have ht : L.1.take (i + 1) = L.1.take i ++ [L.1.getD i (((0 : Int),ByteArray.empty,([] : List Fld)),(0 : Int))]:=(yI (((0 : Int),ByteArray.empty,([] : List Fld)),(0 : Int)) hi).symm;rw [ht,stz_app,stz_app,stz_cons,stz_cons,if_pos hlv,if_pos (show live (L.1.getD i (((0 : Int),ByteArray.empty,([] : List Fld)),(0 : Int))) = true from decide_eq_true (by rw [hid];exact hp)),hA,hB,hg];rfl
theorem rows_stz (es : List Ent) : yW es = (stzL es).map (·.2):=rfl
theorem play : ∀ (w : List Int) {c : Nat} {L : Lst} {D o : List Stz} {r : List (List Fld)} {b : Int},LOk c L → stzL L.1 = D ++ o → ((D = [] ∧ b = 0) ∨ ∃ D' g,D = D' ++ [(b,g)]) → Dif.Al w (o.map (·.2)) r → (∀ f ∈ r,yJ f ∧ (chkR f).2 = 0) →
    (takes L (edW w o r b L.2.1) ∧ yW (runL L (edW w o r b L.2.1)).1 = D.map (·.2) ++ r) ∨ fullAt L (edW w o r b L.2.1)
  | [],c,L,D,o,r,b,h,hs,hb,ha,hr=>by
    obtain ⟨h1,rfl⟩:=ha;obtain rfl : o = []:=List.map_eq_nil_iff.1 h1;refine .inl ⟨trivial,?_⟩;show yW L.1 = _;rw [rows_stz,hs,List.map_append];rfl
  | s :: w,c,L,D,o,r,b,h,hs,hb,ha,hr=>by
    unfold edW;rcases ha with ⟨rfl,x,us,vs,hx,rfl,ha⟩|⟨rfl,x,y,us,vs,hx,rfl,ha⟩|⟨rfl,x,us,hx,ha⟩|⟨rfl,y,vs,rfl,ha⟩
    · obtain ⟨⟨aid,af⟩,o',rfl,ha2,rfl⟩:=List.map_eq_cons_iff.1 hx;obtain rfl : af = x:=ha2;rw [if_pos rfl];have ih:=play w (D:=D ++ [(aid,af)]) (o:=o') (r:=vs) (b:=aid) h (by rw [hs,List.append_assoc];rfl) (.inr ⟨D,af,rfl⟩) ha (fun f hf=>hr f (List.mem_cons_of_mem _ hf));rw [List.map_append,List.append_assoc] at ih;exact ih
    · obtain ⟨⟨aid,af⟩,o',rfl,_,rfl⟩:=List.map_eq_cons_iff.1 hx;rw [if_neg (by decide),if_pos rfl];obtain ⟨hfy,hcy⟩:=hr y List.mem_cons_self;obtain ⟨g1,g2,g3⟩:=ord_rep (f:=y) h hs hcy;have ih:=play w (D:=D ++ [(aid,y)]) (o:=o') (r:=vs) (b:=aid) (doL_ok (e:=(1,aid,y)) h hfy) (by rw [g2,List.append_assoc];rfl) (.inr ⟨D,y,rfl⟩) ha (fun f hf=>hr f (List.mem_cons_of_mem _ hf));rw [g3,List.map_append,List.append_assoc] at ih;exact ih.imp (fun h=>⟨⟨g1,h.1⟩,h.2⟩) fun h=>full_cons g1 h
    · obtain ⟨⟨aid,af⟩,o',rfl,_,rfl⟩:=List.map_eq_cons_iff.1 hx;rw [if_neg (by decide),if_neg (by decide),if_pos rfl];obtain ⟨g1,g2,g3⟩:=ord_del h hs;have ih:=play w (D:=D) (o:=o') (r:=r) (b:=b) (doL_ok (e:=(2,aid,[])) h ⟨Nat.zero_le _,fun f hf=>by cases hf⟩) g2 hb ha hr;rw [g3] at ih;exact ih.imp (fun h=>⟨⟨g1,h.1⟩,h.2⟩) fun h=>full_cons g1 h
    · rw [if_neg (by decide),if_neg (by decide),if_neg (by decide)];obtain ⟨hfy,hcy⟩:=hr y List.mem_cons_self;obtain ⟨g1,g2⟩:=ord_ins (f:=y) h hs hb hcy
      by_cases h4 : 400 ≤ L.2.2
      · rw [if_pos h4] at g1;exact .inr ⟨0,by simp,g1,fun j hj=>absurd hj (Nat.not_lt_zero _),h4⟩
      · rw [if_neg h4] at g1;obtain ⟨g2,g3⟩:=g2 h4;have ih:=play w (D:=D ++ [(L.2.1,y)]) (o:=o) (r:=vs) (b:=L.2.1) (doL_ok (e:=(3,b,y)) h hfy) (by rw [g2,List.append_assoc];rfl) (.inr ⟨D,y,rfl⟩) ha (fun f hf=>hr f (List.mem_cons_of_mem _ hf));rw [g3,List.map_append,List.append_assoc] at ih;exact ih.imp (fun h=>⟨⟨g1,h.1⟩,h.2⟩) fun h=>full_cons g1 h
def edsL (L : Lst) (rows : List (List Fld)) : List Edt:=edW (Dif.wayOf (yW L.1) rows) (stzL L.1) rows 0 L.2.1
theorem eds_len (L : Lst) (rows : List (List Fld)) : (edsL L rows).length = Dif.dist (yW L.1) rows:=by
  unfold edsL;rw [edW_len,(Dif.way_al _ _).2]
theorem eds_play {c : Nat} {L : Lst} (h : LOk c L) {rows : List (List Fld)} (hr : ∀ f ∈ rows,yJ f ∧ (chkR f).2 = 0) :
    (takes L (edsL L rows) ∧ yW (runL L (edsL L rows)).1 = rows) ∨ fullAt L (edsL L rows) :=
  play (Dif.wayOf (yW L.1) rows) (D:=[]) (o:=stzL L.1) h rfl (.inl ⟨rfl,rfl⟩) (Dif.way_al _ _).1 hr
theorem eds_good {L : Lst} {rows : List (List Fld)} (hr : ∀ f ∈ rows,yJ f ∧ (chkR f).2 = 0) : ∀ e ∈ edsL L rows,goodN e = 0 ∧ yJ e.2.2:=edW_good _ _ _ _ _ (Dif.way_al _ _).1 hr
theorem eds_none {L : Lst} {rows : List (List Fld)} : (edsL L rows) = [] ↔ yW L.1 = rows:=by
  rw [← List.length_eq_zero_iff,eds_len,Dif.dist_zero]
structure GC (p : PSt) : Prop where
  flds : ∀ f ∈ p.flds,yV f = 0
  its : ∀ x ∈ p.its,x.1 = 3 → x.2.2 ≠ [] ∧ ∀ f ∈ x.2.2,yV f = 0
theorem drow_len {c : Nat} {L : Lst} (h : LOk c L) : ((yW L.1).length : Int) = L.2.2:=by
  have h1:=h.many;have h2:=ids_len L.1;rw [rows_stz,List.length_map];unfold stzL;rw [List.length_map];omega
theorem drow_flds {c : Nat} {L : Lst} (h : LOk c L) : ∀ f ∈ yW L.1,yJ f:=by
  intro f hf;rw [rows_stz] at hf;unfold stzL at hf;rw [List.map_map] at hf;obtain ⟨e,he,rfl⟩:=List.mem_map.1 hf;exact h.flds e (List.mem_filter.1 he).1
theorem eds_chk {L : Lst} {rows : List (List Fld)} (hr : ∀ f ∈ rows,yJ f ∧ (chkR f).2 = 0) (h1 : edsL L rows ≠ []) (h2 : ¬ 40 < (edsL L rows).length) : (chkB (edsL L rows)).2 = 0:=by
  rw [chkB_no (fun h=>h.elim (fun h=>h1 (List.length_eq_zero_iff.1 (by omega))) h2) fun e he=>(eds_good hr e he).1]
theorem eds_takes {c : Nat} {L : Lst} (h : LOk c L) {rows : List (List Fld)} (hr : ∀ f ∈ rows,yJ f ∧ (chkR f).2 = 0) (h2 : ¬ 40 < (edsL L rows).length) (h14 : rows.length ≤ 14) : takes L (edsL L rows) ∧ yW (runL L (edsL L rows)).1 = rows:=by
  refine (eds_play h hr).resolve_right (not_full ?_);have h3:=drow_len h;have h4:=Dif.dist_min (yW L.1) rows;rw [← eds_len] at h4;omega
theorem al_len : ∀ {w : List Int} {xs ys : List (List Fld)},Dif.Al w xs ys → w.length ≤ xs.length + ys.length
  | [],_,_,_=>Nat.zero_le _
  | s :: w,xs,ys,h=>by
    rcases h with ⟨_,x,us,vs,rfl,rfl,h⟩|⟨_,x,y,us,vs,rfl,rfl,h⟩|⟨_,x,us,rfl,h⟩|⟨_,y,vs,rfl,h⟩ <;> (have:=al_len h;simp only [List.length_cons] at *;omega)
abbrev StD:=List Stz × List (List Fld) × Int × Int × List Edt
def tkD (s : Int) (x : StD) : StD :=
  if s = 1 then (x.1.tail,x.2.1.tail,(x.1.headD ((0 : Int),([] : List Fld))).1,x.2.2.2.1,x.2.2.2.2)
  else if s = 2 then (x.1.tail,x.2.1.tail,(x.1.headD ((0 : Int),([] : List Fld))).1,x.2.2.2.1,x.2.2.2.2 ++ [(1,(x.1.headD ((0 : Int),([] : List Fld))).1,x.2.1.headD [])])
  else if s = 3 then (x.1.tail,x.2.1,x.2.2.1,x.2.2.2.1,x.2.2.2.2 ++ [(2,(x.1.headD ((0 : Int),([] : List Fld))).1,[])])
  else (x.1,x.2.1.tail,x.2.2.2.1,x.2.2.2.1 + 1,x.2.2.2.2 ++ [(3,x.2.2.1,x.2.1.headD [])])
def runD (w : List Int) (x : StD) : StD:=w.foldl (fun x s=>tkD s x) x
def may (s : Int) (x : StD) : Prop :=
  (s = 1 ∧ ∃ a o f r,x.1 = a :: o ∧ x.2.1 = f :: r) ∨ (s = 2 ∧ ∃ a o f r,x.1 = a :: o ∧ x.2.1 = f :: r) ∨ (s = 3 ∧ ∃ a o,x.1 = a :: o) ∨ (s = 4 ∧ ∃ f r,x.2.1 = f :: r)
structure InD (rows : List (List Fld)) (n0 : Int) (es : List Edt) (w : List Int) (j : Nat) (x : StD) : Prop where
  al : Dif.Al w (x.1.map (·.2)) x.2.1
  out : x.2.2.2.2 ++ edW w x.1 x.2.1 x.2.2.1 x.2.2.2.1 = es
  len : x.2.2.2.2.length ≤ j
  next : n0 ≤ x.2.2.2.1 ∧ x.2.2.2.1 ≤ n0 + (j : Int)
  rows : ∀ f ∈ x.2.1,f ∈ rows
theorem inD_step {rows : List (List Fld)} {n0 : Int} {es : List Edt} {s : Int} {w : List Int} {j : Nat} {x : StD} (h : InD rows n0 es (s :: w) j x) : may s x ∧ InD rows n0 es w (j + 1) (tkD s x):=by
  obtain ⟨o,r,b,n,out⟩:=x;obtain ⟨hal,hout,hlen,hnx,hrw⟩:=h;unfold edW at hout;rcases hal with ⟨rfl,x,us,vs,hx,hy,hal⟩|⟨rfl,x,y,us,vs,hx,hy,hal⟩|⟨rfl,x,us,hx,hal⟩|⟨rfl,y,vs,hy,hal⟩
  · obtain ⟨a,o',ho,_,rfl⟩:=List.map_eq_cons_iff.1 hx;simp only at ho hy;subst ho hy;exact ⟨.inl ⟨rfl,a,o',x,vs,rfl,rfl⟩,hal,hout,Nat.le_succ_of_le hlen,⟨hnx.1,by have:=hnx.2;show n ≤ _;simp only at this;omega⟩,fun f hf=>hrw f (List.mem_cons_of_mem _ hf)⟩
  · obtain ⟨a,o',ho,_,rfl⟩:=List.map_eq_cons_iff.1 hx;simp only at ho hy;subst ho hy;rw [if_neg (show ¬ (2 : Int) = 1 by decide),if_pos rfl] at hout;refine ⟨.inr (.inl ⟨rfl,a,o',y,vs,rfl,rfl⟩),hal,?_,?_,⟨hnx.1,by have:=hnx.2;show n ≤ _;simp only at this;omega⟩,fun f hf=>hrw f (List.mem_cons_of_mem _ hf)⟩
    · show (out ++ [_]) ++ _ = _;rw [List.append_assoc];exact hout
    · show (out ++ [_]).length ≤ _;rw [List.length_append];exact Nat.succ_le_succ hlen
  · obtain ⟨a,o',ho,_,rfl⟩:=List.map_eq_cons_iff.1 hx;simp only at ho;subst ho;rw [if_neg (show ¬ (3 : Int) = 1 by decide),if_neg (show ¬ (3 : Int) = 2 by decide),if_pos rfl] at hout;refine ⟨.inr (.inr (.inl ⟨rfl,a,o',rfl⟩)),hal,?_,?_,⟨hnx.1,by have:=hnx.2;show n ≤ _;simp only at this;omega⟩,hrw⟩
    · show (out ++ [_]) ++ _ = _;rw [List.append_assoc];exact hout
    · show (out ++ [_]).length ≤ _;rw [List.length_append];exact Nat.succ_le_succ hlen
  · simp only at hy;subst hy;rw [if_neg (show ¬ (4 : Int) = 1 by decide),if_neg (show ¬ (4 : Int) = 2 by decide),if_neg (show ¬ (4 : Int) = 3 by decide)] at hout;refine ⟨.inr (.inr (.inr ⟨rfl,y,vs,rfl⟩)),hal,?_,?_,⟨by have:=hnx.1;show n0 ≤ n + 1;simp only at this;omega,by have:=hnx.2;show n + 1 ≤ _;simp only at this;omega⟩,fun f hf=>hrw f (List.mem_cons_of_mem _ hf)⟩
    · show (out ++ [_]) ++ _ = _;rw [List.append_assoc];exact hout
    · show (out ++ [_]).length ≤ _;rw [List.length_append];exact Nat.succ_le_succ hlen
def stD0 (L : Lst) (rows : List (List Fld)) : StD:=(stzL L.1,rows,0,L.2.1,[])
theorem runD_take (w : List Int) (x : StD) {j : Nat} (h : j < w.length) : runD (w.take (j + 1)) x = tkD (w.getD j 0) (runD (w.take j) x):=by
  unfold runD;rw [← yI 0 h,List.foldl_append];rfl
theorem inD_at (L : Lst) (rows : List (List Fld)) : ∀ j,j ≤ (Dif.wayOf (yW L.1) rows).length → InD rows L.2.1 (edsL L rows) ((Dif.wayOf (yW L.1) rows).drop j) j (runD ((Dif.wayOf (yW L.1) rows).take j) (stD0 L rows))
  | 0,_=>⟨(Dif.way_al _ _).1,rfl,Nat.le_refl _,⟨Int.le_refl _,by show L.2.1 ≤ _;omega⟩,fun _ hf=>hf⟩
  | j + 1,h=>by
    have ih:=inD_at L rows j (by omega);rw [List.drop_eq_getElem_cons (show j < _ by omega)] at ih;rw [runD_take _ _ (show j < _ by omega)];rw [show (Dif.wayOf (yW L.1) rows).getD j 0 = (Dif.wayOf (yW L.1) rows)[j] by rw [List.getD_eq_getElem?_getD,List.getElem?_eq_getElem h];rfl];exact (inD_step ih).2
theorem may_at (L : Lst) (rows : List (List Fld)) {j : Nat} (h : j < (Dif.wayOf (yW L.1) rows).length) : may ((Dif.wayOf (yW L.1) rows).getD j 0) (runD ((Dif.wayOf (yW L.1) rows).take j) (stD0 L rows)):=by
  have ih:=inD_at L rows j (by omega);rw [List.drop_eq_getElem_cons (show j < _ by omega)] at ih;rw [show (Dif.wayOf (yW L.1) rows).getD j 0 = (Dif.wayOf (yW L.1) rows)[j] by rw [List.getD_eq_getElem?_getD,List.getElem?_eq_getElem h];rfl];exact (inD_step ih).1
theorem runD_all (L : Lst) (rows : List (List Fld)) : (runD (Dif.wayOf (yW L.1) rows) (stD0 L rows)).2.2.2.2 = edsL L rows:=by
  have h:=inD_at L rows _ (Nat.le_refl _);rw [List.drop_length,List.take_length] at h;have h2:=h.out;rw [show edW [] _ _ _ _ = ([] : List Edt) from rfl,List.append_nil] at h2;exact h2
theorem drop_head {α : Type} (d : α) : ∀ {l : List α} {i : Nat} {a : α} {r : List α},l.drop i = a :: r → i < l.length ∧ l.getD i d = a ∧ l.drop (i + 1) = r
  | [],i,a,r,h=>by rw [List.drop_nil] at h;cases h
  | x :: l,0,a,r,h=>by
    obtain ⟨rfl,rfl⟩:=List.cons.inj h;exact ⟨Nat.succ_pos _,rfl,rfl⟩
  | x :: l,i + 1,a,r,h=>by
    obtain ⟨h1,h2,h3⟩:=drop_head d (l:=l) (i:=i) (by simpa using h);exact ⟨by simpa using h1,by simpa using h2,by simpa using h3⟩
theorem ref_step {S : List Stz} {R : List (List Fld)} {x : StD} {s : Int} {i j : Nat} (hm : may s x) (h1 : x.1 = S.drop i) (h2 : x.2.1 = R.drop j) :
    (s ≠ 4 → i < S.length ∧ (S.getD i ((0 : Int),([] : List Fld))).1 = (x.1.headD ((0 : Int),([] : List Fld))).1 ∧ x.1.tail = S.drop (i + 1)) ∧ (s ≠ 3 → j < R.length ∧ R.getD j [] = x.2.1.headD [] ∧ x.2.1.tail = R.drop (j + 1)):=by
  have hA : ∀ a o,x.1 = a :: o → i < S.length ∧ (S.getD i ((0 : Int),([] : List Fld))).1 = (x.1.headD ((0 : Int),([] : List Fld))).1 ∧ x.1.tail = S.drop (i + 1):=fun a o h=>by
    obtain ⟨g1,g2,g3⟩:=drop_head ((0 : Int),([] : List Fld)) (h1.symm.trans h);rw [h];exact ⟨g1,by rw [g2];rfl,g3.symm⟩
  have hB : ∀ f r,x.2.1 = f :: r → j < R.length ∧ R.getD j [] = x.2.1.headD [] ∧ x.2.1.tail = R.drop (j + 1):=fun a o h=>by
    obtain ⟨g1,g2,g3⟩:=drop_head [] (h2.symm.trans h);rw [h];exact ⟨g1,by rw [g2];rfl,g3.symm⟩
  rcases hm with ⟨rfl,a,o,f,r,e1,e2⟩|⟨rfl,a,o,f,r,e1,e2⟩|⟨rfl,a,o,e1⟩|⟨rfl,f,r,e2⟩
  · exact ⟨fun _=>hA a o e1,fun _=>hB f r e2⟩
  · exact ⟨fun _=>hA a o e1,fun _=>hB f r e2⟩
  · exact ⟨fun _=>hA a o e1,fun h=>absurd rfl h⟩
  · exact ⟨fun h=>absurd rfl h,fun _=>hB f r e2⟩
theorem tk1 (x : StD) : tkD 1 x = (x.1.tail,x.2.1.tail,(x.1.headD ((0 : Int),([] : List Fld))).1,x.2.2.2.1,x.2.2.2.2):=rfl
theorem tk2 (x : StD) : tkD 2 x = (x.1.tail,x.2.1.tail,(x.1.headD ((0 : Int),([] : List Fld))).1,x.2.2.2.1,x.2.2.2.2 ++ [(1,(x.1.headD ((0 : Int),([] : List Fld))).1,x.2.1.headD [])]):=rfl
theorem tk3 (x : StD) : tkD 3 x = (x.1.tail,x.2.1,x.2.2.1,x.2.2.2.1,x.2.2.2.2 ++ [(2,(x.1.headD ((0 : Int),([] : List Fld))).1,[])]):=rfl
theorem tk4 (x : StD) : tkD 4 x = (x.1,x.2.1.tail,x.2.2.2.1,x.2.2.2.1 + 1,x.2.2.2.2 ++ [(3,x.2.2.1,x.2.1.headD [])]):=rfl
theorem may4 {s : Int} {x : StD} (h : may s x) (h1 : ¬ s = 1) (h2 : ¬ s = 2) (h3 : ¬ s = 3) : s = 4:=by
  rcases h with ⟨h,_⟩|⟨h,_⟩|⟨h,_⟩|⟨h,_⟩
  · exact absurd h h1
  · exact absurd h h2
  · exact absurd h h3
  · exact h
end Q
end Ab
end Go.Proofs.YtpfkncffaanjcaaGreatDoor
namespace Go.Proofs.YtpfkncffaanjcaaGreatDoor
open Go.RowKit
set_option maxRecDepth 100000
namespace Dif
open Rdl
def wt (x : ByteArray × ByteArray) : Nat:=min x.1.size 10000 + min x.2.size 10000
def muchGo : Nat → Nat → Row → Bool
  | _,_,[]=>false
  | i,n,x :: r=>if 60 < i ∨ 6000 < n + wt x then true else muchGo (i + 1) (n + wt x) r
def muchB (xs : Row) : Bool:=muchGo 0 0 xs
abbrev lists : Rd (List (List Row)):=sl rows (by decide)
def muchL (l : List Row) : Bool:=decide (14 < l.length) || l.any muchB
def muchAll (ls : List (List Row)) : Bool:=ls.any muchL
theorem opens_field : Opens Tryz.prog 82 field :=
  opens_two Tryz.underlying82 (by kernel_rfl) rfl rfl (opens_str Tryz.underlying9 (by kernel_rfl)) (opens_str Tryz.underlying9 (by kernel_rfl))
theorem opens_fields : Opens Tryz.prog 44 fields:=opens_sl (by decide) Tryz.underlying44 (by kernel_rfl) opens_field
theorem opens_rows : Opens Tryz.prog 68 rows:=opens_sl (by decide) Tryz.underlying68 (by kernel_rfl) opens_fields
theorem open_rows {H : Type} {enc : TypeId × Value → H} {W : World} {base : Nat} {v : Value} {d : DataW H} {p : List MemPlace} (hv : Value.okWide Tryz.prog W .any base 68 v)
    (h : DataW.Trod enc Tryz.prog W 0 (fun _=>true) true 68 v d p) : ∃ xs : List Row,Sl fields all W v xs:=by
  obtain ⟨a0,len,cap,rfl⟩:=Go.WideShapes.okWide_slice Tryz.underlying68 hv;obtain ⟨fuel,hf⟩:=h;obtain ⟨xs,v,hc,hs⟩:=opens_rows.2 enc W _ _ _ _ _ _ hf;simp only [Value.cells,List.cons.injEq,and_true] at hc;subst hc;exact ⟨xs,hs⟩
theorem sl_new {α : Type} {R : Rd α} {w : World} {t : TypeId} (vs : Array Value) (xs : List α) (hn : R.n = 1) (hl : vs.size = xs.length) (hm : xs.length ≤ maxLen)
    (h : ∀ i (h : i < xs.length),∃ u,vs[i]? = some u ∧ R.rd all (w.alloc (.cells vs t)) [u] xs[i]) : Sl R all (w.alloc (.cells vs t)) (.slice (some ⟨w.heap.size,0,none⟩) xs.length xs.length) xs:=by
  refine ⟨_,xs.length,rfl,Nat.le_refl _,hm,fun i hi=>?_⟩;obtain ⟨u,hu,hr⟩:=h i hi;refine ⟨w.heap.size,0,[u],rfl,trivial,hr,fun j hj=>?_⟩;have hj0 : j = 0:=by omega
  subst hj0;rw [World.cell?_alloc_at _ _ _ _ rfl];simp [hn,hu]
theorem one_any (s : ByteArray) (hs : s.size ≤ maxLen) (w : World) :
    Calls Tryz.prog 72 #[.string s] w fun e w'=>∃ b,e = .returned (.slice (some ⟨b,0,none⟩) 1 1) ∧ Sl field all w' (.slice (some ⟨b,0,none⟩) 1 1) [(⟨#[65]⟩,s)] ∧ Below w.heap.size w w':=by
  go_enter Tryz.func72,Tryz.ntmps72
  go_wp2
  go_ret
  refine ⟨_,rfl,⟨_,1,rfl,Nat.le_refl _,by unfold maxLen;omega,fun i hi=>?_⟩,(Below.refl _ _).alloc (Nat.le_refl _) _⟩;obtain rfl : i = 0:=by simpa using hi
  refine ⟨_,0,[.string ⟨#[65]⟩,.string s],rfl,trivial,⟨[.string ⟨#[65]⟩],[.string s],rfl,⟨rfl,by show 1 ≤ maxLen;decide⟩,⟨rfl,hs⟩⟩,fun j hj=>?_⟩;rw [World.cell?_alloc_at _ _ _ _ rfl]
  match j,hj with
  | 0,_=>rfl
  | 1,_=>rfl
def by1 (c : UInt8) : ByteArray:=⟨#[c]⟩
def rowOf (c : UInt8) : Row:=[(⟨#[65]⟩,⟨#[c]⟩)]
abbrev aliveA : List Row:=[rowOf 97,rowOf 98,rowOf 99]
abbrev aliveB : List Row:=[rowOf 97,rowOf 120,rowOf 99,rowOf 100]
theorem alive_cst : cst (eqAt aliveA aliveB) aliveA.length aliveB.length = 2:=by decide +kernel
theorem alive_way : ((wayU (eqAt aliveA aliveB) (cst (eqAt aliveA aliveB)) (aliveA.length + aliveB.length) aliveA.length aliveB.length).map Int.ofNat).reverse = [1,2,1,4]:=by decide +kernel
theorem alive_any (w : World) : Calls Tryz.prog 37 #[] w fun e w'=>e = .returned (.bool true) ∧ Below w.heap.size w w':=by
  have H:=Lib.hid (fun (c : UInt8) (w : World)=>one_any ⟨#[c]⟩ (by show 1 ≤ maxLen;decide) w)
  go_enter Tryz.func37,Tryz.ntmps37
  go_wp2_with fail
  refine (H.out _ _).mono ?_
  rintro e w1 ⟨b1,rfl,s1,hb1⟩
  go_wp2_with fail
  refine (H.out _ _).mono ?_
  rintro e w2 ⟨b2,rfl,s2,hb2⟩
  go_wp2_with fail
  refine (H.out _ _).mono ?_
  rintro e w3 ⟨b3,rfl,s3,hb3⟩
  have hA:=sl_new (R:=fields) (w:=w3) (t:=44) #[.slice (some ⟨b1,0,none⟩) 1 1,.slice (some ⟨b2,0,none⟩) 1 1,.slice (some ⟨b3,0,none⟩) 1 1] aliveA rfl rfl (by decide) (fun i hi=>by
    have hal : Below w3.heap.size w3 (w3.alloc (.cells #[.slice (some ⟨b1,0,none⟩) 1 1,.slice (some ⟨b2,0,none⟩) 1 1,.slice (some ⟨b3,0,none⟩) 1 1] 44)):=(Below.refl _ _).alloc (Nat.le_refl _) _
    match i,hi with
    | 0,_=>exact ⟨_,rfl,_,rfl,((s1.below (by decide) hb2).below (by decide) hb3).below (by decide) hal⟩
    | 1,_=>exact ⟨_,rfl,_,rfl,(s2.below (by decide) hb3).below (by decide) hal⟩
    | 2,_=>exact ⟨_,rfl,_,rfl,s3.below (by decide) hal⟩)
  have hbA:=((hb1.trans (hb2.mono hb1.size)).trans (hb3.mono (Nat.le_trans hb1.size hb2.size))).alloc (Nat.le_trans hb1.size (Nat.le_trans hb2.size hb3.size)) (.cells #[.slice (some ⟨b1,0,none⟩) 1 1,.slice (some ⟨b2,0,none⟩) 1 1,.slice (some ⟨b3,0,none⟩) 1 1] 44);clear s1 s2 s3 hb1 hb2 hb3;have KA:=Lib.hid hA;clear hA
  go_wp2_with fail
  refine (H.out _ _).mono ?_
  rintro e w4 ⟨b4,rfl,s4,hb4⟩
  go_wp2_with fail
  refine (H.out _ _).mono ?_
  rintro e w5 ⟨b5,rfl,s5,hb5⟩
  go_wp2_with fail
  refine (H.out _ _).mono ?_
  rintro e w6 ⟨b6,rfl,s6,hb6⟩
  go_wp2_with fail
  refine (H.out _ _).mono ?_
  rintro e w7 ⟨b7,rfl,s7,hb7⟩
  have hB:=sl_new (R:=fields) (w:=w7) (t:=44) #[.slice (some ⟨b4,0,none⟩) 1 1,.slice (some ⟨b5,0,none⟩) 1 1,.slice (some ⟨b6,0,none⟩) 1 1,.slice (some ⟨b7,0,none⟩) 1 1] aliveB rfl rfl (by decide) (fun i hi=>by
    have hal : Below w7.heap.size w7 (w7.alloc (.cells #[.slice (some ⟨b4,0,none⟩) 1 1,.slice (some ⟨b5,0,none⟩) 1 1,.slice (some ⟨b6,0,none⟩) 1 1,.slice (some ⟨b7,0,none⟩) 1 1] 44)):=(Below.refl _ _).alloc (Nat.le_refl _) _
    match i,hi with
    | 0,_=>exact ⟨_,rfl,_,rfl,(((s4.below (by decide) hb5).below (by decide) hb6).below (by decide) hb7).below (by decide) hal⟩
    | 1,_=>exact ⟨_,rfl,_,rfl,((s5.below (by decide) hb6).below (by decide) hb7).below (by decide) hal⟩
    | 2,_=>exact ⟨_,rfl,_,rfl,(s6.below (by decide) hb7).below (by decide) hal⟩
    | 3,_=>exact ⟨_,rfl,_,rfl,s7.below (by decide) hal⟩)
  have hb47:=(((hb4.trans (hb5.mono hb4.size)).trans (hb6.mono (Nat.le_trans hb4.size hb5.size))).trans (hb7.mono (Nat.le_trans hb4.size (Nat.le_trans hb5.size hb6.size)))).alloc (Nat.le_trans hb4.size (Nat.le_trans hb5.size (Nat.le_trans hb6.size hb7.size))) (.cells #[.slice (some ⟨b4,0,none⟩) 1 1,.slice (some ⟨b5,0,none⟩) 1 1,.slice (some ⟨b6,0,none⟩) 1 1,.slice (some ⟨b7,0,none⟩) 1 1] 44);have hA:=KA.out.below (by decide) hb47;have hb9:=hbA.trans (hb47.mono hbA.size);clear s4 s5 s6 s7 hb4 hb5 hb6 hb7 KA hbA hb47;have HD:=Lib.hid (Distance_any _ _ _ _ _ hA hB (by decide) (by decide));rw [alive_cst] at HD;have HW:=Lib.hid (fun w' (hb : Below _ _ w')=>Way_any _ _ _ _ w' (hA.below (by decide) hb) (hB.below (by decide) hb) (by decide) (by decide));rw [alive_way] at HW;clear hA hB
  go_wp2_with fail
  generalize w7.alloc (.cells #[.slice (some ⟨b4,0,none⟩) 1 1,.slice (some ⟨b5,0,none⟩) 1 1,.slice (some ⟨b6,0,none⟩) 1 1,.slice (some ⟨b7,0,none⟩) 1 1] 44) = w9 at *
  refine HD.out.mono ?_
  rintro e w10 ⟨rfl,hb10⟩
  have HW:=Lib.hid (HW.out w10 hb10)
  go_wp2_with fail
  refine HW.out.mono ?_
  rintro e w11 ⟨v,rfl,hs,hb11⟩
  obtain ⟨a,cap,rfl,h1,h2,hcc⟩:=id hs;have hal : Below w11.heap.size w11 (w11.alloc (.cells #[.int .i64 1,.int .i64 2,.int .i64 1,.int .i64 4] 3)):=(Below.refl _ _).alloc (Nat.le_refl _) _;have hC:=sl_new (R:=int) (w:=w11) (t:=3) #[.int .i64 1,.int .i64 2,.int .i64 1,.int .i64 4] [1,2,1,4] rfl rfl (by decide) (fun i hi=>by
    match i,hi with
    | 0,_=>exact ⟨_,rfl,rfl,by simp,by simp⟩
    | 1,_=>exact ⟨_,rfl,rfl,by simp,by simp⟩
    | 2,_=>exact ⟨_,rfl,rfl,by simp,by simp⟩
    | 3,_=>exact ⟨_,rfl,rfl,by simp,by simp⟩)
  have HI:=Lib.hid (ints_any _ _ _ _ _ (hs.below (by decide) hal) hC);clear hs hcc hC
  go_wp2_with fail
  refine HI.out.mono ?_
  rintro e w12 ⟨rfl,n,rfl⟩
  go_wp2
  go_ret
  exact ⟨rfl,below_drewN (((hb9.trans (hb10.mono hb9.size)).trans (hb11.mono (Nat.le_trans hb9.size hb10.size))).trans (hal.mono (Nat.le_trans hb9.size (Nat.le_trans hb10.size hb11.size)))) n⟩
end Dif
end Go.Proofs.YtpfkncffaanjcaaGreatDoor
namespace Go.Proofs.YtpfkncffaanjcaaGreatDoor
open Go.RowKit
namespace Ab
set_option maxRecDepth 100000
namespace Q
theorem dalive_c : qU Tryz.prog 37 [] (ib true):=by
  refine ⟨⟨_,Tryz.func37,rfl,rfl⟩,fun ok w vs _ hvs=>?_⟩;rw [show vs = [] from hvs];exact (Dif.alive_any w).mono fun e w' ⟨he,hb⟩=>⟨_,he,hb,rfl⟩
def muchR (l : List (List Fld)) : Bool:=decide (14 < l.length) || l.any muchB
theorem any_take {α : Type} (p : α → Bool) (l : List α) (d : α) (i : Nat) (h : i < l.length) : (l.take (i + 1)).any p = ((l.take i).any p || p (l.getD i d)):=by
  rw [← yI d h,List.any_append];simp
theorem any_pre {α : Type} {p : α → Bool} {l : List α} (n : Nat) (h : (l.take n).any p = true) : l.any p = true:=by
  obtain ⟨x,hx,hp⟩:=List.any_eq_true.1 h;exact List.any_eq_true.2 ⟨x,List.mem_of_mem_take hx,hp⟩
theorem dmuch_c (ls : List (List (List Fld))) : qU Tryz.prog 38 [.one (.sl (.sl (.sl rFld)) ls)] (ib (ls.any muchR)):=by
  refine qW (rs:=[2]) Tryz.func38 rfl rfl rfl teOk rfl ?_;refine qC ?_;refine qB ?_;refine qC ?_;refine qC ?_;refine qB ?_;intro l1_1
  try simp only [zds] at l1_1
  refine qO ?_;refine qV (fun (i : Nat)=>i ≤ ls.length ∧ (ls.take i).any muchR = false) (fun (i : Nat)=>[(7,.one (.sl (.sl (.sl rFld)) ls)),(8,ii .i64 ls.length),(9,ii .i64 i)]) (fun (i : Nat)=>[]) 0 (fun (i : Nat)=>ls.length - i) 0 (⟨Nat.zero_le _,rfl⟩) (qQ ⟨rfl,rfl,rfl⟩ trivial rfl) ?_;intro i hI0;obtain ⟨hi,hn⟩:=hI0;refine qC ?_;refine qB ?_;refine qC ?_;refine qK rfl (fun h10=>?_) (fun h10=>?_)
  ·try simp only [decide_eq_true_eq] at h10
   try simp only [zds] at h10
   have hil : i < ls.length:=(by omega);have hsn:=any_take muchR ls [] i hil;rw [hn,Bool.false_or] at hsn;refine qM ?_;refine qC ?_;refine qO ?_;refine qC ?_;refine qB ?_;refine zai (by first|omega|assumption|decide|(simp only [zds];omega)|(simp <;> omega)) ?_;refine qC ?_;refine qC ?_;refine qB ?_;intro l4_1
   try simp only [Int.toNat_natCast,qI] at l4_1
   refine qK rfl (fun h15=>?_) (fun h15=>?_)
   ·try simp only [decide_eq_true_eq] at h15
    try simp only [Int.toNat_natCast,qI] at h15
    refine qC ?_;refine qB ?_;refine qL ?_;rw [any_pre (p:=muchR) (i + 1) (by rw [hsn];unfold muchR;rw [decide_eq_true (by omega)];rfl)];exact rfl
   ·try simp only [decide_eq_false_iff_not,Int.not_lt] at h15
    try simp only [Int.toNat_natCast,qI] at h15
    refine qM ?_;refine qC ?_;refine qB ?_;intro l6_1
    try simp only [Int.toNat_natCast,qI] at l6_1
    refine qO ?_;refine qV (fun (j : Nat)=>j ≤ (ls.getD i []).length ∧ ((ls.getD i []).take j).any muchB = false) (fun (j : Nat)=>[(7,.one (.sl (.sl (.sl rFld)) ls)),(8,ii .i64 ls.length),(9,ii .i64 i),(16,.one (.sl (.sl rFld) (ls.getD i []))),(17,ii .i64 (ls.getD i []).length),(18,ii .i64 j)]) (fun (j : Nat)=>[]) 0 (fun (j : Nat)=>(ls.getD i []).length - j) 0 (⟨Nat.zero_le _,rfl⟩) (qQ ⟨rfl,rfl,rfl,rfl,rfl,rfl⟩ trivial rfl) ?_;intro j hI2;obtain ⟨hj,hm⟩:=hI2;refine qC ?_;refine qB ?_;refine qC ?_;refine qK rfl (fun h19=>?_) (fun h19=>?_)
    ·try simp only [decide_eq_true_eq] at h19
     try simp only [zds] at h19
     have hjl : j < (ls.getD i []).length:=(by omega);have hsm:=any_take muchB (ls.getD i []) [] j hjl;rw [hm,Bool.false_or] at hsm;refine qM ?_;refine qC ?_;refine qO ?_;refine qC ?_;refine qB ?_;refine zai (by first|omega|assumption|decide|(simp only [zds];omega)|(simp <;> omega)) ?_;refine qC ?_;refine qB ?_;refine Or.inl ?_;refine zai (rfl) ?_;refine zei _ (zai (much_c _) ?_);refine qK rfl (fun h23=>?_) (fun h23=>?_)
     ·try simp only [zbq] at h23
      try simp only [Int.toNat_natCast,qI] at h23
      refine qC ?_;refine qB ?_;refine qL ?_;rw [any_pre (p:=muchR) (i + 1) (by rw [hsn];unfold muchR;rw [any_pre (p:=muchB) (j + 1) (by rw [hsm];exact h23),Bool.or_true])];exact rfl
     ·try simp only [zbq] at h23
      try simp only [Int.toNat_natCast,qI] at h23
      refine qM ?_;refine qB ?_;refine zai (by first|omega|assumption|decide|(simp only [zds];omega)|(simp <;> omega)) ?_;exact ⟨j + 1,⟨by omega,by rw [hsm];exact h23⟩,by first|omega|(simp <;> omega),qQ ⟨rfl,rfl,rfl,rfl,rfl,rfl⟩ trivial rfl⟩
    ·try simp only [decide_eq_false_iff_not,Int.not_lt] at h19
     try simp only [zds] at h19
     refine qZ ?_;refine qB ?_;refine zai (by first|omega|assumption|decide|(simp only [zds];omega)|(simp <;> omega)) ?_;exact ⟨i + 1,⟨by omega,by rw [hsn];unfold muchR;rw [List.take_of_length_le (by omega)] at hm;rw [hm,Bool.or_false];exact decide_eq_false (by omega)⟩,by first|omega|(simp <;> omega),qQ ⟨rfl,rfl,rfl⟩ trivial rfl⟩
  ·try simp only [decide_eq_false_iff_not,Int.not_lt] at h10
   try simp only [zds] at h10
   refine qZ ?_;refine qC ?_;refine qB ?_;refine qL ?_;rw [List.take_of_length_le (by omega)] at hn;rw [hn];exact rfl
theorem rowsL_c {k : Nat} (es : List Ent) (n m : Int) (hl : es.length ≤ 1000000) (hf : ∀ e ∈ es,e.1.2.2.length ≤ 1000000) : qU Tryz.prog 43 [.one (.adk k (rLst k) (es,n,m))] (.one (.sl (.sl rFld) (yW es))):=by
  have hsl : (stzL es).length ≤ es.length:=by unfold stzL;rw [List.length_map];exact live_len es
  refine qW (rs:=[2]) Tryz.func43 rfl rfl rfl teOk rfl ?_;refine qC ?_;refine qB ?_;refine qC ?_;refine qB ?_;refine qC ?_;refine qC ?_;refine yZ 3 44 (.sl rFld) rfl ?_;refine qB ?_;refine Or.inl ?_;refine zai (rfl) ?_;refine zei _ (zai (stanzasL_c es n m hl hf) ?_);intro l2_2
  try simp only [zds] at l2_2
  refine qO ?_;refine qV (fun (i : Nat)=>i ≤ (stzL es).length) (fun (i : Nat)=>[(3,.one (.vec 0)),(7,.one (.sl rStz (stzL es))),(8,ii .i64 (stzL es).length),(9,ii .i64 i)]) (fun (i : Nat)=>[(0,.vec 44 (.sl rFld) (((stzL es).take i).map (·.2)))]) 1 (fun (i : Nat)=>(stzL es).length - i) 0 (Nat.zero_le _) (qQ ⟨rfl,rfl,rfl,rfl⟩ rfl rfl) ?_;intro i hI0;refine qC ?_;refine qB ?_;refine qC ?_;refine qK rfl (fun h10=>?_) (fun h10=>?_)
  ·try simp only [decide_eq_true_eq] at h10
   try simp only [zds] at h10
   have hil : i < (stzL es).length:=(by omega);refine qM ?_;refine qC ?_;refine qO ?_;refine qC ?_;refine qB ?_;refine zai (by first|omega|assumption|decide|(simp only [zds];omega)|(simp <;> omega)) ?_;refine qB ?_;refine zai (by exact qP (show (((stzL es).take i).map (·.2)).length + 1 ≤ 1000000000 by rw [List.length_map,List.length_take];omega) (by decide)) ?_;refine qB ?_;refine zai (by first|omega|assumption|decide|(simp only [zds];omega)|(simp <;> omega)) ?_;exact ⟨i + 1,by omega,by first|omega|(simp <;> omega),qQ ⟨rfl,rfl,rfl,(qR (by omega))⟩ (qS (by rw [← yI ((0 : Int),([] : List Fld)) hil,List.map_append];exact rfl)) rfl⟩
  ·try simp only [decide_eq_false_iff_not,Int.not_lt] at h10
   try simp only [zds] at h10
   refine qZ ?_;refine qC ?_;refine qB ?_;refine qL ?_;rw [List.take_of_length_le (by omega)];exact rfl
def wkO (x : StD) : List (Nat × Ob):=[(0,.box 132 [.sl rStz x.1,.sl (.sl rFld) x.2.1,.lit (.int .i64 x.2.2.1),.lit (.int .i64 x.2.2.2.1),.vec 1]),(1,.vec 46 rEdt x.2.2.2.2)]
theorem wkb_eq {T : TypeId} {i : Nat} {o o' : List Stz} {r r' : List (List Fld)} {b b' n n' : Int} (h1 : o = o') (h2 : r = r') (h3 : b = b') (h4 : n = n') : some (Ob.box T [.sl rStz o,.sl (.sl rFld) r,.lit (.int .i64 b),.lit (.int .i64 n),.vec i]) = some (Ob.box T [.sl rStz o',.sl (.sl rFld) r',.lit (.int .i64 b'),.lit (.int .i64 n'),.vec i]):=by rw [h1,h2,h3,h4]
theorem take1_o (a : Stz) (o : List Stz) (f : List Fld) (r : List (List Fld)) (b n : Int) (out : List Edt) (hf : f.length ≤ 1000000) (hl : out.length ≤ 100000) : qX Tryz.prog 74 [.one (.own 0 0),ii .i64 1] (wkO (a :: o,f :: r,b,n,out)) 2 (.tup []) (wkO (o,r,a.1,n,out)) 2:=by
  refine qT (rs:=[]) Tryz.func74 rfl rfl rfl teOk (by decide) rfl ?_;refine qC ?_;refine qB ?_;refine qC ?_;refine qC ?_;refine qB ?_;refine qK rfl (fun h7=>?_) (fun h7=>?_)
  ·try simp only [decide_eq_false_iff_not,Bool.not_eq_true'] at h7
   try simp only [zds] at h7
   refine qC ?_;refine qB ?_;refine zai (by first|omega|assumption|decide|(simp only [];omega)|(simp <;> omega)) ?_;refine qB ?_;refine zai (by first|omega|assumption|decide|(simp only [];omega)|(simp <;> omega)) ?_;refine qC ?_;refine qB ?_;refine qC ?_;refine qC ?_;refine qB ?_;refine qK rfl (fun h24=>?_) (fun h24=>?_)
   ·try simp only [decide_eq_false_iff_not,Bool.not_eq_true'] at h24
    try simp only [zds] at h24
    refine qC ?_;refine qB ?_;refine zai (by first|omega|assumption|decide|(simp only [];omega)|(simp <;> omega)) ?_;refine Or.inl ?_;refine zai (rfl) ?_;refine zei _ (zai (clone_c _ hf) ?_);refine qB ?_;refine zai (by first|omega|assumption|decide|(simp only [];omega)|(simp <;> omega)) ?_;refine qC ?_;refine qC ?_;refine qB ?_;refine qO ?_;refine qC ?_;refine qB ?_;refine qK rfl (fun h41=>?_) (fun h41=>?_)
    ·try simp only [decide_eq_true_eq] at h41
     try simp only [zds] at h41
     simp at h41
    ·try simp only [decide_eq_false_iff_not] at h41
     try simp only [zds] at h41
     refine qC ?_;refine qB ?_;refine qK rfl (fun h55=>?_) (fun h55=>?_)
     ·try simp only [decide_eq_true_eq] at h55
      try simp only [zds] at h55
      simp at h55
     ·try simp only [decide_eq_false_iff_not] at h55
      try simp only [zds] at h55
      refine qC ?_;refine qB ?_;refine qK rfl (fun h68=>?_) (fun h68=>?_)
      ·try simp only [decide_eq_true_eq] at h68
       try simp only [zds] at h68
       simp at h68
      ·try simp only [decide_eq_false_iff_not] at h68
       try simp only [zds] at h68
       refine qM ?_;refine qB ?_;exact ⟨rfl,⟨wkb_eq rfl rfl rfl rfl,rfl⟩,rfl⟩
   ·try simp only [decide_eq_true_eq,Bool.not_eq_false'] at h24
    try simp only [zds] at h24
    simp at h24
  ·try simp only [decide_eq_true_eq,Bool.not_eq_false'] at h7
   try simp only [zds] at h7
   simp at h7
theorem take2_o (a : Stz) (o : List Stz) (f : List Fld) (r : List (List Fld)) (b n : Int) (out : List Edt) (hf : f.length ≤ 1000000) (hl : out.length ≤ 100000) : qX Tryz.prog 74 [.one (.own 0 0),ii .i64 2] (wkO (a :: o,f :: r,b,n,out)) 2 (.tup []) (wkO (o,r,a.1,n,out ++ [(1,a.1,f)])) 2:=by
  refine qT (rs:=[]) Tryz.func74 rfl rfl rfl teOk (by decide) rfl ?_;refine qC ?_;refine qB ?_;refine qC ?_;refine qC ?_;refine qB ?_;refine qK rfl (fun h7=>?_) (fun h7=>?_)
  ·try simp only [decide_eq_false_iff_not,Bool.not_eq_true'] at h7
   try simp only [zds] at h7
   refine qC ?_;refine qB ?_;refine zai (by first|omega|assumption|decide|(simp only [];omega)|(simp <;> omega)) ?_;refine qB ?_;refine zai (by first|omega|assumption|decide|(simp only [];omega)|(simp <;> omega)) ?_;refine qC ?_;refine qB ?_;refine qC ?_;refine qC ?_;refine qB ?_;refine qK rfl (fun h24=>?_) (fun h24=>?_)
   ·try simp only [decide_eq_false_iff_not,Bool.not_eq_true'] at h24
    try simp only [zds] at h24
    refine qC ?_;refine qB ?_;refine zai (by first|omega|assumption|decide|(simp only [];omega)|(simp <;> omega)) ?_;refine Or.inl ?_;refine zai (rfl) ?_;refine zei _ (zai (clone_c _ hf) ?_);refine qB ?_;refine zai (by first|omega|assumption|decide|(simp only [];omega)|(simp <;> omega)) ?_;refine qC ?_;refine qC ?_;refine qB ?_;refine qO ?_;refine qC ?_;refine qB ?_;refine qK rfl (fun h41=>?_) (fun h41=>?_)
    ·try simp only [decide_eq_true_eq] at h41
     try simp only [zds] at h41
     refine qB ?_;refine zai (by exact qP (show out.length + 1 ≤ 1000000000 by omega) (by decide)) ?_;refine qB ?_;exact ⟨rfl,⟨wkb_eq rfl rfl rfl rfl,rfl⟩,rfl⟩
    ·try simp only [decide_eq_false_iff_not] at h41
     try simp only [zds] at h41
     simp at h41
   ·try simp only [decide_eq_true_eq,Bool.not_eq_false'] at h24
    try simp only [zds] at h24
    simp at h24
  ·try simp only [decide_eq_true_eq,Bool.not_eq_false'] at h7
   try simp only [zds] at h7
   simp at h7
theorem take3_o (a : Stz) (o : List Stz) (r : List (List Fld)) (b n : Int) (out : List Edt) (hl : out.length ≤ 100000) : qX Tryz.prog 74 [.one (.own 0 0),ii .i64 3] (wkO (a :: o,r,b,n,out)) 2 (.tup []) (wkO (o,r,b,n,out ++ [(2,a.1,[])])) 2:=by
  refine qT (rs:=[]) Tryz.func74 rfl rfl rfl teOk (by decide) rfl ?_;refine qC ?_;refine qB ?_;refine qC ?_;refine qC ?_;refine qB ?_;refine qK rfl (fun h7=>?_) (fun h7=>?_)
  ·try simp only [decide_eq_false_iff_not,Bool.not_eq_true'] at h7
   try simp only [zds] at h7
   refine qC ?_;refine qB ?_;refine zai (by first|omega|assumption|decide|(simp only [];omega)|(simp <;> omega)) ?_;refine qB ?_;refine zai (by first|omega|assumption|decide|(simp only [];omega)|(simp <;> omega)) ?_;refine qC ?_;refine qB ?_;refine qC ?_;refine qC ?_;refine qB ?_;refine qK rfl (fun h24=>?_) (fun h24=>?_)
   ·try simp only [decide_eq_false_iff_not,Bool.not_eq_true'] at h24
    try simp only [zds] at h24
    simp at h24
   ·try simp only [decide_eq_true_eq,Bool.not_eq_false'] at h24
    try simp only [zds] at h24
    refine qM ?_;refine qC ?_;refine qC ?_;refine qB ?_;refine qO ?_;refine qC ?_;refine qB ?_;refine qK rfl (fun h41=>?_) (fun h41=>?_)
    ·try simp only [decide_eq_true_eq] at h41
     try simp only [zds] at h41
     simp at h41
    ·try simp only [decide_eq_false_iff_not] at h41
     try simp only [zds] at h41
     refine qC ?_;refine qB ?_;refine qK rfl (fun h55=>?_) (fun h55=>?_)
     ·try simp only [decide_eq_true_eq] at h55
      try simp only [zds] at h55
      refine qC ?_;refine qB ?_;refine zai (by exact qP (show out.length + 1 ≤ 1000000000 by omega) (by decide)) ?_;refine qL ?_;exact ⟨rfl,⟨wkb_eq rfl rfl rfl rfl,rfl⟩,rfl⟩
     ·try simp only [decide_eq_false_iff_not] at h55
      try simp only [zds] at h55
      simp at h55
  ·try simp only [decide_eq_true_eq,Bool.not_eq_false'] at h7
   try simp only [zds] at h7
   simp at h7
theorem take4_o (o : List Stz) (f : List Fld) (r : List (List Fld)) (b n : Int) (out : List Edt) (hf : f.length ≤ 1000000) (hl : out.length ≤ 100000) (hn : 0 ≤ n ∧ n ≤ 1000000) : qX Tryz.prog 74 [.one (.own 0 0),ii .i64 4] (wkO (o,f :: r,b,n,out)) 2 (.tup []) (wkO (o,r,n,n + 1,out ++ [(3,b,f)])) 2:=by
  refine qT (rs:=[]) Tryz.func74 rfl rfl rfl teOk (by decide) rfl ?_;refine qC ?_;refine qB ?_;refine qC ?_;refine qC ?_;refine qB ?_;refine qK rfl (fun h7=>?_) (fun h7=>?_)
  ·try simp only [decide_eq_false_iff_not,Bool.not_eq_true'] at h7
   try simp only [zds] at h7
   simp at h7
  ·try simp only [decide_eq_true_eq,Bool.not_eq_false'] at h7
   try simp only [zds] at h7
   refine qM ?_;refine qC ?_;refine qB ?_;refine qC ?_;refine qC ?_;refine qB ?_;refine qK rfl (fun h24=>?_) (fun h24=>?_)
   ·try simp only [decide_eq_false_iff_not,Bool.not_eq_true'] at h24
    try simp only [zds] at h24
    refine qC ?_;refine qB ?_;refine zai (by first|omega|assumption|decide|(simp only [];omega)|(simp <;> omega)) ?_;refine Or.inl ?_;refine zai (rfl) ?_;refine zei _ (zai (clone_c _ hf) ?_);refine qB ?_;refine zai (by first|omega|assumption|decide|(simp only [];omega)|(simp <;> omega)) ?_;refine qC ?_;refine qC ?_;refine qB ?_;refine qO ?_;refine qC ?_;refine qB ?_;refine qK rfl (fun h41=>?_) (fun h41=>?_)
    ·try simp only [decide_eq_true_eq] at h41
     try simp only [zds] at h41
     simp at h41
    ·try simp only [decide_eq_false_iff_not] at h41
     try simp only [zds] at h41
     refine qC ?_;refine qB ?_;refine qK rfl (fun h55=>?_) (fun h55=>?_)
     ·try simp only [decide_eq_true_eq] at h55
      try simp only [zds] at h55
      simp at h55
     ·try simp only [decide_eq_false_iff_not] at h55
      try simp only [zds] at h55
      refine qC ?_;refine qB ?_;refine qK rfl (fun h68=>?_) (fun h68=>?_)
      ·try simp only [decide_eq_true_eq] at h68
       try simp only [zds] at h68
       refine qC ?_;refine yX rfl ?_;refine qJ 0 rfl rfl rfl (by kernel_rfl) ?_;refine qJ 1 rfl rfl rfl (by kernel_rfl) ?_;refine qJ 2 rfl rfl rfl (by kernel_rfl) ?_;refine qJ 3 rfl rfl rfl (by kernel_rfl) ?_;refine qJ 5 rfl rfl rfl (by kernel_rfl) ?_;refine qJ 6 rfl rfl rfl (by kernel_rfl) ?_;refine qJ 7 rfl rfl rfl (by kernel_rfl) ?_;refine qJ 9 rfl rfl rfl (by kernel_rfl) ?_;refine qG [4,8] (by kernel_rfl) rfl ?_;refine zai ?_ ?_
       ·refine qG [8] (by kernel_rfl) rfl ?_;refine qG [10] (by kernel_rfl) rfl ?_;refine qG [11] (by kernel_rfl) rfl ?_;refine qG [12] (by kernel_rfl) rfl ?_;refine zai (by exact qP (show out.length + 1 ≤ 1000000000 by omega) (by decide)) ?_;refine qJ 13 rfl rfl rfl (by kernel_rfl) ?_;refine qJ 14 rfl rfl rfl (by kernel_rfl) ?_;refine qG [15] (by kernel_rfl) rfl ?_;refine qN (by kernel_rfl) ?_;refine qC ?_;refine qB ?_;refine qB ?_;refine zai (by first|omega|assumption|decide|(simp only [];omega)|(simp <;> omega)) ?_;refine qB ?_;exact ⟨rfl,⟨wkb_eq rfl rfl rfl rfl,rfl⟩,rfl⟩
       ·refine qG [4,10] (by kernel_rfl) rfl ?_;refine zai ?_ ?_
        ·refine qG [10] (by kernel_rfl) rfl ?_;refine qG [11] (by kernel_rfl) rfl ?_;refine qG [12] (by kernel_rfl) rfl ?_;refine zai (by exact qP (show out.length + 1 ≤ 1000000000 by omega) (by decide)) ?_;refine qJ 13 rfl rfl rfl (by kernel_rfl) ?_;refine qJ 14 rfl rfl rfl (by kernel_rfl) ?_;refine qG [15] (by kernel_rfl) rfl ?_;refine qN (by kernel_rfl) ?_;refine qC ?_;refine qB ?_;refine qB ?_;refine zai (by first|omega|assumption|decide|(simp only [];omega)|(simp <;> omega)) ?_;refine qB ?_;exact ⟨rfl,⟨wkb_eq rfl rfl rfl rfl,rfl⟩,rfl⟩
        ·refine qG [4,11] (by kernel_rfl) rfl ?_;refine zai ?_ ?_
         ·refine qG [11] (by kernel_rfl) rfl ?_;refine qG [12] (by kernel_rfl) rfl ?_;refine zai (by exact qP (show out.length + 1 ≤ 1000000000 by omega) (by decide)) ?_;refine qJ 13 rfl rfl rfl (by kernel_rfl) ?_;refine qJ 14 rfl rfl rfl (by kernel_rfl) ?_;refine qG [15] (by kernel_rfl) rfl ?_;refine qN (by kernel_rfl) ?_;refine qC ?_;refine qB ?_;refine qB ?_;refine zai (by first|omega|assumption|decide|(simp only [];omega)|(simp <;> omega)) ?_;refine qB ?_;exact ⟨rfl,⟨wkb_eq rfl rfl rfl rfl,rfl⟩,rfl⟩
         ·refine qG [4] (by kernel_rfl) rfl ?_;refine qG [12] (by kernel_rfl) rfl ?_;refine zai (by exact qP (show out.length + 1 ≤ 1000000000 by omega) (by decide)) ?_;refine qJ 13 rfl rfl rfl (by kernel_rfl) ?_;refine qJ 14 rfl rfl rfl (by kernel_rfl) ?_;refine qG [15] (by kernel_rfl) rfl ?_;refine qN (by kernel_rfl) ?_;refine qC ?_;refine qB ?_;refine qB ?_;refine zai (by first|omega|assumption|decide|(simp only [];omega)|(simp <;> omega)) ?_;refine qB ?_;exact ⟨rfl,⟨wkb_eq rfl rfl rfl rfl,rfl⟩,rfl⟩
      ·try simp only [decide_eq_false_iff_not] at h68
       try simp only [zds] at h68
       simp at h68
   ·try simp only [decide_eq_true_eq,Bool.not_eq_false'] at h24
    try simp only [zds] at h24
    simp at h24
theorem take_o {s : Int} {x : StD} (hm : may s x) (hf : ∀ f ∈ x.2.1,f.length ≤ 1000000) (hl : x.2.2.2.2.length ≤ 100000) (hn : 0 ≤ x.2.2.2.1 ∧ x.2.2.2.1 ≤ 1000000) : qX Tryz.prog 74 [.one (.own 0 0),ii .i64 s] (wkO x) 2 (.tup []) (wkO (tkD s x)) 2:=by
  obtain ⟨o,r,b,n,out⟩:=x;rcases hm with ⟨rfl,a,o',f,r',ho,hr⟩|⟨rfl,a,o',f,r',ho,hr⟩|⟨rfl,a,o',ho⟩|⟨rfl,f,r',hr⟩
  · simp only at ho hr;subst ho hr;exact take1_o a o' f r' b n out (hf _ List.mem_cons_self) hl
  · simp only at ho hr;subst ho hr;exact take2_o a o' f r' b n out (hf _ List.mem_cons_self) hl
  · simp only at ho;subst ho;exact take3_o a o' r b n out hl
  · simp only at hr;subst hr;exact take4_o o f r' b n out (hf _ List.mem_cons_self) hl hn
theorem edits_yes {k c : Nat} (L : Lst) (rows : List (List Fld)) (hlk : LOk c L) (hc : c ≤ 900000) (hx : (yW L.1).length ≤ 900) (hy : rows.length ≤ 900) (hfy : ∀ f ∈ rows,yJ f) (h40 : ¬ 40 < (edsL L rows).length) : qU Tryz.prog 40 [.one (.adk k (rLst k) L),.one (.sl (.sl rFld) rows)] (.tup [(false,[.sl rEdt (edsL L rows)]),(false,[.lit .nilIface])]):=by
  have hll:=hlk.len;have hnx:=hlk.next;have hfl : ∀ e ∈ L.1,e.1.2.2.length ≤ 1000000:=fun e he=>Nat.le_trans (hlk.flds e he).1 (by decide)
  have hwy:=way_c (yW L.1) rows hx hy (drow_flds hlk) hfy;have hin:=inD_at L rows;have hmay:=fun j h=>may_at L rows (j:=j) h
  have hal:=runD_all L rows;have hwl:=al_len (Dif.way_al (yW L.1) rows).1
  generalize Dif.wayOf (yW L.1) rows = W at *
  refine qW (rs:=[4,5]) Tryz.func40 rfl rfl rfl teOk rfl ?_;refine qC ?_;refine qB ?_;refine qC ?_;refine qC ?_;refine qB ?_;refine qK rfl (fun h10=>?_) (fun h10=>?_)
  ·try simp only [zbq] at h10
   try simp only [zds] at h10
   simp at h10
  ·skip
   refine qM ?_;refine qC ?_;refine qB ?_;refine Or.inl ?_;refine zai (rfl) ?_;refine zei _ (zai (stanzasL_c L.1 L.2.1 L.2.2 (by omega) hfl) ?_);refine Or.inl ?_;refine zai (rfl) ?_;refine zei _ (zai (next_c L.1 L.2.1 L.2.2) ?_);refine qC ?_;refine qC ?_;refine yE 0 4 46 rEdt rfl rfl rfl ?_;refine qB ?_;refine Or.inl ?_;refine zai (rfl) ?_;refine zei _ (zai (rowsL_c L.1 L.2.1 L.2.2 (by omega) hfl) ?_);refine Or.inl ?_;refine zai (rfl) ?_;refine zei _ (zai (hwy) ?_);intro l4_4
   try simp only [zds] at l4_4
   refine qO ?_;refine qV (fun (j : Nat)=>j ≤ W.length) (fun (j : Nat)=>[(6,.one (.own 0 0)),(22,.one (.sl (.int .i64) W)),(23,ii .i64 W.length),(24,ii .i64 j)]) (fun (j : Nat)=>[(0,.box 132 [.sl rStz (runD (W.take j) (stD0 L rows)).1,.sl (.sl rFld) (runD (W.take j) (stD0 L rows)).2.1,.lit (.int .i64 (runD (W.take j) (stD0 L rows)).2.2.1),.lit (.int .i64 (runD (W.take j) (stD0 L rows)).2.2.2.1),.vec 1]),(1,.vec 46 rEdt (runD (W.take j) (stD0 L rows)).2.2.2.2)]) 2 (fun (j : Nat)=>W.length - j) 0 (Nat.zero_le _) (qQ ⟨rfl,rfl,rfl,rfl⟩ ⟨rfl,rfl⟩ rfl) ?_;intro j hI0;refine qC ?_;refine qB ?_;refine qC ?_;refine qK rfl (fun h25=>?_) (fun h25=>?_)
   ·try simp only [decide_eq_true_eq] at h25
    try simp only [zds] at h25
    have hjl : j < W.length:=(by omega);have hmy:=hmay j hjl;have hst:=runD_take W (stD0 L rows) hjl;have hij:=hin j (by omega);have hil:=hij.len;have hinx:=hij.next;have htk:=take_o hmy (fun f hf=>Nat.le_trans (hfy f (hij.rows f hf)).1 (by decide)) (by omega) (by omega);refine qM ?_;refine qC ?_;refine qO ?_;refine qC ?_;refine qB ?_;refine zai (by first|omega|assumption|decide|(simp only [zds];omega)|(simp <;> omega)) ?_;refine qB ?_;refine Or.inr (Or.inl (zei [] (zei [0,1] (zei _ (zei _ (zei _ (zei _ (zei _ (zai (htk) (zai rfl (zai (zai (zai rfl rfl) (zai (zai rfl rfl) True.intro)) (zai rfl ?_))))))))))));refine qB ?_;refine zai (by first|omega|assumption|decide|(simp only [zds];omega)|(simp <;> omega)) ?_;exact ⟨j + 1,by omega,by first|omega|(simp <;> omega),qQ ⟨rfl,rfl,rfl,(qR (by omega))⟩ ⟨(wkb_eq (by rw [hst]) (by rw [hst]) (by rw [hst]) (by rw [hst])),(qS (by rw [hst]))⟩ rfl⟩
   ·try simp only [decide_eq_false_iff_not,Int.not_lt] at h25
    try simp only [zds] at h25
    refine qZ ?_;rw [List.take_of_length_le (show W.length ≤ j by omega),hal];refine qC ?_;refine qC ?_;refine qB ?_;intro l9_4
    try simp only [zds] at l9_4
    refine qK rfl (fun h37=>?_) (fun h37=>?_)
    ·try simp only [decide_eq_true_eq] at h37
     try simp only [zds] at h37
     exfalso
     omega
    ·try simp only [decide_eq_false_iff_not,Int.not_lt] at h37
     try simp only [zds] at h37
     refine qM ?_;refine qC ?_;refine qB ?_;refine qL ?_;rfl
theorem edits_many {k c : Nat} (L : Lst) (rows : List (List Fld)) (hlk : LOk c L) (hc : c ≤ 900000) (hx : (yW L.1).length ≤ 900) (hy : rows.length ≤ 900) (hfy : ∀ f ∈ rows,yJ f) (h40 : 40 < (edsL L rows).length) : qU Tryz.prog 40 [.one (.adk k (rLst k) L),.one (.sl (.sl rFld) rows)] (.tup [(false,[.lit (.slice none 0 0)]),(false,[errN 1])]):=by
  have hll:=hlk.len;have hnx:=hlk.next;have hfl : ∀ e ∈ L.1,e.1.2.2.length ≤ 1000000:=fun e he=>Nat.le_trans (hlk.flds e he).1 (by decide)
  have hwy:=way_c (yW L.1) rows hx hy (drow_flds hlk) hfy;have hin:=inD_at L rows;have hmay:=fun j h=>may_at L rows (j:=j) h
  have hal:=runD_all L rows;have hwl:=al_len (Dif.way_al (yW L.1) rows).1
  generalize Dif.wayOf (yW L.1) rows = W at *
  refine qW (rs:=[4,5]) Tryz.func40 rfl rfl rfl teOk rfl ?_;refine qC ?_;refine qB ?_;refine qC ?_;refine qC ?_;refine qB ?_;refine qK rfl (fun h10=>?_) (fun h10=>?_)
  ·try simp only [zbq] at h10
   try simp only [zds] at h10
   simp at h10
  ·skip
   refine qM ?_;refine qC ?_;refine qB ?_;refine Or.inl ?_;refine zai (rfl) ?_;refine zei _ (zai (stanzasL_c L.1 L.2.1 L.2.2 (by omega) hfl) ?_);refine Or.inl ?_;refine zai (rfl) ?_;refine zei _ (zai (next_c L.1 L.2.1 L.2.2) ?_);refine qC ?_;refine qC ?_;refine yE 0 4 46 rEdt rfl rfl rfl ?_;refine qB ?_;refine Or.inl ?_;refine zai (rfl) ?_;refine zei _ (zai (rowsL_c L.1 L.2.1 L.2.2 (by omega) hfl) ?_);refine Or.inl ?_;refine zai (rfl) ?_;refine zei _ (zai (hwy) ?_);intro l4_4
   try simp only [zds] at l4_4
   refine qO ?_;refine qV (fun (j : Nat)=>j ≤ W.length) (fun (j : Nat)=>[(6,.one (.own 0 0)),(22,.one (.sl (.int .i64) W)),(23,ii .i64 W.length),(24,ii .i64 j)]) (fun (j : Nat)=>[(0,.box 132 [.sl rStz (runD (W.take j) (stD0 L rows)).1,.sl (.sl rFld) (runD (W.take j) (stD0 L rows)).2.1,.lit (.int .i64 (runD (W.take j) (stD0 L rows)).2.2.1),.lit (.int .i64 (runD (W.take j) (stD0 L rows)).2.2.2.1),.vec 1]),(1,.vec 46 rEdt (runD (W.take j) (stD0 L rows)).2.2.2.2)]) 2 (fun (j : Nat)=>W.length - j) 0 (Nat.zero_le _) (qQ ⟨rfl,rfl,rfl,rfl⟩ ⟨rfl,rfl⟩ rfl) ?_;intro j hI0;refine qC ?_;refine qB ?_;refine qC ?_;refine qK rfl (fun h25=>?_) (fun h25=>?_)
   ·try simp only [decide_eq_true_eq] at h25
    try simp only [zds] at h25
    have hjl : j < W.length:=(by omega);have hmy:=hmay j hjl;have hst:=runD_take W (stD0 L rows) hjl;have hij:=hin j (by omega);have hil:=hij.len;have hinx:=hij.next;have htk:=take_o hmy (fun f hf=>Nat.le_trans (hfy f (hij.rows f hf)).1 (by decide)) (by omega) (by omega);refine qM ?_;refine qC ?_;refine qO ?_;refine qC ?_;refine qB ?_;refine zai (by first|omega|assumption|decide|(simp only [zds];omega)|(simp <;> omega)) ?_;refine qB ?_;refine Or.inr (Or.inl (zei [] (zei [0,1] (zei _ (zei _ (zei _ (zei _ (zei _ (zai (htk) (zai rfl (zai (zai (zai rfl rfl) (zai (zai rfl rfl) True.intro)) (zai rfl ?_))))))))))));refine qB ?_;refine zai (by first|omega|assumption|decide|(simp only [zds];omega)|(simp <;> omega)) ?_;exact ⟨j + 1,by omega,by first|omega|(simp <;> omega),qQ ⟨rfl,rfl,rfl,(qR (by omega))⟩ ⟨(wkb_eq (by rw [hst]) (by rw [hst]) (by rw [hst]) (by rw [hst])),(qS (by rw [hst]))⟩ rfl⟩
   ·try simp only [decide_eq_false_iff_not,Int.not_lt] at h25
    try simp only [zds] at h25
    refine qZ ?_;rw [List.take_of_length_le (show W.length ≤ j by omega),hal];refine qC ?_;refine qC ?_;refine qB ?_;intro l9_4
    try simp only [zds] at l9_4
    refine qK rfl (fun h37=>?_) (fun h37=>?_)
    ·try simp only [decide_eq_true_eq] at h37
     try simp only [zds] at h37
     refine qC ?_;refine qB ?_;refine qL ?_;rfl
    ·try simp only [decide_eq_false_iff_not,Int.not_lt] at h37
     try simp only [zds] at h37
     exfalso
     omega
theorem rRows_c (es : List Ent) (n : Int) (hl : es.length ≤ 1000000) : qU Tryz.prog 44 [.agg (toL rRL (es,n))] (.one (.sl (.sl rFld) (yW es))):=by
  have hsl:=stzL_le es;refine qW (rs:=[2]) Tryz.func44 rfl rfl rfl teOk rfl ?_;refine qC ?_;refine qB ?_;refine qC ?_;refine qB ?_;refine qC ?_;refine yZ 3 44 (.sl rFld) rfl ?_;refine qB ?_;refine Or.inl ?_;refine zai (rfl) ?_;refine zei _ (zai (refStz_c es n hl) ?_);refine qC ?_;refine qC ?_;refine qB ?_;refine qO ?_;refine qV (fun (i : Nat)=>i ≤ (stzL es).length) (fun (i : Nat)=>[(3,.one (.vec 1)),(4,.one (.sl rStz (stzL es))),(5,ii .i64 i)]) (fun (i : Nat)=>[(0,.box 28 (toL rRL (es,n))),(1,.vec 44 (.sl rFld) (((stzL es).take i).map (·.2)))]) 2 (fun (i : Nat)=>(stzL es).length - i) 0 (Nat.zero_le _) (qQ ⟨rfl,rfl,rfl⟩ ⟨rfl,rfl⟩ rfl) ?_;intro i hI0;refine qC ?_;refine qC ?_;refine qB ?_;intro l4_2
  try simp only [zds] at l4_2
  refine qK rfl (fun h11=>?_) (fun h11=>?_)
  ·try simp only [decide_eq_true_eq] at h11
   try simp only [zds] at h11
   have hil : i < (stzL es).length:=(by omega);refine qM ?_;refine qC ?_;refine qO ?_;refine qB ?_;refine zai (by first|omega|assumption|decide|(simp only [zds];omega)|(simp <;> omega)) ?_;refine zai (by exact qP (show (((stzL es).take i).map (·.2)).length + 1 ≤ 1000000000 by rw [List.length_map,List.length_take];omega) (by decide)) ?_;refine qB ?_;refine zai (by first|omega|assumption|decide|(simp only [zds];omega)|(simp <;> omega)) ?_;exact ⟨i + 1,by omega,by first|omega|(simp <;> omega),qQ ⟨rfl,rfl,(qR (by omega))⟩ ⟨rfl,(qS (by rw [← yI ((0 : Int),([] : List Fld)) hil,List.map_append];exact rfl))⟩ rfl⟩
  ·try simp only [decide_eq_false_iff_not,Int.not_lt] at h11
   try simp only [zds] at h11
   refine qZ ?_;refine qC ?_;refine qB ?_;refine qL ?_;rw [List.take_of_length_le (by omega)];exact rfl
theorem refEdits_c {c : Nat} (L : Lst) (rows : List (List Fld)) (hlk : LOk c L) (hc : c ≤ 900000) (hx : (yW L.1).length ≤ 900) (hy : rows.length ≤ 900) (hfy : ∀ f ∈ rows,yJ f) : qU Tryz.prog 41 [.agg (toL rRL (L.1,L.2.1)),.one (.sl (.sl rFld) rows)] (.one (.sl rEdt (edsL L rows))):=by
  have hll:=hlk.len;have hnx:=hlk.next;have hwy:=refWay_c (yW L.1) rows hx hy (drow_flds hlk) hfy;have hin:=inD_at L rows;have hmay:=fun j h=>may_at L rows (j:=j) h
  have hal:=runD_all L rows;have hwl:=al_len (Dif.way_al (yW L.1) rows).1;have hsl : (stzL L.1).length = (yW L.1).length:=by rw [rows_stz,List.length_map]
  generalize Dif.wayOf (yW L.1) rows = W at *
  refine qW (rs:=[4]) Tryz.func41 rfl rfl rfl teOk rfl ?_;refine qC ?_;refine qB ?_;refine qC ?_;refine qB ?_;refine Or.inl ?_;refine zai (rfl) ?_;refine zei _ (zai (refStz_c L.1 L.2.1 (by omega)) ?_);refine qC ?_;refine qB ?_;refine Or.inl ?_;refine zai (rfl) ?_;refine zei _ (zai (rRows_c L.1 L.2.1 (by omega)) ?_);refine Or.inl ?_;refine zai (rfl) ?_;refine zei _ (zai (hwy) ?_);refine qC ?_;refine qB ?_;refine qC ?_;refine yZ 7 46 rEdt rfl ?_;refine qB ?_;refine qC ?_;refine qB ?_;refine qC ?_;refine qB ?_;refine qC ?_;refine qB ?_;refine qC ?_;refine qC ?_;refine qB ?_;refine qO ?_;refine qV (fun (x : Nat × Nat × Nat)=>x.1 ≤ W.length ∧ (runD (W.take x.1) (stD0 L rows)).1 = (stzL L.1).drop x.2.1 ∧ (runD (W.take x.1) (stD0 L rows)).2.1 = rows.drop x.2.2 ∧ x.2.1 ≤ (stzL L.1).length ∧ x.2.2 ≤ rows.length) (fun (x : Nat × Nat × Nat)=>[(1,.one (.sl (.sl rFld) rows)),(5,.one (.sl rStz (stzL L.1))),(6,.one (.sl (.int .i64) W)),(7,.one (.vec 1)),(8,ii .i64 x.2.1),(9,ii .i64 x.2.2),(10,ii .i64 (runD (W.take x.1) (stD0 L rows)).2.2.1),(11,ii .i64 (runD (W.take x.1) (stD0 L rows)).2.2.2.1),(12,ii .i64 x.1)]) (fun (x : Nat × Nat × Nat)=>[(0,.box 28 (toL rRL (L.1,L.2.1))),(1,.vec 46 rEdt (runD (W.take x.1) (stD0 L rows)).2.2.2.2)]) 2 (fun (x : Nat × Nat × Nat)=>W.length - x.1) (0,0,0) (⟨Nat.zero_le _,rfl,rfl,Nat.zero_le _,Nat.zero_le _⟩) (qQ ⟨rfl,rfl,rfl,rfl,rfl,rfl,rfl,rfl,rfl⟩ ⟨rfl,rfl⟩ rfl) ?_;intro x hI0;obtain ⟨hj,hx1,hx2,hxi,hxj⟩:=hI0;refine qC ?_;refine qC ?_;refine qB ?_;intro l9_2
  try simp only [zds] at l9_2
  refine qK rfl (fun h24=>?_) (fun h24=>?_)
  ·try simp only [decide_eq_true_eq] at h24
   try simp only [zds] at h24
   have hjl : x.1 < W.length:=(by omega);have hmy:=hmay x.1 hjl;have hst:=runD_take W (stD0 L rows) hjl;have hij:=hin x.1 (by omega);have hil:=hij.len;have hinx:=hij.next;refine qM ?_;refine qC ?_;refine qO ?_;refine qC ?_;refine qB ?_;refine zai (by first|omega|assumption|decide|(simp only [zds];omega)|(simp <;> omega)) ?_;refine qK rfl (fun h31=>?_) (fun h31=>?_)
   ·try simp only [decide_eq_true_eq] at h31
    try simp only [Int.toNat_natCast,qE] at h31
    rw [h31] at hst hmy;obtain ⟨q1,q2⟩:=ref_step hmy hx1 hx2;obtain ⟨i1,i2,i3⟩:=q1 (by decide);obtain ⟨j1,j2,j3⟩:=q2 (by decide);rw [tk1] at hst;refine qC ?_;refine qB ?_;refine zai (by first|omega|assumption|decide|(simp only [zds];omega)|(simp <;> omega)) ?_;refine qC ?_;refine qB ?_;refine zai (by first|omega|assumption|decide|(simp only [zds];omega)|(simp <;> omega)) ?_;refine qB ?_;refine zai (by first|omega|assumption|decide|(simp only [zds];omega)|(simp <;> omega)) ?_;refine qB ?_;refine zai (by first|omega|assumption|decide|(simp only [zds];omega)|(simp <;> omega)) ?_;exact ⟨(x.1 + 1,x.2.1 + 1,x.2.2 + 1),⟨hjl,by rw [hst];exact i3,by rw [hst];exact j3,i1,j1⟩,by first|omega|(simp <;> omega),qQ ⟨rfl,rfl,rfl,rfl,(qR (show (x.2.1 : Int) + 1 = ((x.2.1 + 1 : Nat) : Int) by omega)),(qR (show (x.2.2 : Int) + 1 = ((x.2.2 + 1 : Nat) : Int) by omega)),(qR (by rw [hst];exact i2)),(qR (by rw [hst])),(qR (by omega))⟩ ⟨rfl,(qS (by rw [hst]))⟩ rfl⟩
   ·try simp only [decide_eq_false_iff_not] at h31
    try simp only [Int.toNat_natCast,qE] at h31
    refine qC ?_;refine qB ?_;refine zai (by first|omega|assumption|decide|(simp only [zds];omega)|(simp <;> omega)) ?_;refine qK rfl (fun h45=>?_) (fun h45=>?_)
    ·try simp only [decide_eq_true_eq] at h45
     try simp only [Int.toNat_natCast,qE] at h45
     rw [h45] at hst hmy;obtain ⟨q1,q2⟩:=ref_step hmy hx1 hx2;obtain ⟨i1,i2,i3⟩:=q1 (by decide);obtain ⟨j1,j2,j3⟩:=q2 (by decide);rw [tk2] at hst;refine qC ?_;refine yX rfl ?_;refine qJ 0 rfl rfl rfl (by kernel_rfl) ?_;refine qJ 1 rfl rfl rfl (by kernel_rfl) ?_;refine qJ 2 rfl rfl rfl (by kernel_rfl) ?_;refine qJ 3 rfl rfl rfl (by kernel_rfl) ?_;refine zai (by first|omega|assumption|decide|(simp only [zds];omega)|(simp <;> omega)) ?_;refine qJ 4 rfl rfl rfl (by kernel_rfl) ?_;refine qJ 6 rfl rfl rfl (by kernel_rfl) ?_;refine qJ 7 rfl rfl rfl (by kernel_rfl) ?_;refine qJ 8 rfl rfl rfl (by kernel_rfl) ?_;refine zai (by first|omega|assumption|decide|(simp only [zds];omega)|(simp <;> omega)) ?_;refine qG [5,9] (by kernel_rfl) rfl ?_;refine zai ?_ ?_
     ·refine qG [9] (by kernel_rfl) rfl ?_;refine qG [10] (by kernel_rfl) rfl ?_;refine qG [11] (by kernel_rfl) rfl ?_;refine qG [12] (by kernel_rfl) rfl ?_;refine zai (by exact qP (show (runD (W.take x.1) (stD0 L rows)).2.2.2.2.length + 1 ≤ 1000000000 by omega) (by decide)) ?_;refine qJ 13 rfl rfl rfl (by kernel_rfl) ?_;refine qN (by kernel_rfl) ?_;refine qC ?_;refine qB ?_;refine zai (by first|omega|assumption|decide|(simp only [zds];omega)|(simp <;> omega)) ?_;refine qC ?_;refine qB ?_;refine zai (by first|omega|assumption|decide|(simp only [zds];omega)|(simp <;> omega)) ?_;refine qB ?_;refine zai (by first|omega|assumption|decide|(simp only [zds];omega)|(simp <;> omega)) ?_;refine qB ?_;refine zai (by first|omega|assumption|decide|(simp only [zds];omega)|(simp <;> omega)) ?_;exact ⟨(x.1 + 1,x.2.1 + 1,x.2.2 + 1),⟨hjl,by rw [hst];exact i3,by rw [hst];exact j3,i1,j1⟩,by first|omega|(simp <;> omega),qQ ⟨rfl,rfl,rfl,rfl,(qR (show (x.2.1 : Int) + 1 = ((x.2.1 + 1 : Nat) : Int) by omega)),(qR (show (x.2.2 : Int) + 1 = ((x.2.2 + 1 : Nat) : Int) by omega)),(qR (by rw [hst];exact i2)),(qR (by rw [hst])),(qR (by omega))⟩ ⟨rfl,(qS (by rw [hst,← i2,← j2];exact rfl))⟩ rfl⟩
     ·refine qG [5] (by kernel_rfl) rfl ?_;refine qG [10] (by kernel_rfl) rfl ?_;refine qG [11] (by kernel_rfl) rfl ?_;refine qG [12] (by kernel_rfl) rfl ?_;refine zai (by exact qP (show (runD (W.take x.1) (stD0 L rows)).2.2.2.2.length + 1 ≤ 1000000000 by omega) (by decide)) ?_;refine qJ 13 rfl rfl rfl (by kernel_rfl) ?_;refine qN (by kernel_rfl) ?_;refine qC ?_;refine qB ?_;refine zai (by first|omega|assumption|decide|(simp only [zds];omega)|(simp <;> omega)) ?_;refine qC ?_;refine qB ?_;refine zai (by first|omega|assumption|decide|(simp only [zds];omega)|(simp <;> omega)) ?_;refine qB ?_;refine zai (by first|omega|assumption|decide|(simp only [zds];omega)|(simp <;> omega)) ?_;refine qB ?_;refine zai (by first|omega|assumption|decide|(simp only [zds];omega)|(simp <;> omega)) ?_;exact ⟨(x.1 + 1,x.2.1 + 1,x.2.2 + 1),⟨hjl,by rw [hst];exact i3,by rw [hst];exact j3,i1,j1⟩,by first|omega|(simp <;> omega),qQ ⟨rfl,rfl,rfl,rfl,(qR (show (x.2.1 : Int) + 1 = ((x.2.1 + 1 : Nat) : Int) by omega)),(qR (show (x.2.2 : Int) + 1 = ((x.2.2 + 1 : Nat) : Int) by omega)),(qR (by rw [hst];exact i2)),(qR (by rw [hst])),(qR (by omega))⟩ ⟨rfl,(qS (by rw [hst,← i2,← j2];exact rfl))⟩ rfl⟩
    ·try simp only [decide_eq_false_iff_not] at h45
     try simp only [Int.toNat_natCast,qE] at h45
     refine qC ?_;refine qB ?_;refine zai (by first|omega|assumption|decide|(simp only [zds];omega)|(simp <;> omega)) ?_;refine qK rfl (fun h72=>?_) (fun h72=>?_)
     ·try simp only [decide_eq_true_eq] at h72
      try simp only [Int.toNat_natCast,qE] at h72
      rw [h72] at hst hmy;obtain ⟨q1,q2⟩:=ref_step hmy hx1 hx2;obtain ⟨i1,i2,i3⟩:=q1 (by decide);rw [tk3] at hst;refine qC ?_;refine qB ?_;refine zai (by first|omega|assumption|decide|(simp only [zds];omega)|(simp <;> omega)) ?_;refine zai (by exact qP (show (runD (W.take x.1) (stD0 L rows)).2.2.2.2.length + 1 ≤ 1000000000 by omega) (by decide)) ?_;refine qB ?_;refine zai (by first|omega|assumption|decide|(simp only [zds];omega)|(simp <;> omega)) ?_;refine qB ?_;refine zai (by first|omega|assumption|decide|(simp only [zds];omega)|(simp <;> omega)) ?_;exact ⟨(x.1 + 1,x.2.1 + 1,x.2.2),⟨hjl,by rw [hst];exact i3,by rw [hst];exact hx2,i1,hxj⟩,by first|omega|(simp <;> omega),qQ ⟨rfl,rfl,rfl,rfl,(qR (show (x.2.1 : Int) + 1 = ((x.2.1 + 1 : Nat) : Int) by omega)),rfl,(qR (by rw [hst])),(qR (by rw [hst])),(qR (by omega))⟩ ⟨rfl,(qS (by rw [hst,← i2];exact rfl))⟩ rfl⟩
     ·try simp only [decide_eq_false_iff_not] at h72
      try simp only [Int.toNat_natCast,qE] at h72
      have h4:=may4 hmy h31 h45 h72;rw [h4] at hst hmy;obtain ⟨q1,q2⟩:=ref_step hmy hx1 hx2;obtain ⟨j1,j2,j3⟩:=q2 (by decide);rw [tk4] at hst;refine qC ?_;refine qB ?_;refine zai (by first|omega|assumption|decide|(simp only [zds];omega)|(simp <;> omega)) ?_;refine zai (by exact qP (show (runD (W.take x.1) (stD0 L rows)).2.2.2.2.length + 1 ≤ 1000000000 by omega) (by decide)) ?_;refine qC ?_;refine qB ?_;refine qC ?_;refine qB ?_;refine zai (by first|omega|assumption|decide|(simp only [zds];omega)|(simp <;> omega)) ?_;refine qB ?_;refine zai (by first|omega|assumption|decide|(simp only [zds];omega)|(simp <;> omega)) ?_;refine qB ?_;refine zai (by first|omega|assumption|decide|(simp only [zds];omega)|(simp <;> omega)) ?_;exact ⟨(x.1 + 1,x.2.1,x.2.2 + 1),⟨hjl,by rw [hst];exact hx1,by rw [hst];exact j3,hxi,j1⟩,by first|omega|(simp <;> omega),qQ ⟨rfl,rfl,rfl,rfl,rfl,(qR (show (x.2.2 : Int) + 1 = ((x.2.2 + 1 : Nat) : Int) by omega)),(qR (by rw [hst])),(qR (by rw [hst])),(qR (by omega))⟩ ⟨rfl,(qS (by rw [hst,← j2];exact rfl))⟩ rfl⟩
  ·try simp only [decide_eq_false_iff_not,Int.not_lt] at h24
   try simp only [zds] at h24
   refine qZ ?_;rw [List.take_of_length_le (show W.length ≤ x.1 by omega),hal];refine qC ?_;refine qB ?_;refine qL ?_;rfl
def clashX (next : Int) (a : List Edt) (x : Edt) : Bool:=decide (x.2.1 < next) && clsh a x
def clashI (next : Int) (a b : List Edt) : Int:=ixOf (clashX next a) b
def mrgN (L : Lst) (a b : List Edt) : Int × Int :=
  if (doR L a).2 ≠ 0 then doR L a else if (doR L b).2 ≠ 0 then doR L b else if 0 ≤ clashI L.2.1 a b then (clashI L.2.1 a b,13) else if 40 < (a ++ rebB L.2.1 a b).length then (-9,1) else (-9,0)
abbrev nilE : Bool × List C:=(false,[.lit (.slice none 0 0)])
end Q
end Ab
end Go.Proofs.YtpfkncffaanjcaaGreatDoor
