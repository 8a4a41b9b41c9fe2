/-
  The texts of this proof, joined: abstract values, the library, the functions of the program and what they compute (part 6). No condition.
-/
import Derived.Shelf.Vars
import Derived.KernelRfl
import Derived.Test.YtojipboabgebfaaGreatDoorK1
import Derived.Test.YtojipboabgebfaaGreatDoorK2
import Derived.Test.YtojipboabgebfaaGreatDoorK3
import Derived.Test.YtojipboabgebfaaGreatDoorK4
import Derived.Test.YtojipboabgebfaaGreatDoorK5
namespace Go.Proofs.YtojipboabgebfaaGreatDoor
open Go.RowKit
namespace Ab
namespace Q
def gvL : Int → List Edt → List Int
  | _,[]=>[]
  | n,x :: r=>(if x.1 = 3 then n else 0) :: gvL (upN n x) r
theorem gvL_len : ∀ (n : Int) (l : List Edt),(gvL n l).length = l.length
  | _,[]=>rfl
  | n,x :: r=>by simp only [gvL,List.length_cons,gvL_len (upN n x) r]
theorem gvL_get : ∀ (n : Int) (l : List Edt) (i : Nat),i < l.length → (gvL n l).getD i 0 = if (l.getD i ((0 : Int),(0 : Int),([] : List Fld))).1 = 3 then n + (insC (l.take i) : Int) else 0
  | _,[],i,h=>absurd h (Nat.not_lt_zero _)
  | n,x :: r,0,_=>by simp [gvL,insC]
  | n,x :: r,i + 1,h=>by
    have ih:=gvL_get (upN n x) r i (by simpa using h);show (gvL (upN n x) r).getD i 0 = if (r.getD i ((0 : Int),(0 : Int),([] : List Fld))).1 = 3 then n + (insC (x :: r.take i) : Int) else 0
    rw [ih];simp only [insC];unfold upN
    by_cases h3 : x.1 = 3
    · rw [if_pos h3,if_pos h3];split <;> omega
    · rw [if_neg h3,if_neg h3];split <;> omega
theorem gv_step (n : Int) (l : List Edt) {i : Nat} (h : i < l.length) (y : Int) (hy : (gvL n l).getD i 0 = y) : ((gvL n l).take i ++ [0]).set i y = (gvL n l).take (i + 1):=by
  have hl : i < (gvL n l).length:=by rw [gvL_len];exact h
  have e : ((gvL n l).take i).length = i:=by rw [List.length_take];omega
  rw [← yG (0 : Int) hl,hy,List.set_append_right _ _ (by omega),e,Nat.sub_self];rfl
theorem gv_step0 (n : Int) (l : List Edt) {i : Nat} (h : i < l.length) (hy : (gvL n l).getD i 0 = 0) : (gvL n l).take i ++ [0] = (gvL n l).take (i + 1):=by
  have hl : i < (gvL n l).length:=by rw [gvL_len];exact h
  rw [← yG (0 : Int) hl,hy]
def sqD (f : Int) : Int → List Edt → Nat → List Edt
  | _,_,0=>[]
  | _,[],_ + 1=>[]
  | n,x :: r,i + 1=>(if xO f (upN n x) (yS r) x then [xG (upN n x) (yS r) x] else []) ++ sqD f (upN n x) r i
theorem sqD_all (f : Int) : ∀ (n : Int) (l : List Edt),sqD f n l l.length = sqL f n l
  | _,[]=>rfl
  | n,x :: r=>by
    show (if xO f (upN n x) (yS r) x then [xG (upN n x) (yS r) x] else []) ++ sqD f (upN n x) r r.length = _;rw [sqD_all f (upN n x) r];rfl
theorem sqD_snoc (f : Int) : ∀ (n : Int) (l : List Edt) (i : Nat),i < l.length → sqD f n l (i + 1) = sqD f n l i ++
    (if xO f (n + (insC (l.take (i + 1)) : Int)) (yS (l.drop (i + 1))) (l.getD i ((0 : Int),(0 : Int),([] : List Fld))) = true then [xG (n + (insC (l.take (i + 1)) : Int)) (yS (l.drop (i + 1))) (l.getD i ((0 : Int),(0 : Int),([] : List Fld)))] else [])
  | _,[],i,h=>absurd h (Nat.not_lt_zero _)
  | n,x :: r,0,_=>by
    have e : n + (insC ((x :: r).take (0 + 1)) : Int) = upN n x:=by
      simp only [List.take_succ_cons,List.take_zero,insC];unfold upN;split <;> omega
    rw [e];show (if xO f (upN n x) (yS r) x then [xG (upN n x) (yS r) x] else []) ++ sqD f (upN n x) r 0 = [] ++ _;rw [show sqD f (upN n x) r 0 = [] by cases r <;> rfl,List.append_nil,List.nil_append];rfl
  | n,x :: r,i + 1,h=>by
    have ih:=sqD_snoc f (upN n x) r i (by simpa using h);have e : n + (insC ((x :: r).take (i + 1 + 1)) : Int) = upN n x + (insC (r.take (i + 1)) : Int):=by
      simp only [List.take_succ_cons,insC];unfold upN;split <;> omega
    rw [e];show (if xO f (upN n x) (yS r) x then [xG (upN n x) (yS r) x] else []) ++ sqD f (upN n x) r (i + 1) = ((if xO f (upN n x) (yS r) x then [xG (upN n x) (yS r) x] else []) ++ sqD f (upN n x) r i) ++ _;rw [ih,List.append_assoc];rfl
theorem sqD_le (f : Int) : ∀ (n : Int) (l : List Edt) (i : Nat),(sqD f n l i).length ≤ i
  | _,_,0=>by simp [sqD]
  | _,[],_ + 1=>by simp [sqD]
  | n,x :: r,i + 1=>by
    have:=sqD_le f (upN n x) r i;rw [sqD,List.length_append];have h2 : ∀ (b : Bool) (y : Edt),(if b then [y] else []).length ≤ 1:=by intro b y;cases b <;> simp
    have h3:=h2 (xO f (upN n x) (yS r) x) (xG (upN n x) (yS r) x);omega
def drp (l : List Edt) (gv : List Int) (i : Nat) (id : Int) : Nat → Bool
  | 0=>false
  | k + 1=>drp l gv i id k || (decide ((i : Int) < (k : Int)) && (decide ((l.getD k ((0 : Int),(0 : Int),([] : List Fld))).1 = 1) || decide ((l.getD k ((0 : Int),(0 : Int),([] : List Fld))).1 = 2)) && decide ((l.getD k ((0 : Int),(0 : Int),([] : List Fld))).2.1 = id)) || (decide ((k : Int) < (i : Int)) && decide ((l.getD k ((0 : Int),(0 : Int),([] : List Fld))).1 = 3) && decide (gv.getD k 0 = id))
theorem drp_iff (l : List Edt) (gv : List Int) (i : Nat) (id : Int) : ∀ j,drp l gv i id j = true ↔ ∃ k,k < j ∧ ((i < k ∧ ((l.getD k ((0 : Int),(0 : Int),([] : List Fld))).1 = 1 ∨ (l.getD k ((0 : Int),(0 : Int),([] : List Fld))).1 = 2) ∧ (l.getD k ((0 : Int),(0 : Int),([] : List Fld))).2.1 = id) ∨ (k < i ∧ (l.getD k ((0 : Int),(0 : Int),([] : List Fld))).1 = 3 ∧ gv.getD k 0 = id))
  | 0=>by simp [drp]
  | j + 1=>by
    have ih:=drp_iff l gv i id j;simp only [drp,Bool.or_eq_true,Bool.and_eq_true,decide_eq_true_eq,ih]
    constructor
    · rintro ((⟨k,hk,h⟩|⟨⟨h1,h2⟩,h3⟩)|⟨⟨h1,h2⟩,h3⟩)
      · exact ⟨k,by omega,h⟩
      · exact ⟨j,by omega,.inl ⟨by omega,h2,h3⟩⟩
      · exact ⟨j,by omega,.inr ⟨by omega,h2,h3⟩⟩
    · rintro ⟨k,hk,h⟩
      by_cases e : k < j
      · exact .inl (.inl ⟨k,e,h⟩)
      · obtain rfl : k = j:=by omega
        rcases h with ⟨h1,h2,h3⟩|⟨h1,h2,h3⟩
        · exact .inl (.inr ⟨⟨by omega,h2⟩,h3⟩)
        · exact .inr ⟨⟨by omega,h2⟩,h3⟩
theorem given_iff (f : Int) (l : List Edt) (id : Int) : ∀ i,i ≤ l.length → ((∃ k,k < i ∧ (l.getD k ((0 : Int),(0 : Int),([] : List Fld))).1 = 3 ∧ (gvL f l).getD k 0 = id) ↔ f ≤ id ∧ id < f + (insC (l.take i) : Int))
  | 0,_=>by
    constructor
    · rintro ⟨k,hk,_⟩;omega
    · intro h;have h2:=h.2;simp only [List.take_zero,insC] at h2;omega
  | i + 1,h=>by
    have ih:=given_iff f l id i (by omega);have hs:=insC_snoc (l:=l) (i:=i) (by omega);have hg:=gvL_get f l i (by omega)
    constructor
    · rintro ⟨k,hk,h1,h2⟩
      by_cases e : k < i
      · have:=ih.1 ⟨k,e,h1,h2⟩;rw [hs];split <;> omega
      · obtain rfl : k = i:=by omega
        rw [if_pos h1] at hg hs;rw [hs];omega
    · intro h3
      by_cases e : id < f + (insC (l.take i) : Int)
      · obtain ⟨k,hk,h1⟩:=ih.2 ⟨h3.1,e⟩;exact ⟨k,by omega,h1⟩
      · rw [hs] at h3
        by_cases h1 : (l.getD i ((0 : Int),(0 : Int),([] : List Fld))).1 = 3
        · rw [if_pos h1] at h3 hg;exact ⟨i,by omega,h1,by omega⟩
        · rw [if_neg h1] at h3;omega
theorem later_iff (l : List Edt) (id : Int) (i : Nat) : (∃ k,k < l.length ∧ i < k ∧ ((l.getD k ((0 : Int),(0 : Int),([] : List Fld))).1 = 1 ∨ (l.getD k ((0 : Int),(0 : Int),([] : List Fld))).1 = 2) ∧ (l.getD k ((0 : Int),(0 : Int),([] : List Fld))).2.1 = id) ↔ (fate id (l.drop (i + 1))).isSome = true:=by
  rw [← Option.ne_none_iff_isSome]
  constructor
  · rintro ⟨k,hk,h1,h2⟩ hn
    rw [fate_none] at hn;refine hn (l.getD k ((0 : Int),(0 : Int),([] : List Fld))) ?_ h2;rw [← getD_get hk ((0 : Int),(0 : Int),([] : List Fld)),List.mem_iff_getElem];exact ⟨k - (i + 1),by rw [List.length_drop];omega,by rw [List.getElem_drop];congr 1;omega⟩
  · intro hn;refine Classical.byContradiction fun hx=>hn (fate_none.2 fun x hxm h2=>hx ?_)
    obtain ⟨k,hk,rfl⟩:=List.mem_iff_getElem.1 hxm;rw [List.length_drop] at hk;rw [List.getElem_drop] at h2;refine ⟨i + 1 + k,by omega,by omega,?_⟩;rw [← getD_get (show i + 1 + k < l.length by omega) ((0 : Int),(0 : Int),([] : List Fld))];exact h2
theorem drp_keep (f : Int) (l : List Edt) {i : Nat} (h : i < l.length) (h1 : (l.getD i ((0 : Int),(0 : Int),([] : List Fld))).1 = 1) :
    xO f (f + (insC (l.take (i + 1)) : Int)) (yS (l.drop (i + 1))) (l.getD i ((0 : Int),(0 : Int),([] : List Fld))) = !drp l (gvL f l) i (l.getD i ((0 : Int),(0 : Int),([] : List Fld))).2.1 l.length:=by
  have hs:=insC_snoc h;rw [if_neg (by omega)] at hs;have hg:=given_iff f l (l.getD i ((0 : Int),(0 : Int),([] : List Fld))).2.1 i (by omega);have hl:=later_iff l (l.getD i ((0 : Int),(0 : Int),([] : List Fld))).2.1 i;have hd:=drp_iff l (gvL f l) i (l.getD i ((0 : Int),(0 : Int),([] : List Fld))).2.1 l.length;unfold xO;rw [if_pos h1,fateM_get,hs,Nat.add_zero];rw [Bool.eq_iff_iff];simp only [Bool.and_eq_true,Bool.not_eq_true',Bool.and_eq_false_iff,decide_eq_false_iff_not];rw [← Bool.not_eq_true,← Bool.not_eq_true,hd,← hl]
  constructor
  · rintro ⟨g1,g2⟩ ⟨k,hk,h3|h3⟩
    · exact g1 ⟨k,hk,h3⟩
    · have:=hg.1 ⟨k,h3⟩;omega
  · intro h3;refine ⟨fun ⟨k,hk,h4⟩=>h3 ⟨k,hk,.inl h4⟩,?_⟩;refine Classical.byContradiction fun h5=>?_
    obtain ⟨k,hk,h6⟩:=hg.2 (by omega);exact h3 ⟨k,by omega,.inr ⟨hk,h6⟩⟩
def gnS (g : Int) (s : Bool × List Fld) (y : Edt) : Bool × List Fld:=(s.1 || (decide (y.2.1 = g) && decide (y.1 = 2)),if y.2.1 = g ∧ y.1 = 1 then y.2.2 else s.2)
def gnE (g : Int) (f : List Fld) (r : List Edt) : Bool × List Fld:=r.foldl (gnS g) (false,f)
theorem gnE_snoc (g : Int) (f : List Fld) (l : List Edt) {i j : Nat} (h : i + 1 ≤ j) (hj : j < l.length) : gnE g f ((l.drop (i + 1)).take (j + 1 - (i + 1))) = gnS g (gnE g f ((l.drop (i + 1)).take (j - (i + 1)))) (l.getD j ((0 : Int),(0 : Int),([] : List Fld))):=by
  have hd : j - (i + 1) < (l.drop (i + 1)).length:=by rw [List.length_drop];omega
  rw [show j + 1 - (i + 1) = j - (i + 1) + 1 by omega,← yG ((0 : Int),(0 : Int),([] : List Fld)) hd];have e : (l.drop (i + 1)).getD (j - (i + 1)) ((0 : Int),(0 : Int),([] : List Fld)) = l.getD j ((0 : Int),(0 : Int),([] : List Fld)):=by
    rw [List.getD_eq_getElem?_getD,List.getElem?_drop,List.getD_eq_getElem?_getD,show i + 1 + (j - (i + 1)) = j by omega]
  unfold gnE;rw [List.foldl_append,e];rfl
theorem gnS1_yes {g : Int} {s : Bool × List Fld} {y : Edt} (h : y.2.1 = g ∧ y.1 = 2) : (gnS g s y).1 = true:=by
  simp [gnS,h.1,h.2]
theorem gnS1_no {g : Int} {s : Bool × List Fld} {y : Edt} (h : ¬ y.2.1 = g ∨ ¬ y.1 = 2) : (gnS g s y).1 = s.1:=by
  unfold gnS;have e : (decide (y.2.1 = g) && decide (y.1 = 2)) = false:=by
    rcases h with h|h
    · rw [decide_eq_false h,Bool.false_and]
    · rw [decide_eq_false h,Bool.and_false]
  simp only [e,Bool.or_false]
theorem gnS2_yes {g : Int} {s : Bool × List Fld} {y : Edt} (h : y.2.1 = g ∧ y.1 = 1) : (gnS g s y).2 = y.2.2:=if_pos h
theorem gnS2_no {g : Int} {s : Bool × List Fld} {y : Edt} (h : ¬ y.2.1 = g ∨ ¬ y.1 = 1) : (gnS g s y).2 = s.2:=if_neg (fun h2=>h.elim (fun h=>h h2.1) (fun h=>h h2.2))
def isGone : Option Fate → Bool
  | some (_,true)=>true
  | _=>false
theorem fate_cons (n : Int) (x : Edt) (r : List Edt) : fate n (x :: r) = if x.1 = 2 ∧ x.2.1 = n then some ([],true) else if x.1 = 1 ∧ x.2.1 = n then (match fate n r with
    | some g=>some g
    | none=>some (x.2.2,false)) else fate n r:=rfl
theorem gn_fate (g : Int) : ∀ (r : List Edt) (b : Bool) (f : List Fld),(r.foldl (gnS g) (b,f)).1 = (b || isGone (fate g r)) ∧ (isGone (fate g r) = false → (r.foldl (gnS g) (b,f)).2 = fatF (fate g r) f)
  | [],b,f=>by simp [fate,isGone,fatF]
  | x :: r,b,f=>by
    obtain ⟨i1,i2⟩:=gn_fate g r (b || (decide (x.2.1 = g) && decide (x.1 = 2))) (if x.2.1 = g ∧ x.1 = 1 then x.2.2 else f);show ((r.foldl (gnS g) (b || (decide (x.2.1 = g) && decide (x.1 = 2)),if x.2.1 = g ∧ x.1 = 1 then x.2.2 else f)).1 = (b || isGone (fate g (x :: r)))) ∧ (isGone (fate g (x :: r)) = false → (r.foldl (gnS g) (b || (decide (x.2.1 = g) && decide (x.1 = 2)),if x.2.1 = g ∧ x.1 = 1 then x.2.2 else f)).2 = fatF (fate g (x :: r)) f);rw [i1,fate_cons]
    by_cases h2 : x.1 = 2 ∧ x.2.1 = g
    · rw [if_pos h2];refine ⟨by simp [h2.1,h2.2,isGone],fun h=>by cases h⟩
    · rw [if_neg h2];have e2 : (decide (x.2.1 = g) && decide (x.1 = 2)) = false:=by
        rw [Bool.eq_false_iff];simp only [ne_eq,Bool.and_eq_true,decide_eq_true_eq];exact fun h=>h2 ⟨h.2,h.1⟩
      rw [e2] at i2 ⊢;rw [Bool.or_false] at i2 ⊢
      by_cases h1 : x.1 = 1 ∧ x.2.1 = g
      · rw [if_pos h1];rw [if_pos ⟨h1.2,h1.1⟩] at i2 ⊢;cases hf : fate g r with
        | none =>
          rw [hf] at i2;exact ⟨rfl,fun _=>i2 rfl⟩
        | some y =>
          obtain ⟨y,c⟩:=y;rw [hf] at i2;refine ⟨rfl,fun h=>?_⟩;cases c with
          | true=>cases h
          | false=>exact i2 rfl
      · rw [if_neg h1];rw [if_neg (fun h=>h1 ⟨h.2,h.1⟩)] at i2 ⊢;exact ⟨rfl,i2⟩
theorem gn_keep (f : Int) (l : List Edt) {i : Nat} (h : i < l.length) (h3 : (l.getD i ((0 : Int),(0 : Int),([] : List Fld))).1 = 3) :
    xO f (f + (insC (l.take (i + 1)) : Int)) (yS (l.drop (i + 1))) (l.getD i ((0 : Int),(0 : Int),([] : List Fld))) = true ∧
    xG (f + (insC (l.take (i + 1)) : Int)) (yS (l.drop (i + 1))) (l.getD i ((0 : Int),(0 : Int),([] : List Fld))) =
      if (gnE ((gvL f l).getD i 0) (l.getD i ((0 : Int),(0 : Int),([] : List Fld))).2.2 (l.drop (i + 1))).1 = true then l.getD i ((0 : Int),(0 : Int),([] : List Fld)) else ((l.getD i ((0 : Int),(0 : Int),([] : List Fld))).1,(l.getD i ((0 : Int),(0 : Int),([] : List Fld))).2.1,(gnE ((gvL f l).getD i 0) (l.getD i ((0 : Int),(0 : Int),([] : List Fld))).2.2 (l.drop (i + 1))).2):=by
  have hs:=insC_snoc h;rw [if_pos h3] at hs;have hg:=gvL_get f l i h;rw [if_pos h3] at hg;obtain ⟨g1,g2⟩:=gn_fate (f + (insC (l.take i) : Int)) (l.drop (i + 1)) false (l.getD i ((0 : Int),(0 : Int),([] : List Fld))).2.2;refine ⟨by unfold xO;rw [if_neg (by omega)],?_⟩;unfold xG gnE;rw [if_pos h3,fateM_get,hs,hg,show f + ((insC (l.take i) + 1 : Nat) : Int) - 1 = f + (insC (l.take i) : Int) by omega,g1,Bool.false_or];cases hf : isGone (fate (f + (insC (l.take i) : Int)) (l.drop (i + 1))) with
  | true =>
    rw [if_pos rfl];have : fatF (fate (f + (insC (l.take i) : Int)) (l.drop (i + 1))) (l.getD i ((0 : Int),(0 : Int),([] : List Fld))).2.2 = (l.getD i ((0 : Int),(0 : Int),([] : List Fld))).2.2:=by
      apply fatF_gone
      revert hf
      cases fate (f + (insC (l.take i) : Int)) (l.drop (i + 1)) with
      | none=>intro h;cases h
      | some y =>
        obtain ⟨y,c⟩:=y;cases c with
        | true=>intro _;exact .inr ⟨y,rfl⟩
        | false=>intro h;cases h
    rw [this]
  | false =>
    rw [g2 hf];rfl
theorem oth_keep (f n : Int) (M : List (Int × Fate)) {x : Edt} (h1 : x.1 ≠ 1) (h3 : x.1 ≠ 3) : xO f n M x = true ∧ xG n M x = x:=by
  unfold xO xG;rw [if_neg h1,if_neg h3];exact ⟨rfl,rfl⟩
theorem rep_keepY (n : Int) (M : List (Int × Fate)) {x : Edt} (h1 : x.1 = 1) : xG n M x = x:=by
  unfold xG;rw [if_neg (by omega)]
end Q
end Ab
end Go.Proofs.YtojipboabgebfaaGreatDoor
namespace Go.Proofs.YtojipboabgebfaaGreatDoor
open Go.RowKit
namespace Ab
set_option maxRecDepth 100000
namespace Q
set_option maxHeartbeats 8000000 in
theorem refSq_c (next : Int) (l : List Edt) (hl : l.length ≤ 100000) : yB Tryz.prog 13 [ii .i64 next,.one (.sl rEdt l)] (.one (.sl rEdt (sqz next l))):=by
  refine qZ (rs:=[4]) Tryz.func13 rfl rfl rfl teOk rfl ?_;refine qD ?_;refine qB ?_;refine qD ?_;refine qD ?_;refine qB ?_;refine zai (fun h=>trivial) ?_;refine zai (fun h=>⟨⟨h,trivial⟩,trivial⟩) ?_;refine zai (by first|(intro h;rw [h];rfl)|(intro h;cases h)) ?_;refine qM rfl (fun h23=>?_) (fun h23=>?_)
  ·try simp only [decide_eq_true_eq,Bool.or_eq_true] at h23
   try simp only [zds] at h23
   refine qD ?_;refine qB ?_;refine yU 4 31 rEdt rfl ?_;refine qN ?_;rw [sqz_no (by omega)];exact rfl
  ·try simp only [decide_eq_false_iff_not,Bool.or_eq_false_iff,Int.not_lt] at h23
   try simp only [zds] at h23
   refine qO ?_;refine qD ?_;refine qB ?_;refine qD ?_;refine yU 5 3 (.int .i64) rfl ?_;refine qB ?_;refine qD ?_;refine qD ?_;refine qB ?_;refine qQ ?_;refine qY (fun (i : Nat)=>i ≤ l.length) (fun (i : Nat)=>[(1,.one (.sl rEdt l)),(5,.one (.vec 0)),(6,ii .i64 (next + (insC (l.take i) : Int))),(7,ii .i64 i)]) (fun (i : Nat)=>[(0,.vec 3 (.int .i64) ((gvL next l).take i))]) 1 (fun (i : Nat)=>l.length - i) 0 (Nat.zero_le _) (qP ⟨rfl,rfl,(yH (by simp [insC])),rfl⟩ rfl rfl) ?_;intro i hI0;refine qD ?_;refine qD ?_;refine qB ?_;intro l6_2
   try simp only [zds] at l6_2
   refine qM rfl (fun h28=>?_) (fun h28=>?_)
   ·try simp only [decide_eq_true_eq] at h28
    try simp only [zds] at h28
    have hil : i < l.length:=(by omega);have hsn:=insC_snoc hil;have hle:=insC_le (l.take i);rw [List.length_take] at hle;have hg:=gvL_get next l i hil;have hgl:=gvL_len next l;refine qO ?_;refine qD ?_;refine qQ ?_;refine qD ?_;refine qB ?_;refine zai (by exact qR (show ((gvL next l).take i).length + 1 ≤ 1000000000 by rw [List.length_take];omega) (by decide)) ?_;refine qD ?_;refine qB ?_;refine zai (by first|omega|assumption|decide|(simp only [zds];omega)|(simp <;> omega)) ?_;refine qM rfl (fun h39=>?_) (fun h39=>?_)
    ·try simp only [decide_eq_true_eq] at h39
     try simp only [Int.toNat_natCast,qJ,qI,qG] at h39
     have h39 : (l.getD i ((0 : Int),(0 : Int),([] : List Fld))).1 = 3:=h39;rw [if_pos h39] at hsn hg;have hst:=gv_step next l hil _ hg;refine qD ?_;refine qB ?_;refine zai (by show 0 ≤ (i : Int) ∧ (i : Int) < (((gvL next l).take i ++ [0]).length : Int);simp only [List.length_append,List.length_take,List.length_cons,List.length_nil];omega) ?_;refine zai (by show i < ((gvL next l).take i ++ [0]).length;simp only [List.length_append,List.length_take,List.length_cons,List.length_nil];omega) ?_;refine qB ?_;refine zai (by first|omega|assumption|decide|(simp only [zds];omega)|(simp <;> omega)) ?_;refine qB ?_;refine zai (by first|omega|assumption|decide|(simp only [zds];omega)|(simp <;> omega)) ?_;exact ⟨i + 1,by omega,by first|omega|(simp <;> omega),qP ⟨rfl,rfl,(yH (by rw [hsn];omega)),(yH (by omega))⟩ (qS (by rw [← hst];try exact rfl)) rfl⟩
    ·try simp only [decide_eq_false_iff_not] at h39
     try simp only [Int.toNat_natCast,qJ,qI,qG] at h39
     have h39 : ¬ (l.getD i ((0 : Int),(0 : Int),([] : List Fld))).1 = 3:=h39;rw [if_neg h39] at hsn hg;have hst:=gv_step0 next l hil hg;refine qO ?_;refine qB ?_;refine zai (by first|omega|assumption|decide|(simp only [zds];omega)|(simp <;> omega)) ?_;exact ⟨i + 1,by omega,by first|omega|(simp <;> omega),qP ⟨rfl,rfl,(yH (by rw [hsn];omega)),(yH (by omega))⟩ (qS (by rw [← hst];try exact rfl)) rfl⟩
   ·try simp only [decide_eq_false_iff_not,Int.not_lt] at h28
    try simp only [zds] at h28
    refine yA ?_;have hgl:=gvL_len next l;rw [List.take_of_length_le (show (gvL next l).length ≤ i by omega)];refine qD ?_;refine acode_frz [0] ?_;refine qB ?_;refine qD ?_;refine qD ?_;refine yU 8 31 rEdt rfl ?_;refine acode_free 0 1 rfl rfl rfl rfl ?_;refine qB ?_;refine qQ ?_;refine qY (fun (i : Nat)=>i ≤ l.length) (fun (i : Nat)=>[(1,.one (.sl rEdt l)),(5,.one (.sl (.int .i64) (gvL next l))),(8,.one (.vec 0)),(9,ii .i64 i)]) (fun (i : Nat)=>[(0,.vec 31 rEdt (sqD next next l i))]) 1 (fun (i : Nat)=>l.length - i) 0 (Nat.zero_le _) (qP ⟨rfl,rfl,rfl,rfl⟩ (qS (by cases l <;> rfl)) rfl) ?_;intro i hI2;refine qD ?_;refine qD ?_;refine qB ?_;intro l14_2
    try simp only [zds] at l14_2
    refine qM rfl (fun h49=>?_) (fun h49=>?_)
    ·try simp only [decide_eq_true_eq] at h49
     try simp only [zds] at h49
     have hil : i < l.length:=(by omega);have hgl:=gvL_len next l;have hss:=sqD_snoc next next l i hil;have hdl:=sqD_le next next l i;refine qO ?_;refine qD ?_;refine qQ ?_;refine qD ?_;refine qB ?_;refine zai (by first|omega|assumption|decide|(simp only [zds];omega)|(simp <;> omega)) ?_;refine qD ?_;refine qD ?_;refine qB ?_;refine qM rfl (fun h58=>?_) (fun h58=>?_)
     ·try simp only [decide_eq_true_eq] at h58
      try simp only [Int.toNat_natCast,qJ,qI,qG] at h58
      have h58 : (l.getD i ((0 : Int),(0 : Int),([] : List Fld))).1 = 1:=h58;have hdk:=drp_keep next l hil h58;refine qD ?_;refine qB ?_;refine qD ?_;refine qD ?_;refine qB ?_;refine qQ ?_;refine qY (fun (j : Nat)=>j ≤ l.length) (fun (j : Nat)=>[(1,.one (.sl rEdt l)),(5,.one (.sl (.int .i64) (gvL next l))),(8,.one (.vec 0)),(9,ii .i64 i),(10,.one (.own 1 0)),(11,ib (drp l (gvL next l) i (l.getD i ((0 : Int),(0 : Int),([] : List Fld))).2.1 j)),(12,ii .i64 j)]) (fun (j : Nat)=>[(0,.vec 31 rEdt (sqD next next l i)),(1,.box 31 (toL rEdt (l.getD i ((0 : Int),(0 : Int),([] : List Fld)))))]) 2 (fun (j : Nat)=>l.length - j) 0 (Nat.zero_le _) (qP ⟨rfl,rfl,rfl,rfl,rfl,rfl,rfl⟩ ⟨rfl,rfl⟩ rfl) ?_;intro j hI4;refine qD ?_;refine qD ?_;refine qB ?_;intro l20_2
      try simp only [zds] at l20_2
      refine qM rfl (fun h62=>?_) (fun h62=>?_)
      ·try simp only [decide_eq_true_eq] at h62
       try simp only [zds] at h62
       have hjl : j < l.length:=(by omega);refine qO ?_;refine qD ?_;refine qQ ?_;refine qD ?_;refine acode_draw rfl (by kernel_rfl) ?_;refine zai (fun h=>trivial) ?_;refine zai (fun h=>trivial) ?_;refine zai (fun h=>⟨⟨⟨h,trivial⟩,⟨h,trivial⟩,trivial⟩,by first|omega|decide|(simp only [zds];omega)|(have h9:=of_decide_eq_true h;omega)|(simp [gq] at h;omega)⟩) ?_;refine zai (fun h=>⟨⟨h,trivial⟩,trivial⟩) ?_;refine zai (fun h=>⟨⟨h,trivial⟩,trivial⟩) ?_;refine zai (fun h=>⟨⟨h,trivial⟩,trivial⟩) ?_;refine zai (fun h=>⟨⟨h,trivial⟩,trivial⟩) ?_;refine zai (fun h=>trivial) ?_;refine zai (fun h=>trivial) ?_;refine zai (fun h=>⟨⟨⟨h,trivial⟩,⟨h,trivial⟩,trivial⟩,by first|omega|decide|(simp only [zds];omega)|(have h9:=of_decide_eq_true h;omega)|(simp [gq] at h;omega)⟩) ?_;refine zai (fun h=>⟨⟨h,trivial⟩,trivial⟩) ?_;refine zai (fun h=>⟨⟨h,trivial⟩,trivial⟩) ?_;refine zai (fun h=>⟨⟨h,trivial⟩,trivial⟩) ?_;refine zai (fun h=>⟨⟨⟨h,trivial⟩,trivial⟩,by first|exact fun h2=>h2|(intro h2;rw [h,h2];rfl)|(intro h2;cases h2)|(intro h2;simp_all [gq])⟩) ?_;refine zai (by exact fun h=>h) ?_;refine zai (fun h=>trivial) ?_;refine zai (fun h=>trivial) ?_;refine zai (fun h=>⟨⟨⟨h,trivial⟩,⟨h,trivial⟩,trivial⟩,by first|omega|decide|(simp only [zds];omega)|(have h9:=of_decide_eq_true h;omega)|(simp [gq] at h;omega)⟩) ?_;refine zai (fun h=>⟨⟨h,trivial⟩,trivial⟩) ?_;refine zai (fun h=>⟨⟨h,trivial⟩,trivial⟩) ?_;refine zai (fun h=>trivial) ?_;refine zai (fun h=>⟨⟨h,trivial⟩,trivial⟩) ?_;refine zai (fun h=>⟨⟨h,trivial⟩,⟨h,trivial⟩,trivial⟩) ?_;refine zai (by exact fun h=>h) ?_;refine qD ?_;refine acode_draw rfl (by kernel_rfl) ?_;refine zai (fun h=>trivial) ?_;refine zai (fun h=>trivial) ?_;refine zai (fun h=>⟨⟨⟨h,trivial⟩,⟨h,trivial⟩,trivial⟩,by first|omega|decide|(simp only [zds];omega)|(have h9:=of_decide_eq_true h;omega)|(simp [gq] at h;omega)⟩) ?_;refine zai (fun h=>⟨⟨h,trivial⟩,trivial⟩) ?_;refine zai (fun h=>⟨⟨h,trivial⟩,trivial⟩) ?_;refine zai (fun h=>⟨⟨h,trivial⟩,trivial⟩) ?_;refine zai (by exact fun h=>h) ?_;refine zai (fun h=>trivial) ?_;refine zai (fun h=>trivial) ?_;refine zai (fun h=>⟨⟨⟨h,trivial⟩,⟨h,trivial⟩,trivial⟩,by first|omega|decide|(simp only [zds];omega)|(have h9:=of_decide_eq_true h;omega)|(simp [gq] at h;omega)⟩) ?_;refine zai (fun h=>⟨⟨h,trivial⟩,trivial⟩) ?_;refine zai (fun h=>trivial) ?_;refine zai (fun h=>⟨⟨h,trivial⟩,trivial⟩) ?_;refine zai (fun h=>⟨⟨h,trivial⟩,⟨h,trivial⟩,trivial⟩) ?_;refine zai (by exact fun h=>h) ?_;refine qB ?_;refine zai (fun h=>trivial) ?_;refine zai (by first|(intro h;rw [h];rfl)|(intro h;cases h)) ?_;refine zai (fun h=>trivial) ?_;refine zai (by first|(intro h;rw [h];rfl)|(intro h;cases h)) ?_;refine qB ?_;refine zai (by first|omega|assumption|decide|(simp only [zds];omega)|(simp <;> omega)) ?_;exact ⟨j + 1,by omega,by first|omega|(simp <;> omega),qP ⟨rfl,rfl,rfl,rfl,rfl,(ib_eq (by simp only [drp,Int.toNat_natCast];try exact rfl)),(yH (by omega))⟩ ⟨rfl,rfl⟩ rfl⟩
      ·try simp only [decide_eq_false_iff_not,Int.not_lt] at h62
       try simp only [zds] at h62
       refine yA ?_;have hj : j = l.length:=(by omega);subst hj;refine qD ?_;refine qB ?_;refine qM rfl (fun h121=>?_) (fun h121=>?_)
       ·try simp only [zbq] at h121
        try simp only [zds] at h121
        have h121 : drp l (gvL next l) i (l.getD i ((0 : Int),(0 : Int),([] : List Fld))).2.1 l.length = true:=h121;rw [h121] at hdk;rw [hdk,if_neg (by decide),List.append_nil] at hss;refine yA ?_;refine qB ?_;refine zai (by first|omega|assumption|decide|(simp only [zds];omega)|(simp <;> omega)) ?_;exact ⟨i + 1,by omega,by first|omega|(simp <;> omega),qP ⟨rfl,rfl,rfl,(yH (by omega))⟩ (qS (by rw [hss];try exact rfl)) rfl⟩
       ·try simp only [zbq] at h121
        try simp only [zds] at h121
        have h121 : drp l (gvL next l) i (l.getD i ((0 : Int),(0 : Int),([] : List Fld))).2.1 l.length = false:=h121;rw [h121] at hdk;rw [hdk,if_pos (by decide),rep_keepY _ _ h58] at hss;refine qO ?_;refine qD ?_;refine qD ?_;refine qB ?_;refine qM rfl (fun h124=>?_) (fun h124=>?_)
        ·try simp only [decide_eq_true_eq] at h124
         try simp only [zds] at h124
         exfalso
         have h124 : (l.getD i ((0 : Int),(0 : Int),([] : List Fld))).1 = 3:=h124;omega
        ·try simp only [decide_eq_false_iff_not] at h124
         try simp only [zds] at h124
         refine qO ?_;refine qB ?_;refine zai (by exact qR (show (sqD next next l i).length + 1 ≤ 1000000000 by omega) (by decide)) ?_;refine qB ?_;refine zai (by first|omega|assumption|decide|(simp only [zds];omega)|(simp <;> omega)) ?_;exact ⟨i + 1,by omega,by first|omega|(simp <;> omega),qP ⟨rfl,rfl,rfl,(yH (by omega))⟩ (qS (by rw [hss];try exact rfl)) rfl⟩
     ·try simp only [decide_eq_false_iff_not] at h58
      try simp only [Int.toNat_natCast,qJ,qI,qG] at h58
      have h58 : ¬ (l.getD i ((0 : Int),(0 : Int),([] : List Fld))).1 = 1:=h58;refine qO ?_;refine qD ?_;refine qD ?_;refine qB ?_;refine qM rfl (fun h124=>?_) (fun h124=>?_)
      ·try simp only [decide_eq_true_eq] at h124
       try simp only [Int.toNat_natCast,qJ,qI,qG] at h124
       have h124 : (l.getD i ((0 : Int),(0 : Int),([] : List Fld))).1 = 3:=h124;obtain ⟨hk1,hk2⟩:=gn_keep next l hil h124;rw [hk1,if_pos rfl,hk2] at hss;refine qD ?_;refine qB ?_;refine qD ?_;refine qB ?_;refine qD ?_;refine qD ?_;refine qB ?_;refine zai (by first|omega|assumption|decide|(simp only [zds];omega)|(simp <;> omega)) ?_;refine qQ ?_;refine qY (fun (j : Nat)=>i + 1 ≤ j ∧ j ≤ l.length) (fun (j : Nat)=>[(1,.one (.sl rEdt l)),(5,.one (.sl (.int .i64) (gvL next l))),(8,.one (.vec 0)),(9,ii .i64 i),(10,.one (.own 1 0)),(15,ib (gnE ((gvL next l).getD i 0) (l.getD i ((0 : Int),(0 : Int),([] : List Fld))).2.2 ((l.drop (i + 1)).take (j - (i + 1)))).1),(16,.one (.sl rFld (gnE ((gvL next l).getD i 0) (l.getD i ((0 : Int),(0 : Int),([] : List Fld))).2.2 ((l.drop (i + 1)).take (j - (i + 1)))).2)),(17,ii .i64 j)]) (fun (j : Nat)=>[(0,.vec 31 rEdt (sqD next next l i)),(1,.box 31 (toL rEdt (l.getD i ((0 : Int),(0 : Int),([] : List Fld)))))]) 2 (fun (j : Nat)=>l.length - j) (i + 1) (⟨Nat.le_refl _,by omega⟩) (qP ⟨rfl,rfl,rfl,rfl,rfl,(ib_eq (by rw [Nat.sub_self];rfl)),((by rw [Nat.sub_self];try exact rfl)),(yH (by omega))⟩ ⟨rfl,rfl⟩ rfl) ?_;intro j hI6;obtain ⟨hij,hjl0⟩:=hI6;refine qD ?_;refine qD ?_;refine qB ?_;intro l30_2
       try simp only [zds] at l30_2
       refine qM rfl (fun h132=>?_) (fun h132=>?_)
       ·try simp only [decide_eq_true_eq] at h132
        try simp only [zds] at h132
        have hjl : j < l.length:=(by omega);have hgs:=gnE_snoc ((gvL next l).getD i 0) (l.getD i ((0 : Int),(0 : Int),([] : List Fld))).2.2 l hij hjl;refine qO ?_;refine qD ?_;refine qQ ?_;refine qD ?_;refine qD ?_;refine acode_draw rfl (by kernel_rfl) ?_;refine zai (by first|omega|assumption|decide|(simp only [zds];omega)|(simp <;> omega)) ?_;refine zai (by first|omega|assumption|decide|(simp only [zds];omega)|(simp <;> omega)) ?_;refine zai (fun h=>trivial) ?_;refine zai (fun h=>trivial) ?_;refine zai (fun h=>⟨⟨⟨h,trivial⟩,⟨h,trivial⟩,trivial⟩,by first|omega|decide|(simp only [zds];omega)|(have h9:=of_decide_eq_true h;omega)|(simp [gq] at h;omega)⟩) ?_;refine zai (fun h=>⟨⟨h,trivial⟩,trivial⟩) ?_;refine zai (fun h=>⟨⟨h,trivial⟩,trivial⟩) ?_;refine zai (fun h=>⟨⟨h,trivial⟩,trivial⟩) ?_;refine zai (by exact fun h=>h) ?_;refine qM rfl (fun h152=>?_) (fun h152=>?_)
        ·try simp only [decide_eq_true_eq,Bool.and_eq_true] at h152
         try simp only [Int.toNat_natCast,qJ,qI,qG] at h152
         have e15 : (gnE ((gvL next l).getD i 0) (l.getD i ((0 : Int),(0 : Int),([] : List Fld))).2.2 ((l.drop (i + 1)).take (j + 1 - (i + 1)))).1 = true:=(by rw [hgs];exact gnS1_yes h152);refine qB ?_;refine qD ?_;refine acode_draw rfl (by kernel_rfl) ?_;refine zai (by first|omega|assumption|decide|(simp only [zds];omega)|(simp <;> omega)) ?_;refine zai (by first|omega|assumption|decide|(simp only [zds];omega)|(simp <;> omega)) ?_;refine zai (fun h=>trivial) ?_;refine zai (fun h=>trivial) ?_;refine zai (fun h=>⟨⟨⟨h,trivial⟩,⟨h,trivial⟩,trivial⟩,by first|omega|decide|(simp only [zds];omega)|(have h9:=of_decide_eq_true h;omega)|(simp [gq] at h;omega)⟩) ?_;refine zai (fun h=>⟨⟨h,trivial⟩,trivial⟩) ?_;refine zai (fun h=>⟨⟨h,trivial⟩,trivial⟩) ?_;refine zai (fun h=>⟨⟨h,trivial⟩,trivial⟩) ?_;refine zai (by exact fun h=>h) ?_;refine qM rfl (fun h170=>?_) (fun h170=>?_)
         ·try simp only [decide_eq_true_eq,Bool.and_eq_true] at h170
          try simp only [Int.toNat_natCast,qJ,qI,qG] at h170
          have e16 : (gnE ((gvL next l).getD i 0) (l.getD i ((0 : Int),(0 : Int),([] : List Fld))).2.2 ((l.drop (i + 1)).take (j + 1 - (i + 1)))).2 = (l.getD j ((0 : Int),(0 : Int),([] : List Fld))).2.2:=(by rw [hgs];exact gnS2_yes h170);refine qB ?_;refine zai (by first|omega|assumption|decide|(simp only [zds];omega)|(simp <;> omega)) ?_;refine qB ?_;refine zai (by first|omega|assumption|decide|(simp only [zds];omega)|(simp <;> omega)) ?_;exact ⟨j + 1,⟨by omega,by omega⟩,by first|omega|(simp <;> omega),qP ⟨rfl,rfl,rfl,rfl,rfl,(ib_eq (by rw [e15])),((by rw [e16];try exact rfl)),(yH (by omega))⟩ ⟨rfl,rfl⟩ rfl⟩
         ·try simp only [decide_eq_false_iff_not,Bool.and_eq_false_iff] at h170
          try simp only [Int.toNat_natCast,qJ,qI,qG] at h170
          have e16 : (gnE ((gvL next l).getD i 0) (l.getD i ((0 : Int),(0 : Int),([] : List Fld))).2.2 ((l.drop (i + 1)).take (j + 1 - (i + 1)))).2 = (gnE ((gvL next l).getD i 0) (l.getD i ((0 : Int),(0 : Int),([] : List Fld))).2.2 ((l.drop (i + 1)).take (j - (i + 1)))).2:=(by rw [hgs];exact gnS2_no h170);refine qO ?_;refine qB ?_;refine zai (by first|omega|assumption|decide|(simp only [zds];omega)|(simp <;> omega)) ?_;exact ⟨j + 1,⟨by omega,by omega⟩,by first|omega|(simp <;> omega),qP ⟨rfl,rfl,rfl,rfl,rfl,(ib_eq (by rw [e15])),((by rw [e16];try exact rfl)),(yH (by omega))⟩ ⟨rfl,rfl⟩ rfl⟩
        ·try simp only [decide_eq_false_iff_not,Bool.and_eq_false_iff] at h152
         try simp only [Int.toNat_natCast,qJ,qI,qG] at h152
         have e15 : (gnE ((gvL next l).getD i 0) (l.getD i ((0 : Int),(0 : Int),([] : List Fld))).2.2 ((l.drop (i + 1)).take (j + 1 - (i + 1)))).1 = (gnE ((gvL next l).getD i 0) (l.getD i ((0 : Int),(0 : Int),([] : List Fld))).2.2 ((l.drop (i + 1)).take (j - (i + 1)))).1:=(by rw [hgs];exact gnS1_no h152);refine qO ?_;refine qD ?_;refine acode_draw rfl (by kernel_rfl) ?_;refine zai (by first|omega|assumption|decide|(simp only [zds];omega)|(simp <;> omega)) ?_;refine zai (by first|omega|assumption|decide|(simp only [zds];omega)|(simp <;> omega)) ?_;refine zai (fun h=>trivial) ?_;refine zai (fun h=>trivial) ?_;refine zai (fun h=>⟨⟨⟨h,trivial⟩,⟨h,trivial⟩,trivial⟩,by first|omega|decide|(simp only [zds];omega)|(have h9:=of_decide_eq_true h;omega)|(simp [gq] at h;omega)⟩) ?_;refine zai (fun h=>⟨⟨h,trivial⟩,trivial⟩) ?_;refine zai (fun h=>⟨⟨h,trivial⟩,trivial⟩) ?_;refine zai (fun h=>⟨⟨h,trivial⟩,trivial⟩) ?_;refine zai (by exact fun h=>h) ?_;refine qM rfl (fun h170=>?_) (fun h170=>?_)
         ·try simp only [decide_eq_true_eq,Bool.and_eq_true] at h170
          try simp only [Int.toNat_natCast,qJ,qI,qG] at h170
          have e16 : (gnE ((gvL next l).getD i 0) (l.getD i ((0 : Int),(0 : Int),([] : List Fld))).2.2 ((l.drop (i + 1)).take (j + 1 - (i + 1)))).2 = (l.getD j ((0 : Int),(0 : Int),([] : List Fld))).2.2:=(by rw [hgs];exact gnS2_yes h170);refine qB ?_;refine zai (by first|omega|assumption|decide|(simp only [zds];omega)|(simp <;> omega)) ?_;refine qB ?_;refine zai (by first|omega|assumption|decide|(simp only [zds];omega)|(simp <;> omega)) ?_;exact ⟨j + 1,⟨by omega,by omega⟩,by first|omega|(simp <;> omega),qP ⟨rfl,rfl,rfl,rfl,rfl,(ib_eq (by rw [e15])),((by rw [e16];try exact rfl)),(yH (by omega))⟩ ⟨rfl,rfl⟩ rfl⟩
         ·try simp only [decide_eq_false_iff_not,Bool.and_eq_false_iff] at h170
          try simp only [Int.toNat_natCast,qJ,qI,qG] at h170
          have e16 : (gnE ((gvL next l).getD i 0) (l.getD i ((0 : Int),(0 : Int),([] : List Fld))).2.2 ((l.drop (i + 1)).take (j + 1 - (i + 1)))).2 = (gnE ((gvL next l).getD i 0) (l.getD i ((0 : Int),(0 : Int),([] : List Fld))).2.2 ((l.drop (i + 1)).take (j - (i + 1)))).2:=(by rw [hgs];exact gnS2_no h170);refine qO ?_;refine qB ?_;refine zai (by first|omega|assumption|decide|(simp only [zds];omega)|(simp <;> omega)) ?_;exact ⟨j + 1,⟨by omega,by omega⟩,by first|omega|(simp <;> omega),qP ⟨rfl,rfl,rfl,rfl,rfl,(ib_eq (by rw [e15])),((by rw [e16];try exact rfl)),(yH (by omega))⟩ ⟨rfl,rfl⟩ rfl⟩
       ·try simp only [decide_eq_false_iff_not,Int.not_lt] at h132
        try simp only [zds] at h132
        refine yA ?_;have hj : j = l.length:=(by omega);subst hj;rw [List.take_of_length_le (by rw [List.length_drop];omega)];refine qD ?_;refine qB ?_;refine qM rfl (fun h177=>?_) (fun h177=>?_)
        ·try simp only [Bool.not_eq_true'] at h177
         try simp only [zds] at h177
         rw [if_neg (by rw [h177];decide)] at hss;refine qB ?_;refine qB ?_;refine zai (by exact qR (show (sqD next next l i).length + 1 ≤ 1000000000 by omega) (by decide)) ?_;refine qB ?_;refine zai (by first|omega|assumption|decide|(simp only [zds];omega)|(simp <;> omega)) ?_;exact ⟨i + 1,by omega,by first|omega|(simp <;> omega),qP ⟨rfl,rfl,rfl,(yH (by omega))⟩ (qS (by rw [hss];try exact rfl)) rfl⟩
        ·try simp only [Bool.not_eq_false'] at h177
         try simp only [zds] at h177
         rw [if_pos h177] at hss;refine qO ?_;refine qB ?_;refine zai (by exact qR (show (sqD next next l i).length + 1 ≤ 1000000000 by omega) (by decide)) ?_;refine qB ?_;refine zai (by first|omega|assumption|decide|(simp only [zds];omega)|(simp <;> omega)) ?_;exact ⟨i + 1,by omega,by first|omega|(simp <;> omega),qP ⟨rfl,rfl,rfl,(yH (by omega))⟩ (qS (by rw [hss];try exact rfl)) rfl⟩
      ·try simp only [decide_eq_false_iff_not] at h124
       try simp only [Int.toNat_natCast,qJ,qI,qG] at h124
       have h124 : ¬ (l.getD i ((0 : Int),(0 : Int),([] : List Fld))).1 = 3:=h124;obtain ⟨hk1,hk2⟩:=oth_keep next (next + (insC (l.take (i + 1)) : Int)) (yS (l.drop (i + 1))) h58 h124;rw [hk1,if_pos rfl,hk2] at hss;refine qO ?_;refine qB ?_;refine zai (by exact qR (show (sqD next next l i).length + 1 ≤ 1000000000 by omega) (by decide)) ?_;refine qB ?_;refine zai (by first|omega|assumption|decide|(simp only [zds];omega)|(simp <;> omega)) ?_;exact ⟨i + 1,by omega,by first|omega|(simp <;> omega),qP ⟨rfl,rfl,rfl,(yH (by omega))⟩ (qS (by rw [hss];try exact rfl)) rfl⟩
    ·try simp only [decide_eq_false_iff_not,Int.not_lt] at h49
     try simp only [zds] at h49
     refine yA ?_;refine qD ?_;refine qB ?_;refine qN ?_;have hi : i = l.length:=(by omega);subst hi;rw [sqz_yes (by omega),sqD_all];exact rfl
end Q
end Ab
end Go.Proofs.YtojipboabgebfaaGreatDoor
namespace Go.Proofs.YtojipboabgebfaaGreatDoor
open Go.RowKit
namespace Ab
set_option maxRecDepth 100000
namespace Q
def txF : List Fld:=[(⟨#[65]⟩,⟨#[50]⟩)]
def tx0 : Lst:=(al0,2,1)
def tx1 : Lst:=(replE al0 0 (itmOf txF),2,1)
def tx2 : Lst:=(delE (replE al0 0 (itmOf txF)) 0,2,0)
def te1 : List Edt:=[(1,1,txF)]
def te2 : List Edt:=[(1,1,txF),(2,1,[])]
theorem alive17_c : yB Tryz.prog 8 [] (ib true):=by
  have hof:=of_ok ⟨#[65,58,32,49,10]⟩ (by decide) a1_parse7;rw [show ofT [(3,⟨#[65,58,32,49,10]⟩,[(⟨#[65]⟩,⟨#[49]⟩)])] = tx0 from rfl] at hof;have hbe:=(tbegin_o (k:=1) tx0 (by decide)).x;have hrp:=trepF_o [(tx0,[])] tx0 [] 1 txF 0 (by decide) (by decide +kernel) ⟨by decide,by decide⟩ (by decide +kernel) (by decide) (by decide) rfl (by decide) (by decide);rw [show ([(tx0,[])] : List TSt) ++ [((replE tx0.1 0 (itmOf txF),tx0.2),[] ++ [(1,1,txF)])] = [(tx0,[]),(tx1,te1)] from rfl] at hrp;have hmk:=tmark_c (k:=1) [(tx0,[]),(tx1,te1)] (by decide);have hdl:=tdel_o [(tx0,[]),(tx1,te1)] tx1 te1 1 0 (by decide) (by decide +kernel) (by decide) (by decide) (by decide) rfl (by decide) (by decide);rw [show ([(tx0,[]),(tx1,te1)] : List TSt) ++ [((delE tx1.1 0,tx1.2.1,tx1.2.2 - 1),te1 ++ [(2,1,[])])] = [(tx0,[]),(tx1,te1),(tx2,te2)] from rfl] at hdl;have hls:=(tlist_o (k:=1) [(tx0,[]),(tx1,te1),(tx2,te2)] tx2 te2 (by decide) rfl (by decide)).x;have hbk:=tback_o [(tx0,[]),(tx1,te1),(tx2,te2)] 1 (by decide) (by decide);rw [show ([(tx0,[]),(tx1,te1),(tx2,te2)] : List TSt).take (1 + 1) = [(tx0,[]),(tx1,te1)] from rfl] at hbk;have hcm:=tcommit_o [(tx0,[]),(tx1,te1)] tx1 te1 (by decide) rfl (by decide) (by decide);have htx:=textL_c (k:=1) al0 2 1 (by decide) (by decide) (by decide +kernel);rw [show bytes (txtL al0) = ⟨#[65,58,32,49,10]⟩ from by decide +kernel] at htx;refine qZ (rs:=[0]) Tryz.func8 rfl rfl rfl teOk rfl ?_;refine qD ?_;refine qB ?_;refine qD ?_;refine qB ?_;refine Or.inr (Or.inl (zei [] (zei [] (zei _ (zei _ (zei _ (zei _ (zei _ (zai (hof) (zai rfl (zai True.intro (zai rfl ?_))))))))))));refine qD ?_;refine qD ?_;refine qB ?_;refine zai (fun h=>trivial) ?_;refine zai (fun h=>⟨⟨h,trivial⟩,trivial⟩) ?_;refine zai (by first|(intro h;rw [h];rfl)|(intro h;cases h)) ?_;refine qM rfl (fun h15=>?_) (fun h15=>?_)
  ·try simp only [Bool.not_eq_true',Bool.or_eq_true] at h15
   try simp only [zds] at h15
   simp at h15
  ·try simp only [Bool.not_eq_false',Bool.or_eq_false_iff] at h15
   try simp only [zds] at h15
   refine qO ?_;refine qD ?_;refine qB ?_;refine Or.inr (Or.inr (Or.inr (zei [] (zei [] (zei _ (zei _ (zei _ (zei _ (zei _ (zai (hbe) (zai rfl (zai True.intro (zai rfl ?_)))))))))))));refine qD ?_;refine qD ?_;refine qB ?_;refine zai (fun h=>trivial) ?_;refine zai (fun h=>⟨⟨h,trivial⟩,trivial⟩) ?_;refine zai (by first|(intro h;rw [h];rfl)|(intro h;cases h)) ?_;refine zai (fun h=>trivial) ?_;refine zai (fun h=>trivial) ?_;refine zai (fun h=>⟨⟨h,trivial⟩,trivial⟩) ?_;refine Or.inr (zai (by first|rfl|decide|simp) (zai (by repeat' (first|exact True.intro|apply zai|rfl|decide|simp)) ?_));refine Or.inr (Or.inl (zei [] (zei [5,4] (zei _ (zei _ (zei _ (zei _ (zei _ (zai (hrp) (zai rfl (zai (zai (zai rfl rfl) (zai (zai rfl rfl) True.intro)) (zai rfl ?_))))))))))));refine zai (fun h=>trivial) ?_;refine zai (by first|(intro h;rw [h];rfl)|(intro h;cases h)) ?_;refine qM rfl (fun h33=>?_) (fun h33=>?_)
   ·try simp only [Bool.not_eq_true',Bool.or_eq_true] at h33
    try simp only [zds] at h33
    simp at h33
   ·try simp only [Bool.not_eq_false',Bool.or_eq_false_iff] at h33
    try simp only [zds] at h33
    refine qO ?_;refine qD ?_;refine qB ?_;refine Or.inr (Or.inr (Or.inl ?_));refine zai rfl ?_;refine zei _ (zai (hmk) ?_);refine qD ?_;refine qD ?_;refine qB ?_;refine Or.inr (Or.inl (zei [] (zei [5,4] (zei _ (zei _ (zei _ (zei _ (zei _ (zai (hdl) (zai rfl (zai (zai (zai rfl rfl) (zai (zai rfl rfl) True.intro)) (zai rfl ?_))))))))))));refine zai (fun h=>trivial) ?_;refine Or.inr (zai (by first|rfl|decide|simp) (zai (by repeat' (first|exact True.intro|apply zai|rfl|decide|simp)) ?_));refine Or.inr (Or.inr (Or.inr (zei [] (zei [] (zei _ (zei _ (zei _ (zei _ (zei _ (zai (hls) (zai rfl (zai True.intro (zai rfl ?_)))))))))))));refine Or.inr (zai (by first|rfl|decide|simp) (zai (by repeat' (first|exact True.intro|apply zai|rfl|decide|simp)) ?_));refine Or.inr (Or.inr (Or.inl ?_));refine zai rfl ?_;refine zei _ (zai (len_c tx2.1 tx2.2.1 tx2.2.2) ?_);refine zai (fun h=>trivial) ?_;refine zai (by first|(intro h;rw [h];rfl)|(intro h;cases h)) ?_;refine zai (fun h=>trivial) ?_;refine zai (fun h=>trivial) ?_;refine Or.inr (zai (by first|rfl|decide|simp) (zai (by repeat' (first|exact True.intro|apply zai|rfl|decide|simp)) ?_));refine Or.inr (Or.inl (zei [] (zei [5,4] (zei _ (zei _ (zei _ (zei _ (zei _ (zai (hbk) (zai rfl (zai (zai (zai rfl rfl) (zai (zai rfl rfl) True.intro)) (zai rfl ?_))))))))))));refine zai (fun h=>trivial) ?_;refine zai (by first|(intro h;rw [h];rfl)|(intro h;cases h)) ?_;refine qM rfl (fun h50=>?_) (fun h50=>?_)
    ·try simp only [decide_eq_false_iff_not,Bool.not_eq_true',Bool.or_eq_true] at h50
     try simp only [zds] at h50
     simp at h50;exact absurd rfl h50
    ·try simp only [decide_eq_true_eq,Bool.not_eq_false',Bool.or_eq_false_iff] at h50
     try simp only [zds] at h50
     refine qO ?_;refine qD ?_;refine qB ?_;refine Or.inr (Or.inl (zei [] (zei [5,4] (zei _ (zei _ (zei _ (zei _ (zei _ (zai (hcm) (zai rfl (zai (zai (zai rfl rfl) (zai (zai rfl rfl) True.intro)) (zai rfl ?_))))))))))));refine qD ?_;refine qB ?_;refine zai (fun h=>trivial) ?_;refine zai (fun h=>⟨⟨h,trivial⟩,trivial⟩) ?_;refine zai (fun h=>⟨⟨h,trivial⟩,trivial⟩) ?_;refine zai (by exact fun h=>h) ?_;refine zai (fun h=>trivial) ?_;refine zai (fun h=>⟨⟨⟨h,trivial⟩,trivial⟩,by first|omega|decide|(simp only [zds];omega)|(have h9:=of_decide_eq_true h;omega)|(simp [gq] at h;omega)⟩) ?_;refine zai (fun h=>⟨⟨h,trivial⟩,trivial⟩) ?_;refine zai (fun h=>⟨⟨h,trivial⟩,trivial⟩) ?_;refine zai (fun h=>⟨⟨h,trivial⟩,trivial⟩) ?_;refine zai (by exact fun h=>h) ?_;refine zai (fun h=>trivial) ?_;refine zai (fun h=>⟨⟨h,trivial⟩,trivial⟩) ?_;refine zai (by exact fun h=>h) ?_;refine zai (fun h=>trivial) ?_;refine Or.inr (zai (by first|rfl|decide|simp) (zai (by repeat' (first|exact True.intro|apply zai|rfl|decide|simp)) ?_));refine Or.inr (Or.inr (Or.inl ?_));refine zai rfl ?_;refine zei _ (zai (htx) ?_);refine zai (fun h=>trivial) ?_;refine zai (by exact fun h=>h) ?_;refine qN ?_;exact ib_eq (by decide)
structure SeenI (es : List Ent) (n : Int) (i : Nat) (sn : List Bool) : Prop where
  le : i ≤ (stzL es).length
  len : sn.length = n.toNat
  seen : ∀ k : Nat,sn.getD k false = true → ∃ j,j < i ∧ ((stzL es).getD j ((0 : Int),([] : List Fld))).1 = k
theorem SeenI.next {es : List Ent} {n : Int} {i : Nat} {sn : List Bool} (h : SeenI es n i sn) (hi : i < (stzL es).length) (hp : 0 < ((stzL es).getD i ((0 : Int),([] : List Fld))).1) : SeenI es n (i + 1) (sn.set (((stzL es).getD i ((0 : Int),([] : List Fld))).1).toNat true):=by
  refine ⟨hi,by rw [List.length_set];exact h.len,fun k hk=>?_⟩
  by_cases e : (((stzL es).getD i ((0 : Int),([] : List Fld))).1).toNat = k
  · exact ⟨i,Nat.lt_succ_self _,by omega⟩
  · rw [List.getD_eq_getElem?_getD,List.getElem?_set_ne e,← List.getD_eq_getElem?_getD] at hk;obtain ⟨j,hj,h2⟩:=h.seen k hk;exact ⟨j,by omega,h2⟩
abbrev rStz3 : Rd Stz:=rStz.kd 3
def unkR (l : List (List Fld)) : List (List (Unit × Unit)):=l.map fun r=>r.map fun _=>((),())
theorem fld_unk {ok : Oks} {w : World} {cs : List Value} {f : Fld} (h : rFld.is ok w cs f) : rUnk2.is ok w cs ((),()) :=
  unks_is rUnk2 rfl (rFld.len h) (rFld.ones h)
theorem row_unk {ok : Oks} {w : World} {cs : List Value} {r : List Fld} (h : (Rd.slk 7 rFld).is ok w cs r) : (Rd.slk 7 rUnk2).is ok w cs (r.map fun _=>((),())):=by
  obtain ⟨v,e,a,cap,h1,h2,h3,h4⟩:=h;refine ⟨v,e,a,cap,by rw [List.length_map];exact h1,by rw [List.length_map];exact h2,h3,fun i hi=>?_⟩;rw [List.length_map] at hi;obtain ⟨b,off,cs,h5,h6,h7,h8,h9⟩:=h4 i hi;exact ⟨b,off,cs,h5,h6,h7,h8,fld_unk h9⟩
def plainI (x : Itm) : Bool:=decide ((chkR x.2.2).2 = 0) && decide (x.1 = 3) && decide (bytes (foldL x.2.2) = x.2.1)
abbrev rItmU : Rd (Int × ByteArray × List (Unit × Unit)):=.st (.int .i64) (.st .str (.slk 7 rUnk2))
def unkI (l : List Itm) : List (Int × ByteArray × List (Unit × Unit)):=l.map fun x=>(x.1,x.2.1,x.2.2.map fun _=>((),()))
abbrev rStzU : Rd (Int × List (Unit × Unit)):=.st (.int .i64) (.slk 7 rUnk2)
def unkS (l : List Stz) : List (Int × List (Unit × Unit)):=l.map fun x=>(x.1,x.2.map fun _=>((),()))
end Q
end Ab
end Go.Proofs.YtojipboabgebfaaGreatDoor
namespace Go.Proofs.YtojipboabgebfaaGreatDoor
open Go.RowKit
namespace Ab
set_option maxRecDepth 100000
abbrev rEdtV : Rd (Int × Int × List (Unit × Unit)):=.st (.int .i64) (.st (.int .i64) (.slk 7 rUnk2))
namespace Q
def unkD (l : List Edt) : List (Int × Int × List (Unit × Unit)):=l.map fun x=>(x.1,x.2.1,x.2.2.map fun _=>((),()))
theorem edt_unkD {ok : Oks} {w : World} {cs : List Value} {x : Edt} (h : (rEdt.kd 7).is ok w cs x) : rEdtV.is ok w cs (x.1,x.2.1,x.2.2.map fun _=>((),())):=by
  obtain ⟨c,d,e,h1,c2,d2,e2,h2,h3⟩:=h;exact ⟨c,d,e,h1,c2,d2,e2,h2,row_unk h3⟩
theorem ownD_c (s : List Edt) (hf : ∀ e ∈ s,e.2.2.length ≤ 1000000) (hl : s.length ≤ 1000000) : yB Tryz.prog 10 [.one (.sl rEdt s)] (.one (.sl rEdt s)):=by
  refine qZ (rs:=[2]) Tryz.func10 rfl rfl rfl teOk rfl ?_;refine qD ?_;refine qB ?_;refine qD ?_;refine qB ?_;refine qD ?_;refine qD ?_;refine qB ?_;intro l2_1
  try simp only [zds] at l2_1
  refine qQ ?_;refine qY (fun (i : Nat)=>i ≤ s.length) (fun (i : Nat)=>[(3,.one (.vec 0)),(7,.one (.sl rEdt s)),(8,ii .i64 s.length),(9,ii .i64 i)]) (fun (i : Nat)=>[(0,.vec 31 rEdt (s.take i))]) 1 (fun (i : Nat)=>s.length - i) 0 (Nat.zero_le _) (qP ⟨rfl,rfl,rfl,rfl⟩ rfl rfl) ?_;intro i hI0;refine qD ?_;refine qB ?_;refine qD ?_;refine qM rfl (fun h10=>?_) (fun h10=>?_)
  ·try simp only [decide_eq_true_eq] at h10
   try simp only [zds] at h10
   have hil : i < s.length:=(by omega);refine qO ?_;refine qD ?_;refine qQ ?_;refine qD ?_;refine qB ?_;refine zai (by first|omega|assumption|decide|(simp only [zds];omega)|(simp <;> omega)) ?_;refine yE rfl ?_;refine qE 0 rfl rfl rfl (by kernel_rfl) ?_;refine qE 1 rfl rfl rfl (by kernel_rfl) ?_;refine qE 3 rfl rfl rfl (by kernel_rfl) ?_;refine qE 5 rfl rfl rfl (by kernel_rfl) ?_;refine qC [2,4,6] (by kernel_rfl) rfl ?_;refine zai ?_ ?_
   ·refine qC [4,6] (by kernel_rfl) rfl ?_;refine zai ?_ ?_
    ·refine qC [6] (by kernel_rfl) rfl ?_;refine qC [7] (by kernel_rfl) rfl ?_;refine Or.inr (Or.inl (zei [] (zei [] (zei _ (zei _ (zei _ (zei _ (zei _ (zai (copiesF_o (s.getD i ((0 : Int),(0 : Int),([] : List Fld))).2.2 (hf _ (yN hil ((0 : Int),(0 : Int),([] : List Fld))))) (zai rfl (zai True.intro (zai rfl ?_))))))))))));refine qC [8] (by kernel_rfl) rfl ?_;refine qC [9] (by kernel_rfl) rfl ?_;refine qC [10] (by kernel_rfl) rfl ?_;refine zai (by exact qR (show (s.take i).length + 1 ≤ 1000000000 by rw [List.length_take];omega) (by decide)) ?_;refine qE 11 rfl rfl rfl (by kernel_rfl) ?_;refine qK (by kernel_rfl) ?_;refine qB ?_;refine zai (by first|omega|assumption|decide|(simp only [zds];omega)|(simp <;> omega)) ?_;exact ⟨i + 1,by omega,by first|omega|(simp <;> omega),qP ⟨rfl,rfl,rfl,(yH (by omega))⟩ (qS (by rw [← yG ((0 : Int),(0 : Int),([] : List Fld)) hil];exact rfl)) rfl⟩
    ·refine qC [4,7] (by kernel_rfl) rfl ?_;refine zai ?_ ?_
     ·refine qC [7] (by kernel_rfl) rfl ?_;refine Or.inr (Or.inl (zei [] (zei [] (zei _ (zei _ (zei _ (zei _ (zei _ (zai (copiesF_o (s.getD i ((0 : Int),(0 : Int),([] : List Fld))).2.2 (hf _ (yN hil ((0 : Int),(0 : Int),([] : List Fld))))) (zai rfl (zai True.intro (zai rfl ?_))))))))))));refine qC [8] (by kernel_rfl) rfl ?_;refine qC [9] (by kernel_rfl) rfl ?_;refine qC [10] (by kernel_rfl) rfl ?_;refine zai (by exact qR (show (s.take i).length + 1 ≤ 1000000000 by rw [List.length_take];omega) (by decide)) ?_;refine qE 11 rfl rfl rfl (by kernel_rfl) ?_;refine qK (by kernel_rfl) ?_;refine qB ?_;refine zai (by first|omega|assumption|decide|(simp only [zds];omega)|(simp <;> omega)) ?_;exact ⟨i + 1,by omega,by first|omega|(simp <;> omega),qP ⟨rfl,rfl,rfl,(yH (by omega))⟩ (qS (by rw [← yG ((0 : Int),(0 : Int),([] : List Fld)) hil];exact rfl)) rfl⟩
     ·refine Or.inr (Or.inl (zei [] (zei [] (zei _ (zei _ (zei _ (zei _ (zei _ (zai (copiesF_o (s.getD i ((0 : Int),(0 : Int),([] : List Fld))).2.2 (hf _ (yN hil ((0 : Int),(0 : Int),([] : List Fld))))) (zai rfl (zai True.intro (zai rfl ?_))))))))))));refine qC [4] (by kernel_rfl) rfl ?_;refine qC [8] (by kernel_rfl) rfl ?_;refine qC [9] (by kernel_rfl) rfl ?_;refine qC [10] (by kernel_rfl) rfl ?_;refine zai (by exact qR (show (s.take i).length + 1 ≤ 1000000000 by rw [List.length_take];omega) (by decide)) ?_;refine qE 11 rfl rfl rfl (by kernel_rfl) ?_;refine qK (by kernel_rfl) ?_;refine qB ?_;refine zai (by first|omega|assumption|decide|(simp only [zds];omega)|(simp <;> omega)) ?_;exact ⟨i + 1,by omega,by first|omega|(simp <;> omega),qP ⟨rfl,rfl,rfl,(yH (by omega))⟩ (qS (by rw [← yG ((0 : Int),(0 : Int),([] : List Fld)) hil];exact rfl)) rfl⟩
   refine zai ?_ ?_
   ·refine qC [2,6] (by kernel_rfl) rfl ?_;refine zai ?_ ?_
    ·refine qC [6] (by kernel_rfl) rfl ?_;refine qC [7] (by kernel_rfl) rfl ?_;refine Or.inr (Or.inl (zei [] (zei [] (zei _ (zei _ (zei _ (zei _ (zei _ (zai (copiesF_o (s.getD i ((0 : Int),(0 : Int),([] : List Fld))).2.2 (hf _ (yN hil ((0 : Int),(0 : Int),([] : List Fld))))) (zai rfl (zai True.intro (zai rfl ?_))))))))))));refine qC [8] (by kernel_rfl) rfl ?_;refine qC [9] (by kernel_rfl) rfl ?_;refine qC [10] (by kernel_rfl) rfl ?_;refine zai (by exact qR (show (s.take i).length + 1 ≤ 1000000000 by rw [List.length_take];omega) (by decide)) ?_;refine qE 11 rfl rfl rfl (by kernel_rfl) ?_;refine qK (by kernel_rfl) ?_;refine qB ?_;refine zai (by first|omega|assumption|decide|(simp only [zds];omega)|(simp <;> omega)) ?_;exact ⟨i + 1,by omega,by first|omega|(simp <;> omega),qP ⟨rfl,rfl,rfl,(yH (by omega))⟩ (qS (by rw [← yG ((0 : Int),(0 : Int),([] : List Fld)) hil];exact rfl)) rfl⟩
    ·refine qC [2,7] (by kernel_rfl) rfl ?_;refine zai ?_ ?_
     ·refine qC [7] (by kernel_rfl) rfl ?_;refine Or.inr (Or.inl (zei [] (zei [] (zei _ (zei _ (zei _ (zei _ (zei _ (zai (copiesF_o (s.getD i ((0 : Int),(0 : Int),([] : List Fld))).2.2 (hf _ (yN hil ((0 : Int),(0 : Int),([] : List Fld))))) (zai rfl (zai True.intro (zai rfl ?_))))))))))));refine qC [8] (by kernel_rfl) rfl ?_;refine qC [9] (by kernel_rfl) rfl ?_;refine qC [10] (by kernel_rfl) rfl ?_;refine zai (by exact qR (show (s.take i).length + 1 ≤ 1000000000 by rw [List.length_take];omega) (by decide)) ?_;refine qE 11 rfl rfl rfl (by kernel_rfl) ?_;refine qK (by kernel_rfl) ?_;refine qB ?_;refine zai (by first|omega|assumption|decide|(simp only [zds];omega)|(simp <;> omega)) ?_;exact ⟨i + 1,by omega,by first|omega|(simp <;> omega),qP ⟨rfl,rfl,rfl,(yH (by omega))⟩ (qS (by rw [← yG ((0 : Int),(0 : Int),([] : List Fld)) hil];exact rfl)) rfl⟩
     ·refine Or.inr (Or.inl (zei [] (zei [] (zei _ (zei _ (zei _ (zei _ (zei _ (zai (copiesF_o (s.getD i ((0 : Int),(0 : Int),([] : List Fld))).2.2 (hf _ (yN hil ((0 : Int),(0 : Int),([] : List Fld))))) (zai rfl (zai True.intro (zai rfl ?_))))))))))));refine qC [2] (by kernel_rfl) rfl ?_;refine qC [8] (by kernel_rfl) rfl ?_;refine qC [9] (by kernel_rfl) rfl ?_;refine qC [10] (by kernel_rfl) rfl ?_;refine zai (by exact qR (show (s.take i).length + 1 ≤ 1000000000 by rw [List.length_take];omega) (by decide)) ?_;refine qE 11 rfl rfl rfl (by kernel_rfl) ?_;refine qK (by kernel_rfl) ?_;refine qB ?_;refine zai (by first|omega|assumption|decide|(simp only [zds];omega)|(simp <;> omega)) ?_;exact ⟨i + 1,by omega,by first|omega|(simp <;> omega),qP ⟨rfl,rfl,rfl,(yH (by omega))⟩ (qS (by rw [← yG ((0 : Int),(0 : Int),([] : List Fld)) hil];exact rfl)) rfl⟩
   ·refine qC [2,4,7] (by kernel_rfl) rfl ?_;refine zai ?_ ?_
    ·refine qC [4,7] (by kernel_rfl) rfl ?_;refine zai ?_ ?_
     ·refine qC [7] (by kernel_rfl) rfl ?_;refine Or.inr (Or.inl (zei [] (zei [] (zei _ (zei _ (zei _ (zei _ (zei _ (zai (copiesF_o (s.getD i ((0 : Int),(0 : Int),([] : List Fld))).2.2 (hf _ (yN hil ((0 : Int),(0 : Int),([] : List Fld))))) (zai rfl (zai True.intro (zai rfl ?_))))))))))));refine qC [8] (by kernel_rfl) rfl ?_;refine qC [9] (by kernel_rfl) rfl ?_;refine qC [10] (by kernel_rfl) rfl ?_;refine zai (by exact qR (show (s.take i).length + 1 ≤ 1000000000 by rw [List.length_take];omega) (by decide)) ?_;refine qE 11 rfl rfl rfl (by kernel_rfl) ?_;refine qK (by kernel_rfl) ?_;refine qB ?_;refine zai (by first|omega|assumption|decide|(simp only [zds];omega)|(simp <;> omega)) ?_;exact ⟨i + 1,by omega,by first|omega|(simp <;> omega),qP ⟨rfl,rfl,rfl,(yH (by omega))⟩ (qS (by rw [← yG ((0 : Int),(0 : Int),([] : List Fld)) hil];exact rfl)) rfl⟩
     ·refine Or.inr (Or.inl (zei [] (zei [] (zei _ (zei _ (zei _ (zei _ (zei _ (zai (copiesF_o (s.getD i ((0 : Int),(0 : Int),([] : List Fld))).2.2 (hf _ (yN hil ((0 : Int),(0 : Int),([] : List Fld))))) (zai rfl (zai True.intro (zai rfl ?_))))))))))));refine qC [4] (by kernel_rfl) rfl ?_;refine qC [8] (by kernel_rfl) rfl ?_;refine qC [9] (by kernel_rfl) rfl ?_;refine qC [10] (by kernel_rfl) rfl ?_;refine zai (by exact qR (show (s.take i).length + 1 ≤ 1000000000 by rw [List.length_take];omega) (by decide)) ?_;refine qE 11 rfl rfl rfl (by kernel_rfl) ?_;refine qK (by kernel_rfl) ?_;refine qB ?_;refine zai (by first|omega|assumption|decide|(simp only [zds];omega)|(simp <;> omega)) ?_;exact ⟨i + 1,by omega,by first|omega|(simp <;> omega),qP ⟨rfl,rfl,rfl,(yH (by omega))⟩ (qS (by rw [← yG ((0 : Int),(0 : Int),([] : List Fld)) hil];exact rfl)) rfl⟩
    refine zai ?_ ?_
    ·refine qC [2,7] (by kernel_rfl) rfl ?_;refine zai ?_ ?_
     ·refine qC [7] (by kernel_rfl) rfl ?_;refine Or.inr (Or.inl (zei [] (zei [] (zei _ (zei _ (zei _ (zei _ (zei _ (zai (copiesF_o (s.getD i ((0 : Int),(0 : Int),([] : List Fld))).2.2 (hf _ (yN hil ((0 : Int),(0 : Int),([] : List Fld))))) (zai rfl (zai True.intro (zai rfl ?_))))))))))));refine qC [8] (by kernel_rfl) rfl ?_;refine qC [9] (by kernel_rfl) rfl ?_;refine qC [10] (by kernel_rfl) rfl ?_;refine zai (by exact qR (show (s.take i).length + 1 ≤ 1000000000 by rw [List.length_take];omega) (by decide)) ?_;refine qE 11 rfl rfl rfl (by kernel_rfl) ?_;refine qK (by kernel_rfl) ?_;refine qB ?_;refine zai (by first|omega|assumption|decide|(simp only [zds];omega)|(simp <;> omega)) ?_;exact ⟨i + 1,by omega,by first|omega|(simp <;> omega),qP ⟨rfl,rfl,rfl,(yH (by omega))⟩ (qS (by rw [← yG ((0 : Int),(0 : Int),([] : List Fld)) hil];exact rfl)) rfl⟩
     ·refine Or.inr (Or.inl (zei [] (zei [] (zei _ (zei _ (zei _ (zei _ (zei _ (zai (copiesF_o (s.getD i ((0 : Int),(0 : Int),([] : List Fld))).2.2 (hf _ (yN hil ((0 : Int),(0 : Int),([] : List Fld))))) (zai rfl (zai True.intro (zai rfl ?_))))))))))));refine qC [2] (by kernel_rfl) rfl ?_;refine qC [8] (by kernel_rfl) rfl ?_;refine qC [9] (by kernel_rfl) rfl ?_;refine qC [10] (by kernel_rfl) rfl ?_;refine zai (by exact qR (show (s.take i).length + 1 ≤ 1000000000 by rw [List.length_take];omega) (by decide)) ?_;refine qE 11 rfl rfl rfl (by kernel_rfl) ?_;refine qK (by kernel_rfl) ?_;refine qB ?_;refine zai (by first|omega|assumption|decide|(simp only [zds];omega)|(simp <;> omega)) ?_;exact ⟨i + 1,by omega,by first|omega|(simp <;> omega),qP ⟨rfl,rfl,rfl,(yH (by omega))⟩ (qS (by rw [← yG ((0 : Int),(0 : Int),([] : List Fld)) hil];exact rfl)) rfl⟩
    ·refine Or.inr (Or.inl (zei [] (zei [] (zei _ (zei _ (zei _ (zei _ (zei _ (zai (copiesF_o (s.getD i ((0 : Int),(0 : Int),([] : List Fld))).2.2 (hf _ (yN hil ((0 : Int),(0 : Int),([] : List Fld))))) (zai rfl (zai True.intro (zai rfl ?_))))))))))));refine qC [2,4] (by kernel_rfl) rfl ?_;refine zai ?_ ?_
     ·refine qC [4] (by kernel_rfl) rfl ?_;refine qC [8] (by kernel_rfl) rfl ?_;refine qC [9] (by kernel_rfl) rfl ?_;refine qC [10] (by kernel_rfl) rfl ?_;refine zai (by exact qR (show (s.take i).length + 1 ≤ 1000000000 by rw [List.length_take];omega) (by decide)) ?_;refine qE 11 rfl rfl rfl (by kernel_rfl) ?_;refine qK (by kernel_rfl) ?_;refine qB ?_;refine zai (by first|omega|assumption|decide|(simp only [zds];omega)|(simp <;> omega)) ?_;exact ⟨i + 1,by omega,by first|omega|(simp <;> omega),qP ⟨rfl,rfl,rfl,(yH (by omega))⟩ (qS (by rw [← yG ((0 : Int),(0 : Int),([] : List Fld)) hil];exact rfl)) rfl⟩
     ·refine qC [2] (by kernel_rfl) rfl ?_;refine qC [8] (by kernel_rfl) rfl ?_;refine qC [9] (by kernel_rfl) rfl ?_;refine qC [10] (by kernel_rfl) rfl ?_;refine zai (by exact qR (show (s.take i).length + 1 ≤ 1000000000 by rw [List.length_take];omega) (by decide)) ?_;refine qE 11 rfl rfl rfl (by kernel_rfl) ?_;refine qK (by kernel_rfl) ?_;refine qB ?_;refine zai (by first|omega|assumption|decide|(simp only [zds];omega)|(simp <;> omega)) ?_;exact ⟨i + 1,by omega,by first|omega|(simp <;> omega),qP ⟨rfl,rfl,rfl,(yH (by omega))⟩ (qS (by rw [← yG ((0 : Int),(0 : Int),([] : List Fld)) hil];exact rfl)) rfl⟩
  ·try simp only [decide_eq_false_iff_not,Int.not_lt] at h10
   try simp only [zds] at h10
   refine yA ?_;refine qD ?_;refine qB ?_;refine qN ?_;rw [List.take_of_length_le (by omega)];exact rfl
theorem fieldsKK_c {κ μ : Nat} (a b : List Fld) : yB Tryz.prog 59 [.one (.slk κ rFld a),.one (.slk μ rFld b)] (ib (decide (a = b))):=by
  refine qZ (rs:=[4]) Tryz.func59 rfl rfl rfl teOk rfl ?_;refine qD ?_;refine qB ?_;refine qD ?_;refine qD ?_;refine qB ?_;intro l1_1
  try simp only [zds] at l1_1
  intro l1_3
  try simp only [zds] at l1_3
  refine qM rfl (fun h10=>?_) (fun h10=>?_)
  ·try simp only [decide_eq_false_iff_not,Bool.not_eq_true'] at h10
   try simp only [zds] at h10
   refine qD ?_;refine qB ?_;refine qN ?_;exact ib_eq (decide_eq_false (fun e=>by rw [e] at h10;omega)).symm
  ·try simp only [decide_eq_true_eq,Bool.not_eq_false'] at h10
   try simp only [zds] at h10
   refine qO ?_;refine qD ?_;refine qD ?_;refine qB ?_;intro l3_1
   try simp only [zds] at l3_1
   refine qQ ?_;refine qY (fun (i : Nat)=>i ≤ a.length ∧ a.take i = b.take i) (fun (i : Nat)=>[(0,.one (.slk κ rFld a)),(1,.one (.slk μ rFld b)),(12,ii .i64 a.length),(13,ii .i64 i)]) (fun (i : Nat)=>[]) 0 (fun (i : Nat)=>a.length - i) 0 (⟨Nat.zero_le _,by simp⟩) (qP ⟨rfl,rfl,rfl,rfl⟩ trivial rfl) ?_;intro i hI0;obtain ⟨hi,ht⟩:=hI0;refine qD ?_;refine qB ?_;refine qD ?_;refine qM rfl (fun h14=>?_) (fun h14=>?_)
   ·try simp only [decide_eq_true_eq] at h14
    try simp only [zds] at h14
    have hla : i < a.length:=by omega
    have hlb : i < b.length:=by omega
    refine qO ?_;refine qD ?_;refine qQ ?_;refine qD ?_;refine qB ?_;refine qD ?_;refine acode_draw rfl (by kernel_rfl) ?_;refine zai (by first|omega|assumption|decide|(simp only [zds];omega)|(simp <;> omega)) ?_;refine zai (by first|omega|assumption|decide|(simp only [zds];omega)|(simp <;> omega)) ?_;refine zai (by rfl) ?_;refine qM rfl (fun h24=>?_) (fun h24=>?_)
    ·try simp only [decide_eq_false_iff_not,Bool.not_eq_true',Bool.and_eq_false_iff] at h24
     try simp only [Int.toNat_natCast,qI,qH] at h24
     refine qD ?_;refine qB ?_;refine qN ?_;exact ib_eq (decide_eq_false (ne_at (i:=i) (ByteArray.empty,ByteArray.empty) (fun e=>h24.elim (fun h=>h (congrArg Prod.fst e)) (fun h=>h (congrArg Prod.snd e))))).symm
    ·try simp only [decide_eq_true_eq,Bool.and_eq_true,Bool.not_eq_false'] at h24
     try simp only [Int.toNat_natCast,qI,qH] at h24
     refine qO ?_;refine qB ?_;refine zai (by first|omega|assumption|decide|(simp only [zds];omega)|(simp <;> omega)) ?_;exact ⟨i + 1,⟨by omega,list_ext_take (ByteArray.empty,ByteArray.empty) hla hlb ht (Prod.ext h24.1 h24.2)⟩,by first|omega|(simp <;> omega),qP ⟨rfl,rfl,rfl,(yH (by omega))⟩ trivial rfl⟩
   ·try simp only [decide_eq_false_iff_not,Int.not_lt] at h14
    try simp only [zds] at h14
    refine yA ?_;refine qD ?_;refine qB ?_;refine qN ?_;exact ib_eq (decide_eq_true (by rw [List.take_of_length_le (by omega),List.take_of_length_le (by omega)] at ht;exact ht)).symm
theorem editsKK_c {κ κ' μ μ' : Nat} (a b : List Edt) : yB Tryz.prog 12 [.one (.slk κ (rEdk κ') a),.one (.slk μ (rEdk μ') b)] (ib (decide (a = b))):=by
  refine qZ (rs:=[4]) Tryz.func12 rfl rfl rfl teOk rfl ?_;refine qD ?_;refine qB ?_;refine qD ?_;refine qD ?_;refine qB ?_;intro l1_1
  try simp only [zds] at l1_1
  intro l1_3
  try simp only [zds] at l1_3
  refine qM rfl (fun h10=>?_) (fun h10=>?_)
  ·try simp only [decide_eq_false_iff_not,Bool.not_eq_true'] at h10
   try simp only [zds] at h10
   refine qD ?_;refine qB ?_;refine qN ?_;exact ib_eq (decide_eq_false (fun e=>by rw [e] at h10;omega)).symm
  ·try simp only [decide_eq_true_eq,Bool.not_eq_false'] at h10
   try simp only [zds] at h10
   refine qO ?_;refine qD ?_;refine qD ?_;refine qB ?_;intro l3_1
   try simp only [zds] at l3_1
   refine qQ ?_;refine qY (fun (i : Nat)=>i ≤ a.length ∧ a.take i = b.take i) (fun (i : Nat)=>[(0,.one (.slk κ (rEdk κ') a)),(1,.one (.slk μ (rEdk μ') b)),(12,ii .i64 a.length),(13,ii .i64 i)]) (fun (i : Nat)=>[]) 0 (fun (i : Nat)=>a.length - i) 0 (⟨Nat.zero_le _,by simp⟩) (qP ⟨rfl,rfl,rfl,rfl⟩ trivial rfl) ?_;intro i hI0;obtain ⟨hi,ht⟩:=hI0;refine qD ?_;refine qB ?_;refine qD ?_;refine qM rfl (fun h14=>?_) (fun h14=>?_)
   ·try simp only [decide_eq_true_eq] at h14
    try simp only [zds] at h14
    have hla : i < a.length:=(by omega);have hlb : i < b.length:=(by omega);refine qO ?_;refine qD ?_;refine qQ ?_;refine qD ?_;refine qB ?_;refine qD ?_;refine acode_draw rfl (by kernel_rfl) ?_;refine zai (by first|omega|assumption|decide|(simp only [zds];omega)|(simp <;> omega)) ?_;refine zai (by first|omega|assumption|decide|(simp only [zds];omega)|(simp <;> omega)) ?_;refine zai (fun h=>trivial) ?_;refine zai (fun h=>trivial) ?_;refine zai (fun h=>⟨⟨⟨h,trivial⟩,⟨h,trivial⟩,trivial⟩,by first|omega|decide|(simp only [zds];omega)|(have h9:=of_decide_eq_true h;omega)|(simp [gq] at h;omega)⟩) ?_;refine zai (fun h=>⟨⟨h,trivial⟩,trivial⟩) ?_;refine zai (fun h=>⟨⟨h,trivial⟩,trivial⟩) ?_;refine zai (fun h=>trivial) ?_;refine zai (fun h=>trivial) ?_;refine zai (fun h=>⟨⟨⟨h,trivial⟩,⟨h,trivial⟩,trivial⟩,by first|omega|decide|(simp only [zds];omega)|(have h9:=of_decide_eq_true h;omega)|(simp [gq] at h;omega)⟩) ?_;refine zai (fun h=>⟨⟨h,trivial⟩,trivial⟩) ?_;refine zai (fun h=>⟨⟨h,trivial⟩,trivial⟩) ?_;refine zai (fun h=>⟨⟨h,trivial⟩,⟨h,trivial⟩,trivial⟩) ?_;refine zai (by first|(intro h;rw [h];rfl)|(intro h;cases h)) ?_;refine zai (fun h=>trivial) ?_;refine zai (fun h=>trivial) ?_;refine zai (fun h=>⟨⟨⟨h,trivial⟩,⟨h,trivial⟩,trivial⟩,by first|omega|decide|(simp only [zds];omega)|(have h9:=of_decide_eq_true h;omega)|(simp [gq] at h;omega)⟩) ?_;refine zai (fun h=>⟨⟨h,trivial⟩,trivial⟩) ?_;refine zai (fun h=>⟨⟨h,trivial⟩,trivial⟩) ?_;refine zai (fun h=>trivial) ?_;refine zai (fun h=>trivial) ?_;refine zai (fun h=>⟨⟨⟨h,trivial⟩,⟨h,trivial⟩,trivial⟩,by first|omega|decide|(simp only [zds];omega)|(have h9:=of_decide_eq_true h;omega)|(simp [gq] at h;omega)⟩) ?_;refine zai (fun h=>⟨⟨h,trivial⟩,trivial⟩) ?_;refine zai (fun h=>⟨⟨h,trivial⟩,trivial⟩) ?_;refine zai (rfl) ?_;refine zei _ (zai (fun h=>⟨⟨⟨h,trivial⟩,⟨h,trivial⟩,trivial⟩,fieldsKK_c (κ:=κ') (μ:=μ') (a.getD i ((0 : Int),(0 : Int),([] : List Fld))).2.2 (b.getD i ((0 : Int),(0 : Int),([] : List Fld))).2.2⟩) ?_);refine zai (fun h=>⟨⟨h,trivial⟩,trivial⟩) ?_;refine zai (by first|(intro h;rw [h];rfl)|(intro h;cases h)) ?_;refine qM rfl (fun h53=>?_) (fun h53=>?_)
    ·try simp only [decide_eq_false_iff_not,Bool.not_eq_true',Bool.or_eq_true] at h53
     try simp only [Int.toNat_natCast,qI,qG] at h53
     refine qD ?_;refine qB ?_;refine qN ?_;exact ib_eq (decide_eq_false (ne_at (i:=i) ((0 : Int),(0 : Int),([] : List Fld)) (fun e=>by rcases h53 with (h|h)|h;exact h (congrArg Prod.fst e);exact h (congrArg (fun p=>p.2.1) e);exact h (congrArg (fun p=>p.2.2) e)))).symm
    ·try simp only [decide_eq_true_eq,Bool.not_eq_false',Bool.or_eq_false_iff] at h53
     try simp only [Int.toNat_natCast,qI,qG] at h53
     refine qO ?_;refine qB ?_;refine zai (by first|omega|assumption|decide|(simp only [zds];omega)|(simp <;> omega)) ?_;exact ⟨i + 1,⟨by omega,list_ext_take ((0 : Int),(0 : Int),([] : List Fld)) hla hlb ht (Prod.ext h53.1.1 (Prod.ext h53.1.2 h53.2))⟩,by first|omega|(simp <;> omega),qP ⟨rfl,rfl,rfl,(yH (by omega))⟩ trivial rfl⟩
   ·try simp only [decide_eq_false_iff_not,Int.not_lt] at h14
    try simp only [zds] at h14
    refine yA ?_;refine qD ?_;refine qB ?_;refine qN ?_;exact ib_eq (decide_eq_true (by rw [List.take_of_length_le (by omega),List.take_of_length_le (by omega)] at ht;exact ht)).symm
theorem flds_fate {n : Int} {g : List Fld} : ∀ {l : List Edt},(∀ e ∈ l,FldsOk e.2.2) → fate n l = some (g,false) → FldsOk g
  | [],_,h=>by cases h
  | x :: r,hf,h=>by
    have ih:=flds_fate (n:=n) (g:=g) (l:=r) (fun e he=>hf e (by simp [he]));rw [fate_cons] at h;split at h
    · cases h
    · split at h
      · cases hr : fate n r with
        | none =>
          rw [hr] at h;cases h;exact hf x (by simp)
        | some y =>
          rw [hr] at h;cases h;exact ih hr
      · exact ih h
theorem flds_fatF {n : Int} {l : List Edt} (hf : ∀ e ∈ l,FldsOk e.2.2) {f : List Fld} (h : FldsOk f) : FldsOk (fatF (getM (yS l) n) f):=by
  rw [fateM_get];cases hr : fate n l with
  | none=>exact h
  | some y =>
    obtain ⟨y,c⟩:=y;cases c with
    | true=>exact h
    | false=>exact flds_fate hf hr
theorem flds_sq {f : Int} : ∀ {n : Int} {l : List Edt},(∀ e ∈ l,FldsOk e.2.2) → ∀ e ∈ sqL f n l,FldsOk e.2.2
  | _,[],_,e,he=>by cases he
  | n,x :: r,hf,e,he=>by
    have hr : ∀ e ∈ r,FldsOk e.2.2:=fun e he=>hf e (by simp [he])
    rw [sqL] at he;rcases List.mem_append.1 he with h|h
    · split at h
      · rw [List.mem_singleton.1 h];unfold xG;split
        · exact flds_fatF hr (hf x (by simp))
        · exact hf x (by simp)
      · cases h
    · exact flds_sq hr e h
theorem mem_sqz {next : Int} {l : List Edt} (hf : ∀ e ∈ l,FldsOk e.2.2) : ∀ e ∈ sqz next l,FldsOk e.2.2:=by
  unfold sqz;split
  · exact flds_sq hf
  · intro e he;cases he
theorem TxnSqueezes_c (next : Int) (a : List Edt) : yB Tryz.prog 3 [ii .i64 next,.one (.sl rEdt a)] (ib true):=by
  have hva:=heavy_c a
  by_cases hh : heavyB a = true
  · rw [hh] at hva;refine qZ (rs:=[4]) Tryz.func3 rfl rfl rfl teOk rfl ?_;refine qD ?_;refine qB ?_;refine qD ?_;refine qD ?_;refine qB ?_;refine Or.inl ?_;refine zai (rfl) ?_;refine zei _ (zai (alive17_c) ?_);refine qM rfl (fun h10=>?_) (fun h10=>?_)
    ·try simp only [Bool.not_eq_true'] at h10
     try simp only [zds] at h10
     simp at h10
    ·try simp only [Bool.not_eq_false'] at h10
     try simp only [zds] at h10
     refine qO ?_;refine qD ?_;refine qD ?_;refine qB ?_;refine Or.inl ?_;refine zai (rfl) ?_;refine zei _ (zai (hva) ?_);refine qM rfl (fun h12=>?_) (fun h12=>?_)
     ·skip
      refine qD ?_;refine qB ?_;refine qN ?_;rfl
     ·try simp only [zbq] at h12
      try simp only [zds] at h12
      simp at h12
  · have hh : heavyB a = false:=by simpa using hh
    rw [hh] at hva;obtain ⟨hsa,hma⟩:=heavy_ok hh;have hfa : ∀ e ∈ a,FldsOk e.2.2:=fun e he=>much_ok (hma e he)
    have hla : ∀ e ∈ a,e.2.2.length ≤ 1000000:=fun e he=>Nat.le_trans (hfa e he).1 (by decide)
    have hlz : ∀ e ∈ sqz next a,e.2.2.length ≤ 1000000:=fun e he=>Nat.le_trans (mem_sqz hfa e he).1 (by decide)
    have hzl:=sqz_le next a;have hsq:=squeeze_c (κ:=1) (κ':=7) next (sqz next a) hlz (by omega);rw [sqz_sqz] at hsq;refine qZ (rs:=[4]) Tryz.func3 rfl rfl rfl teOk rfl ?_;refine qD ?_;refine qB ?_;refine qD ?_;refine qD ?_;refine qB ?_;refine Or.inl ?_;refine zai (rfl) ?_;refine zei _ (zai (alive17_c) ?_);refine qM rfl (fun h10=>?_) (fun h10=>?_)
    ·try simp only [Bool.not_eq_true'] at h10
     try simp only [zds] at h10
     simp at h10
    ·try simp only [Bool.not_eq_false'] at h10
     try simp only [zds] at h10
     refine qO ?_;refine qD ?_;refine qD ?_;refine qB ?_;refine Or.inl ?_;refine zai (rfl) ?_;refine zei _ (zai (hva) ?_);refine qM rfl (fun h12=>?_) (fun h12=>?_)
     ·try simp only [zbq] at h12
      try simp only [zds] at h12
      simp at h12
     ·skip
      refine qO ?_;refine qD ?_;refine qB ?_;refine Or.inl ?_;refine zai (rfl) ?_;refine zei _ (zai (ownD_c a hla (by omega)) ?_);show qV _ _ _ _ _ _ _ _ _;refine acode_bag [4] [] 2 rfl rfl rfl rfl (by kernel_rfl) ?_;refine zei _ (zei _ (zei _ (zai (squeeze3_o (κ:=0) (κ':=0) next a hla (by omega)) (zai rfl ?_))));refine qD ?_;refine qD ?_;refine qB ?_;refine Or.inl ?_;refine zai (rfl) ?_;refine zei _ (zai (refSq_c next a (by omega)) ?_);refine Or.inr (Or.inr (Or.inl ?_));refine zai rfl ?_;refine zei _ (zai (editsKK_c (κ:=1) (κ':=7) (μ:=0) (μ':=0) (sqz next a) (sqz next a)) ?_);refine zai (fun h=>trivial) ?_;refine zai (fun h=>trivial) ?_;refine Or.inl ?_;refine zai (rfl) ?_;refine zei _ (zai (fun h=>⟨⟨⟨h,trivial⟩,⟨h,trivial⟩,trivial⟩,editsKK_c (κ:=0) (κ':=0) (μ:=0) (μ':=0) a a⟩) ?_);refine zai (fun h=>⟨⟨h,trivial⟩,trivial⟩) ?_;refine zai (by first|(intro h;rw [h];rfl)|(intro h;cases h)) ?_;refine zai (fun h=>trivial) ?_;refine zai (fun h=>trivial) ?_;refine Or.inr (zai (by simp [gq]) (zai (by repeat' (first|exact True.intro|apply zai|rfl|decide|simp)) ?_));refine Or.inr (Or.inr (Or.inl ?_));refine zai rfl ?_;refine zei _ (zai (hsq) ?_);refine zai (fun h=>trivial) ?_;refine Or.inr (zai (by simp [gq]) (zai (by repeat' (first|exact True.intro|apply zai|rfl|decide|simp)) ?_));refine Or.inr (Or.inr (Or.inl ?_));refine zai rfl ?_;refine zei _ (zai (editsKK_c (κ:=0) (κ':=0) (μ:=1) (μ':=7) (sqz next a) (sqz next a)) ?_);refine zai (fun h=>trivial) ?_;refine zai (by first|(intro h;rw [h];rfl)|(intro h;cases h)) ?_;refine qM rfl (fun h37=>?_) (fun h37=>?_)
      ·try simp only [decide_eq_false_iff_not,Bool.not_eq_true',Bool.or_eq_true] at h37
       try simp only [zds] at h37
       first|(simp at h37;done)|(cases h37;done)|(exact h37.elim)|(trace_state;sorry)
      ·try simp only [decide_eq_true_eq,Bool.not_eq_false',Bool.or_eq_false_iff] at h37
       try simp only [zds] at h37
       refine qO ?_;refine qD ?_;refine qD ?_;refine acode_restate 0 (S:=rEdtV) (ys:=unkD (sqz next a)) rfl rfl (by simp [unkD]) (fun ok w cs j hj hj' h=>by rw [show (unkD (sqz next a))[j] = (((sqz next a)[j]).1,((sqz next a)[j]).2.1,((sqz next a)[j]).2.2.map fun _=>((),())) from List.getElem_map ..];exact edt_unkD h) ?_;refine qB ?_;intro l9_1
       try simp only [zds] at l9_1
       refine qQ ?_;refine qY (fun (j : Nat)=>j ≤ (unkD (sqz next a)).length) (fun (j : Nat)=>[(1,.one (.sl rEdt a)),(5,.one (.sl rEdt a)),(38,.one (.vec 0)),(39,ii .i64 (unkD (sqz next a)).length),(40,ii .i64 j)]) (fun (j : Nat)=>[(0,.vec 31 rEdtV (unkD (sqz next a)))]) 1000001 (fun (j : Nat)=>(unkD (sqz next a)).length - j) 0 (Nat.zero_le _) (qP ⟨rfl,rfl,rfl,rfl,rfl⟩ rfl rfl) ?_;intro j hI0;refine qD ?_;refine qB ?_;refine qD ?_;refine qM rfl (fun h41=>?_) (fun h41=>?_)
       ·try simp only [decide_eq_true_eq] at h41
        try simp only [zds] at h41
        have hjl : j < (unkD (sqz next a)).length:=(by omega);refine qO ?_;refine qD ?_;refine qQ ?_;refine qD ?_;refine qB ?_;refine zai (by first|omega|assumption|decide|(simp only [zds];omega)|(simp <;> omega)) ?_;refine zai (by omega) ?_;show qV _ _ _ _ _ _ _ _ _;refine acode_spoil 2 rfl rfl rfl (by rfl) ?_;refine zei _ (zei _ (zai rfl (zai (spoil7_c) (zai rfl (zai rfl (zai rfl ?_))))));refine qB ?_;refine zai (by first|omega|assumption|decide|(simp only [zds];omega)|(simp <;> omega)) ?_;exact ⟨j + 1,by omega,by first|omega|(simp <;> omega),qP ⟨rfl,rfl,rfl,rfl,(yH (by omega))⟩ rfl rfl⟩
       ·try simp only [decide_eq_false_iff_not,Int.not_lt] at h41
        try simp only [zds] at h41
        refine yA ?_;refine qD ?_;refine qB ?_;refine Or.inl ?_;refine zai (rfl) ?_;refine zei _ (zai (editsKK_c (κ:=0) (κ':=0) (μ:=0) (μ':=0) a a) ?_);refine qN ?_;exact ib_eq (by simp)
end Q
end Ab
end Go.Proofs.YtojipboabgebfaaGreatDoor
namespace Go.Proofs.YtojipboabgebfaaGreatDoor
open Go.RowKit
namespace Ab
set_option maxRecDepth 100000
theorem o_str : Opens Tryz.prog 9 .str:=opens_str Tryz.underlying9 (by kernel_rfl)
theorem o_int : Opens Tryz.prog 3 (.int .i64):=opens_int Tryz.underlying3 (by kernel_rfl)
theorem o_field : Opens Tryz.prog 107 (.st .str .str):=opens_st Tryz.underlying107 (by kernel_rfl) (.cons rfl o_str (.one rfl o_str))
theorem o_fields : Opens Tryz.prog 29 (.sl (.st .str .str)):=opens_sl (by decide) Tryz.underlying29 (by kernel_rfl) o_field
theorem maxAt {W : World} (h : W.ShapedOpen Tryz.prog) : MaxCell W:=cell_of_shapedOpen_int (g:=1) (t:=3) (zero:=#[.int .i64 0]) h (of_decide_eq_true (by kernel_rfl)) (by kernel_rfl) rfl (by kernel_rfl) (by kernel_rfl) Tryz.underlying3
theorem lt_of_cell0 {W : World} {b : Nat} {v : Value} (h : W.cell? ⟨b,0,none⟩ = some v) : b < W.heap.size:=by
  rcases Nat.lt_or_ge b W.heap.size with h1|h1
  · exact h1
  · exfalso
    simp only [World.cell?,Array.getElem?_eq_none h1] at h;cases h
theorem errAny {W : World} (h : W.ShapedOpen Tryz.prog) : ∃ v,W.cell? ⟨0,0,none⟩ = some v:=by
  obtain ⟨cs,hh,hs,_⟩:=h.1 0 #[.nilIface] 291 (of_decide_eq_true (by kernel_rfl)) (by kernel_rfl);have h1 : 0 < cs.size:=by rw [hs];decide
  exact ⟨cs[0],by simp [World.cell?,hh,h1]⟩
theorem globAt {W : World} (h : W.ShapedOpen Tryz.prog) : GlobAt AllOk W:=by
  obtain ⟨m,hm⟩:=maxAt h;obtain ⟨v,hv⟩:=errAny h;refine ⟨fun _ _=>trivial,?_,⟨m,hm⟩,v,hv⟩;have h1:=lt_of_cell0 hm;have h2:=lt_of_cell0 hv;unfold nGlob;omega
theorem o_edit : Opens Tryz.prog 31 (.st (.int .i64) (.st (.int .i64) (.sl (.st .str .str)))):=opens_st Tryz.underlying31 (by kernel_rfl) (.cons rfl o_int (.cons rfl o_int (.one rfl o_fields)))
theorem o_edits : Opens Tryz.prog 22 (.sl (.st (.int .i64) (.st (.int .i64) (.sl (.st .str .str))))):=opens_sl (by decide) Tryz.underlying22 (by kernel_rfl) o_edit
theorem open_edits {H : Type} {enc : TypeId × Value → H} {W : World} {base : Nat} {v : Value} {d : DataW H} {p : List MemPlace} (hv : Value.okWide Tryz.prog W .any base 22 v) (h : DataW.Trod enc Tryz.prog W 0 (fun _=>true) true 22 v d p) :
    ∃ xs,(C.sl (.st (.int .i64) (.st (.int .i64) (.sl (.st .str .str)))) xs).rep AllOk yF W v:=open_sl Tryz.underlying22 o_edits hv h
end Ab
end Go.Proofs.YtojipboabgebfaaGreatDoor
