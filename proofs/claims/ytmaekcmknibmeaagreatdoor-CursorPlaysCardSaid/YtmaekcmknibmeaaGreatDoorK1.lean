/-
  The texts of this proof, joined: abstract values, the library, the functions of the program and what they compute (part 1). No condition.
-/
import Derived.Below
import Derived.Control
import Derived.Laws.AppendOwn
import Derived.WalkKit
import Derived.Laws.Cells
import Derived.Laws.StructEq
import Derived.Laws.Strings2
import Derived.Deep.AppendSrc
import Derived.WalkLawsBesides
import Derived.Laws.Tables
import Derived.MapKept
import Derived.OrdersIn
import Derived.TacticsIn
import Derived.RangeFuncCalls
import Derived.RangeFuncLeaves
import Derived.RangeFuncNested
import Derived.LoopNIn
import Derived.Laws.CopyRow
namespace Go.Proofs.YtmaekcmknibmeaaGreatDoor
theorem zai {a b : Prop} (x : a) (y : b) : a ∧ b:=⟨x,y⟩
theorem zei.{v} {α : Sort v} {p : α → Prop} (w : α) (h : p w) : Exists p:=⟨w,h⟩
theorem zbq : (∀ (p : Prop) [Decidable p],(decide p = true) = p) ∧ (∀ (p : Prop) [Decidable p],decide p = false ↔ ¬ p) ∧ (∀ a b : Bool,((a && b) = true) = (a = true ∧ b = true)) ∧ (∀ b : Bool,((!b) = true) = (b = false)) ∧ (∀ b : Bool,((!b) = false) = (b = true)) ∧ (∀ a b : Bool,(a || b) = false ↔ a = false ∧ b = false) ∧ (∀ a b : Bool,((a || b) = true) = (a = true ∨ b = true)) ∧ (∀ a b : Bool,(a && b) = false ↔ a = false ∨ b = false) ∧ (∀ a b : Int,¬ a < b ↔ b ≤ a) ∧ (∀ a b : Int,¬ a ≤ b ↔ b < a):=⟨fun _ _=>decide_eq_true_eq,fun _ _=>decide_eq_false_iff_not,Bool.and_eq_true,Bool.not_eq_true',Bool.not_eq_false',fun _ _=>Bool.or_eq_false_iff,Bool.or_eq_true,fun _ _=>Bool.and_eq_false_iff,fun _ _=>Int.not_lt,fun _ _=>Int.not_le⟩
open Go.RowKit
namespace Ab
inductive Rd : Type → Type 1
  | str : Rd ByteArray
  | int (k : IntKind) : Rd Int
  | bool : Rd Bool
  | raw : Rd Value
  | unk : Rd Unit
  | slk (k : Nat) {α : Type} (R : Rd α) : Rd (List α)
  | ptk (k : Nat) {α : Type} (R : Rd α) : Rd α
  | ifc (t : TypeId) {α : Type} (R : Rd α) : Rd α
  | st {α β : Type} (R : Rd α) (S : Rd β) : Rd (α × β)
@[match_pattern] abbrev Rd.sl {α : Type} (R : Rd α) : Rd (List α):=.slk 0 R
abbrev Oks:=Nat → Nat → Prop
def Rd.n : {α : Type} → Rd α → Nat
  | _,.str=>1
  | _,.int _=>1
  | _,.bool=>1
  | _,.raw=>1
  | _,.unk=>1
  | _,.slk _ _=>1
  | _,.ptk _ _=>1
  | _,.ifc _ _=>1
  | _,.st R S=>R.n + S.n
theorem Rd.n_pos : ∀ {α : Type} (R : Rd α),0 < R.n
  | _,.str=>Nat.one_pos
  | _,.int _=>Nat.one_pos
  | _,.bool=>Nat.one_pos
  | _,.raw=>Nat.one_pos
  | _,.unk=>Nat.one_pos
  | _,.slk _ _=>Nat.one_pos
  | _,.ptk _ _=>Nat.one_pos
  | _,.ifc _ _=>Nat.one_pos
  | _,.st R S=>by
    have:=R.n_pos;simp only [Rd.n];omega
def xT (w : World) (b off n : Nat) (cs : List Value) : Prop:=cs.length = n ∧ ∀ j,j < n → w.cell? ⟨b,off + j,none⟩ = cs[j]?
def SlOk {α : Type} (n : Nat) (Pr : List Value → α → Prop) (ok : Nat → Prop) (w : World) (v : Value) (xs : List α) : Prop :=
  ∃ a cap,v = .slice a xs.length cap ∧ xs.length ≤ cap ∧ cap ≤ maxLen ∧
    ∀ i (h : i < xs.length),∃ b off cs,a = some ⟨b,off,none⟩ ∧ ok b ∧ b < w.heap.size ∧ xT w b (off + i * n) n cs ∧ Pr cs xs[i]
def bJ : Value → Bool
  | .bool _=>true
  | .int _ _=>true
  | .string _=>true
  | .nilIface=>true
  | .nilFunc=>true
  | .pointer none=>true
  | .slice none 0 0=>true
  | .map none=>true
  | .iface _ v=>bJ v
  | _=>false
theorem fV {v : Value} (h : bJ v = true) : v.oneCell' = true:=by
  cases v <;> first|rfl|(simp [bJ] at h)
def Unfz (w : World) (b : Nat) : Prop:=∃ cs T,w.heap[b]? = some (.cells cs T (0,0))
theorem okU0 {ok : Nat → Nat → Prop} {w : World} {b : Nat} (h : ok 0 b) : ok 0 b ∧ (0 = 3 ∨ 0 = 7 → Unfz w b):=⟨h,fun e=>by cases e <;> contradiction⟩
theorem okU1 {ok : Nat → Nat → Prop} {w : World} {b : Nat} (h : ok 1 b) : ok 1 b ∧ (1 = 3 ∨ 1 = 7 → Unfz w b):=⟨h,fun e=>by cases e <;> contradiction⟩
def okU (ok : Oks) (w : World) (k b : Nat) : Prop:=ok k b ∧ (k = 3 ∨ k = 7 → Unfz w b)
def Rd.is : {α : Type} → Rd α → Oks → World → List Value → α → Prop
  | _,.str,_,_,cs,s=>cs = [.string s]
  | _,.int k,_,_,cs,x=>cs = [.int k x]
  | _,.bool,_,_,cs,x=>cs = [.bool x]
  | _,.raw,_,_,cs,x=>cs = [x] ∧ bJ x = true
  | _,.unk,_,_,cs,_=>∃ v,cs = [v] ∧ v.oneCell' = true
  | _,.slk k R,ok,w,cs,xs=>∃ v,cs = [v] ∧ SlOk R.n (fun cs x=>R.is ok w cs x) (okU ok w k) w v xs
  | _,.ptk k R,ok,w,cs,x=>∃ b off ds,cs = [.pointer (some ⟨b,off,none⟩)] ∧ okU ok w k b ∧ b < w.heap.size ∧ xT w b off R.n ds ∧ R.is ok w ds x
  | _,.ifc t R,ok,w,cs,x=>∃ u,cs = [.iface t u] ∧ R.is ok w [u] x
  | _,.st R S,ok,w,cs,x=>∃ c d,cs = c ++ d ∧ R.is ok w c x.1 ∧ S.is ok w d x.2
theorem Rd.len : ∀ {α : Type} (R : Rd α) {ok : Oks} {w : World} {cs : List Value} {x : α},R.is ok w cs x → cs.length = R.n
  | _,.str,_,_,_,_,h=>by rw [show _ = _ from h];rfl
  | _,.int _,_,_,_,_,h=>by rw [show _ = _ from h];rfl
  | _,.bool,_,_,_,_,h=>by rw [show _ = _ from h];rfl
  | _,.raw,_,_,_,_,h=>by rw [h.1];rfl
  | _,.unk,_,_,_,_,h=>by obtain ⟨v,e,_⟩:=h;rw [e];rfl
  | _,.slk _ _,_,_,_,_,h=>by obtain ⟨v,e,_⟩:=h;rw [e];rfl
  | _,.ptk _ _,_,_,_,_,h=>by obtain ⟨b,off,ds,e,_⟩:=h;rw [e];rfl
  | _,.ifc _ _,_,_,_,_,h=>by obtain ⟨u,e,_⟩:=h;rw [e];rfl
  | _,.st R S,_,_,_,_,h=>by
    obtain ⟨c,d,e,h1,h2⟩:=h;rw [e,List.length_append,R.len h1,S.len h2];rfl
theorem Rd.ones : ∀ {α : Type} (R : Rd α) {ok : Oks} {w : World} {cs : List Value} {x : α},R.is ok w cs x → ∀ v ∈ cs,v.oneCell' = true
  | _,.str,_,_,_,_,h,v,hv=>by rw [show _ = _ from h] at hv;simp at hv;subst hv;rfl
  | _,.int _,_,_,_,_,h,v,hv=>by rw [show _ = _ from h] at hv;simp at hv;subst hv;rfl
  | _,.bool,_,_,_,_,h,v,hv=>by rw [show _ = _ from h] at hv;simp at hv;subst hv;rfl
  | _,.raw,_,_,_,_,h,v,hv=>by rw [h.1] at hv;simp at hv;subst hv;exact fV h.2
  | _,.unk,_,_,_,_,h,v,hv=>by
    obtain ⟨u,e,h1⟩:=h;rw [e] at hv;simp at hv;subst hv;exact h1
  | _,.slk _ _,_,_,_,_,h,v,hv=>by
    obtain ⟨u,e,a,cap,hu,_⟩:=h;rw [e] at hv;simp at hv;subst hv;rw [hu];rfl
  | _,.ptk _ _,_,_,_,_,h,v,hv=>by
    obtain ⟨b,off,ds,e,_⟩:=h;rw [e] at hv;simp at hv;subst hv;rfl
  | _,.ifc _ _,_,_,_,_,h,v,hv=>by
    obtain ⟨u,e,_⟩:=h;rw [e] at hv;simp at hv;subst hv;rfl
  | _,.st R S,_,_,_,_,h,v,hv=>by
    obtain ⟨c,d,e,h1,h2⟩:=h;rw [e] at hv;rcases List.mem_append.1 hv with hv|hv
    · exact R.ones h1 v hv
    · exact S.ones h2 v hv
def Keeps1 (ok ok' : Nat → Prop) (w w' : World) : Prop:=∀ b,ok b → b < w.heap.size → ok' b ∧ w'.heap[b]? = w.heap[b]?
def xI (ok ok' : Oks) (w w' : World) : Prop:=∀ k b,ok k b → b < w.heap.size → ok' k b ∧ w'.heap[b]? = w.heap[b]?
theorem kL {w w' : World} {b : Nat} (h : w'.heap[b]? = w.heap[b]?) (hlt : b < w.heap.size) : b < w'.heap.size:=by
  rcases Nat.lt_or_ge b w'.heap.size with h'|h'
  · exact h'
  · rw [Array.getElem?_eq_none h',Array.getElem?_eq_getElem hlt] at h;cases h
theorem xT.of_block {w w' : World} {b off n : Nat} {cs : List Value} (hb : w'.heap[b]? = w.heap[b]?) (h : xT w b off n cs) : xT w' b off n cs :=
  ⟨h.1,fun j hj=>by rw [World.cell?_of_block (w:=w) hb];exact h.2 j hj⟩
theorem SlOk.kept {α : Type} {n : Nat} {Pr Pr' : List Value → α → Prop} {ok ok' : Nat → Prop} {w w' : World} {v : Value} {xs : List α} (hk : Keeps1 ok ok' w w')
    (hp : ∀ cs x,Pr cs x → Pr' cs x) (h : SlOk n Pr ok w v xs) : SlOk n Pr' ok' w' v xs:=by
  obtain ⟨a,cap,hv,h1,h2,hc⟩:=h;refine ⟨a,cap,hv,h1,h2,fun i hi=>?_⟩;obtain ⟨b,off,cs,ha,hb,hlt,hcell,hr⟩:=hc i hi;have hkb:=hk b hb hlt;exact ⟨b,off,cs,ha,hkb.1,kL hkb.2 hlt,hcell.of_block hkb.2,hp _ _ hr⟩
theorem xI.u {ok ok' : Oks} {w w' : World} (hk : xI ok ok' w w') (k : Nat) : Keeps1 (okU ok w k) (okU ok' w' k) w w':=fun b hb hlt=>by
  have h:=hk k b hb.1 hlt;refine ⟨⟨h.1,fun e=>?_⟩,h.2⟩;obtain ⟨cs,T,h3⟩:=hb.2 e;exact ⟨cs,T,h.2.trans h3⟩
theorem Rd.kept : ∀ {α : Type} (R : Rd α) {ok ok' : Oks} {w w' : World} {cs : List Value} {x : α},xI ok ok' w w' → R.is ok w cs x → R.is ok' w' cs x
  | _,.str,_,_,_,_,_,_,_,h=>h
  | _,.int _,_,_,_,_,_,_,_,h=>h
  | _,.bool,_,_,_,_,_,_,_,h=>h
  | _,.raw,_,_,_,_,_,_,_,h=>h
  | _,.unk,_,_,_,_,_,_,_,h=>h
  | _,.slk k R,_,_,_,_,_,_,hk,h=>by
    obtain ⟨v,e,h⟩:=h;exact ⟨v,e,h.kept (hk.u k) (fun _ _ h=>R.kept hk h)⟩
  | _,.ptk k R,_,_,_,_,_,_,hk,h=>by
    obtain ⟨b,off,ds,e,hb,hlt,hc,hr⟩:=h;have hkb:=hk.u k b hb hlt;exact ⟨b,off,ds,e,hkb.1,kL hkb.2 hlt,hc.of_block hkb.2,R.kept hk hr⟩
  | _,.ifc _ R,_,_,_,_,_,_,hk,h=>by
    obtain ⟨u,e,h⟩:=h;exact ⟨u,e,R.kept hk h⟩
  | _,.st R S,_,_,_,_,_,_,hk,h=>by
    obtain ⟨c,d,e,h1,h2⟩:=h;exact ⟨c,d,e,R.kept hk h1,S.kept hk h2⟩
inductive C : Type 1
  | any
  | lit (v : Value)
  | slk (k : Nat) {α : Type} (R : Rd α) (xs : List α)
  | full {α : Type} (R : Rd α) (xs : List α)
  | adk (k : Nat) {α : Type} (R : Rd α) (x : α)
  | own (id off : Nat)
  | vec (id : Nat)
  | vel (id k n : Nat)
  | ifc (t : TypeId) (c : C)
  | clo (f : FuncId) (c : C)
  | clo2 (f : FuncId) (c d : C)
  | clo3 (f : FuncId) (c d e : C)
  | ref (c : C)
  | nself (u : Bool) (id : Nat)
  | fx (id : Nat) (u : Value)
  | vof (id k n o : Nat)
  | mp (id : Nat)
@[match_pattern] abbrev C.sl {α : Type} (R : Rd α) (xs : List α) : C:=.slk 0 R xs
@[match_pattern] abbrev C.addr {α : Type} (R : Rd α) (x : α) : C:=.adk 0 R x
inductive A : Type 1
  | one (c : C)
  | agg (cs : List C)
  | tup (cs : List (Bool × List C))
  | cond (b : Bool) (a : A)
def C.rep (ok : Oks) (ρ : Nat → Option Value) (w : World) : C → Value → Prop
  | .any,_=>True
  | .lit u,v=>v = u
  | .slk k R xs,v=>SlOk R.n (fun cs x=>R.is ok w cs x) (okU ok w k) w v xs
  | .full R xs,v=>SlOk R.n (fun cs x=>R.is ok w cs x) (okU ok w 0) w v xs ∧ ∃ a,v = .slice a xs.length xs.length
  | .adk k R x,v=>∃ b off cs,v = .pointer (some ⟨b,off,none⟩) ∧ okU ok w k b ∧ b < w.heap.size ∧ xT w b off R.n cs ∧ R.is ok w cs x
  | .own id off,v=>∃ b,ρ id = some (.pointer (some ⟨b,0,none⟩)) ∧ v = .pointer (some ⟨b,off,none⟩)
  | .vec id,v=>ρ id = some v ∧ ∃ a n c,v = .slice a n c
  | .vel id k n,v=>∃ b m cap,ρ id = some (.slice (some ⟨b,0,none⟩) m cap) ∧ v = .pointer (some ⟨b,k * n,none⟩)
  | .ifc t c,v=>∃ u,v = .iface t u ∧ c.rep ok ρ w u
  | .clo f c,v=>∃ u,v = .func (.func f) #[] #[u] ∧ c.rep ok ρ w u
  | .clo2 f c d,v=>∃ u x,v = .func (.func f) #[] #[u,x] ∧ c.rep ok ρ w u ∧ d.rep ok ρ w x
  | .clo3 f c d e,v=>∃ u x y,v = .func (.func f) #[] #[u,x,y] ∧ c.rep ok ρ w u ∧ d.rep ok ρ w x ∧ e.rep ok ρ w y
  | .ref c,v=>∃ b off u,v = .pointer (some ⟨b,off,none⟩) ∧ ok 0 b ∧ b < w.heap.size ∧ xT w b off 1 [u] ∧ c.rep ok ρ w u
  | .nself u i,v=>(u = true → ∃ b,ρ i = some (.pointer (some ⟨b,0,none⟩)) ∧ v = .pointer (some ⟨b,0,none⟩)) ∧ (u = false → v = .pointer none)
  | .fx id u,_=>ρ id = some u
  | .vof id k n o,v=>∃ b m cap,ρ id = some (.slice (some ⟨b,0,none⟩) m cap) ∧ v = .pointer (some ⟨b,k * n + o,none⟩)
  | .mp id,v=>ρ id = some v ∧ ∃ r,v = .map (some r)
theorem C.kept {ok ok' : Oks} {ρ : Nat → Option Value} {w w' : World} (hk : xI ok ok' w w') : ∀ {c : C} {v : Value},c.rep ok ρ w v → c.rep ok' ρ w' v
  | .any,_,_=>trivial
  | .lit _,_,h=>h
  | .slk k R _,_,h=>SlOk.kept (hk.u k) (fun _ _ h=>R.kept hk h) h
  | .full R _,_,h=>⟨SlOk.kept (hk.u 0) (fun _ _ h=>R.kept hk h) h.1,h.2⟩
  | .adk k R _,_,h=>by
    obtain ⟨b,off,cs,hv,hb,hlt,hc,hr⟩:=h;have hkb:=hk.u k b hb hlt;exact ⟨b,off,cs,hv,hkb.1,kL hkb.2 hlt,hc.of_block hkb.2,R.kept hk hr⟩
  | .own _ _,_,h=>h
  | .vec _,_,h=>h
  | .vel _ _ _,_,h=>h
  | .ifc _ c,_,h=>by
    obtain ⟨u,hv,h⟩:=h;exact ⟨u,hv,C.kept hk h⟩
  | .clo _ c,_,h=>by
    obtain ⟨u,hv,h⟩:=h;exact ⟨u,hv,C.kept hk h⟩
  | .clo2 _ c d,_,h=>by
    obtain ⟨u,x,hv,h,h'⟩:=h;exact ⟨u,x,hv,C.kept hk h,C.kept hk h'⟩
  | .clo3 _ c d e,_,h=>by
    obtain ⟨u,x,y,hv,h,h',h''⟩:=h;exact ⟨u,x,y,hv,C.kept hk h,C.kept hk h',C.kept hk h''⟩
  | .ref c,_,h=>by
    obtain ⟨b,off,u,hv,hb,hlt,hc,hr⟩:=h;have hkb:=hk 0 b hb hlt;exact ⟨b,off,u,hv,hkb.1,kL hkb.2 hlt,hc.of_block hkb.2,C.kept hk hr⟩
  | .nself _ _,_,h=>h
  | .fx _ _,_,h=>h
  | .vof _ _ _ _,_,h=>h
  | .mp _,_,h=>h
def repL (ok : Oks) (ρ : Nat → Option Value) (w : World) : List C → List Value → Prop
  | [],vs=>vs = []
  | c :: cs,vs=>∃ v r,vs = v :: r ∧ c.rep ok ρ w v ∧ repL ok ρ w cs r
def repV (ok : Oks) (ρ : Nat → Option Value) (w : World) : Bool → List C → Value → Prop
  | true,cs,v=>∃ vs,v = .agg vs.toArray ∧ repL ok ρ w cs vs
  | false,cs,v=>repL ok ρ w cs [v]
def repT (ok : Oks) (ρ : Nat → Option Value) (w : World) : List (Bool × List C) → List Value → Prop
  | [],vs=>vs = []
  | c :: cs,vs=>∃ v r,vs = v :: r ∧ repV ok ρ w c.1 c.2 v ∧ repT ok ρ w cs r
def A.rep (ok : Oks) (ρ : Nat → Option Value) (w : World) : A → Value → Prop
  | .one c,v=>c.rep ok ρ w v
  | .agg cs,v=>repV ok ρ w true cs v
  | .tup cs,v=>∃ vs,v = .tuple vs.toArray ∧ repT ok ρ w cs vs
  | .cond b a,v=>(b = true → a.rep ok ρ w v) ∧ (b = false → v = undef)
theorem repL.kept {ok ok' : Oks} {ρ : Nat → Option Value} {w w' : World} (hk : xI ok ok' w w') : ∀ {cs : List C} {vs : List Value},repL ok ρ w cs vs → repL ok' ρ w' cs vs
  | [],_,h=>h
  | _ :: _,_,h=>by
    obtain ⟨v,r,e,h1,h2⟩:=h;exact ⟨v,r,e,C.kept hk h1,repL.kept hk h2⟩
theorem repV.kept {ok ok' : Oks} {ρ : Nat → Option Value} {w w' : World} (hk : xI ok ok' w w') : ∀ {g : Bool} {cs : List C} {v : Value},repV ok ρ w g cs v → repV ok' ρ w' g cs v
  | true,_,_,h=>by obtain ⟨vs,e,h⟩:=h;exact ⟨vs,e,h.kept hk⟩
  | false,_,_,h=>repL.kept hk h
theorem repT.kept {ok ok' : Oks} {ρ : Nat → Option Value} {w w' : World} (hk : xI ok ok' w w') : ∀ {cs : List (Bool × List C)} {vs : List Value},repT ok ρ w cs vs → repT ok' ρ w' cs vs
  | [],_,h=>h
  | _ :: _,_,h=>by
    obtain ⟨v,r,e,h1,h2⟩:=h;exact ⟨v,r,e,h1.kept hk,repT.kept hk h2⟩
theorem A.kept {ok ok' : Oks} {ρ : Nat → Option Value} {w w' : World} (hk : xI ok ok' w w') : ∀ {a : A} {v : Value},a.rep ok ρ w v → a.rep ok' ρ w' v
  | .one _,_,h=>C.kept hk h
  | .agg _,_,h=>repV.kept hk h
  | .tup _,_,h=>by obtain ⟨vs,e,h⟩:=h;exact ⟨vs,e,h.kept hk⟩
  | .cond _ _,_,h=>⟨fun hb=>A.kept hk (h.1 hb),h.2⟩
def Names (ρ ρ' : Nat → Option Value) : Prop:=∀ i v,ρ i = some v → ρ' i = some v
theorem C.names {ok : Oks} {ρ ρ' : Nat → Option Value} {w : World} (hn : Names ρ ρ') : ∀ {c : C} {v : Value},c.rep ok ρ w v → c.rep ok ρ' w v
  | .any,_,_=>trivial
  | .lit _,_,h=>h
  | .slk _ _ _,_,h=>h
  | .full _ _,_,h=>h
  | .adk _ _ _,_,h=>h
  | .own _ _,_,h=>by obtain ⟨b,h1,h2⟩:=h;exact ⟨b,hn _ _ h1,h2⟩
  | .vec _,_,h=>⟨hn _ _ h.1,h.2⟩
  | .vel _ _ _,_,h=>by obtain ⟨b,m,cap,h1,h2⟩:=h;exact ⟨b,m,cap,hn _ _ h1,h2⟩
  | .ifc _ c,_,h=>by obtain ⟨u,hv,h⟩:=h;exact ⟨u,hv,C.names hn h⟩
  | .clo _ c,_,h=>by obtain ⟨u,hv,h⟩:=h;exact ⟨u,hv,C.names hn h⟩
  | .clo2 _ c d,_,h=>by obtain ⟨u,x,hv,h,h'⟩:=h;exact ⟨u,x,hv,C.names hn h,C.names hn h'⟩
  | .clo3 _ c d e,_,h=>by obtain ⟨u,x,y,hv,h,h',h''⟩:=h;exact ⟨u,x,y,hv,C.names hn h,C.names hn h',C.names hn h''⟩
  | .ref c,_,h=>by obtain ⟨b,off,u,hv,h1,h2,h3,h⟩:=h;exact ⟨b,off,u,hv,h1,h2,h3,C.names hn h⟩
  | .nself _ _,_,h=>⟨fun e=>by obtain ⟨b,h1,h2⟩:=h.1 e;exact ⟨b,hn _ _ h1,h2⟩,h.2⟩
  | .fx _ _,_,h=>hn _ _ h
  | .vof _ _ _ _,_,h=>by obtain ⟨b,m,cap,h1,h2⟩:=h;exact ⟨b,m,cap,hn _ _ h1,h2⟩
  | .mp _,_,h=>⟨hn _ _ h.1,h.2⟩
theorem repL.names {ok : Oks} {ρ ρ' : Nat → Option Value} {w : World} (hn : Names ρ ρ') : ∀ {cs : List C} {vs : List Value},repL ok ρ w cs vs → repL ok ρ' w cs vs
  | [],_,h=>h
  | _ :: _,_,h=>by
    obtain ⟨v,r,e,h1,h2⟩:=h;exact ⟨v,r,e,C.names hn h1,repL.names hn h2⟩
theorem repV.names {ok : Oks} {ρ ρ' : Nat → Option Value} {w : World} (hn : Names ρ ρ') : ∀ {g : Bool} {cs : List C} {v : Value},repV ok ρ w g cs v → repV ok ρ' w g cs v
  | true,_,_,h=>by obtain ⟨vs,e,h⟩:=h;exact ⟨vs,e,h.names hn⟩
  | false,_,_,h=>repL.names hn h
theorem repT.names {ok : Oks} {ρ ρ' : Nat → Option Value} {w : World} (hn : Names ρ ρ') : ∀ {cs : List (Bool × List C)} {vs : List Value},repT ok ρ w cs vs → repT ok ρ' w cs vs
  | [],_,h=>h
  | _ :: _,_,h=>by
    obtain ⟨v,r,e,h1,h2⟩:=h;exact ⟨v,r,e,h1.names hn,repT.names hn h2⟩
theorem A.names {ok : Oks} {ρ ρ' : Nat → Option Value} {w : World} (hn : Names ρ ρ') : ∀ {a : A} {v : Value},a.rep ok ρ w v → a.rep ok ρ' w v
  | .one _,_,h=>C.names hn h
  | .agg _,_,h=>repV.names hn h
  | .tup _,_,h=>by obtain ⟨vs,e,h⟩:=h;exact ⟨vs,e,h.names hn⟩
  | .cond _ _,_,h=>⟨fun hb=>A.names hn (h.1 hb),h.2⟩
theorem repL.len {ok : Oks} {ρ : Nat → Option Value} {w : World} : ∀ {cs : List C} {vs : List Value},repL ok ρ w cs vs → vs.length = cs.length
  | [],_,h=>by rw [show _ = _ from h];rfl
  | _ :: _,_,h=>by
    obtain ⟨v,r,e,_,h2⟩:=h;rw [e,List.length_cons,List.length_cons,repL.len h2]
theorem repL.append {ok : Oks} {ρ : Nat → Option Value} {w : World} : ∀ {cs ds : List C} {us vs : List Value},repL ok ρ w cs us → repL ok ρ w ds vs → repL ok ρ w (cs ++ ds) (us ++ vs)
  | [],_,_,_,h,k=>by rw [show _ = _ from h];exact k
  | _ :: _,_,_,_,h,k=>by
    obtain ⟨v,r,e,h1,h2⟩:=h;exact ⟨v,r ++ _,by rw [e];rfl,h1,repL.append h2 k⟩
def toC : {α : Type} → Rd α → α → C
  | _,.str,s=>.lit (.string s)
  | _,.int k,x=>.lit (.int k x)
  | _,.bool,x=>.lit (.bool x)
  | _,.raw,v=>.lit v
  | _,.unk,_=>.any
  | _,.slk k R,xs=>.slk k R xs
  | _,.ptk k R,x=>.adk k R x
  | _,.ifc t R,x=>.ifc t (toC R x)
  | _,.st _ _,_=>.any
def toL : {α : Type} → Rd α → α → List C
  | _,.str,s=>[.lit (.string s)]
  | _,.int k,x=>[.lit (.int k x)]
  | _,.bool,x=>[.lit (.bool x)]
  | _,.raw,v=>[.lit v]
  | _,.unk,_=>[.any]
  | _,.slk k R,xs=>[.slk k R xs]
  | _,.ptk k R,x=>[.adk k R x]
  | _,.ifc t R,x=>[.ifc t (toC R x)]
  | _,.st R S,x=>toL R x.1 ++ toL S x.2
theorem toC_rep {ok : Oks} {ρ : Nat → Option Value} {w : World} : ∀ {α : Type} (R : Rd α) {u : Value} {x : α},R.is ok w [u] x → (toC R x).rep ok ρ w u
  | _,.str,_,_,h=>by cases (show _ = _ from h);rfl
  | _,.int _,_,_,h=>by cases (show _ = _ from h);rfl
  | _,.bool,_,_,h=>by cases (show _ = _ from h);rfl
  | _,.raw,_,_,h=>by cases h.1;rfl
  | _,.unk,_,_,_=>trivial
  | _,.slk _ _,_,_,h=>by
    obtain ⟨v,e,h⟩:=h;cases e;exact h
  | _,.ptk _ _,_,_,h=>by
    obtain ⟨b,off,ds,e,h⟩:=h;cases e;exact ⟨b,off,ds,rfl,h⟩
  | _,.ifc _ R,_,_,h=>by
    obtain ⟨v,e,h⟩:=h;cases e;exact ⟨v,rfl,toC_rep R h⟩
  | _,.st _ _,_,_,_=>trivial
theorem gN {ok : Oks} {ρ : Nat → Option Value} {w : World} : ∀ {α : Type} (R : Rd α) {cs : List Value} {x : α},R.is ok w cs x → repL ok ρ w (toL R x) cs
  | _,.str,_,_,h=>⟨_,_,h,rfl,rfl⟩
  | _,.int _,_,_,h=>⟨_,_,h,rfl,rfl⟩
  | _,.bool,_,_,h=>⟨_,_,h,rfl,rfl⟩
  | _,.raw,_,_,h=>⟨_,_,h.1,rfl,rfl⟩
  | _,.unk,_,_,h=>by
    obtain ⟨v,e,_⟩:=h;exact ⟨v,[],e,trivial,rfl⟩
  | _,.slk _ R,_,_,h=>by
    obtain ⟨v,e,h⟩:=h;exact ⟨v,[],e,h,rfl⟩
  | _,.ptk _ R,_,_,h=>by
    obtain ⟨b,off,ds,e,h⟩:=h;exact ⟨_,[],e,⟨b,off,ds,rfl,h⟩,rfl⟩
  | _,.ifc _ R,_,_,h=>by
    obtain ⟨v,e,h⟩:=h;exact ⟨_,[],e,⟨v,rfl,toC_rep R h⟩,rfl⟩
  | _,.st R S,_,_,h=>by
    obtain ⟨c,d,e,h1,h2⟩:=h;rw [e];exact (gN R h1).append (gN S h2)
theorem toL_one : ∀ {α : Type} (R : Rd α) (x : α),R.n = 1 → toL R x = [toC R x]
  | _,.str,_,_=>rfl
  | _,.int _,_,_=>rfl
  | _,.bool,_,_=>rfl
  | _,.raw,_,_=>rfl
  | _,.unk,_,_=>rfl
  | _,.slk _ _,_,_=>rfl
  | _,.ptk _ _,_,_=>rfl
  | _,.ifc _ _,_,_=>rfl
  | _,.st R S,_,h=>by
    have:=R.n_pos;have:=S.n_pos;simp only [Rd.n] at h;omega
def sameN (a b : Nat) : Option (PLift (a = b)):=match h : Nat.beq a b with
  | true=>some ⟨Nat.eq_of_beq_eq_true h⟩
  | false=>none
def Rd.same : {α β : Type} → (R : Rd α) → (S : Rd β) → Option (PLift ((⟨α,R⟩ : Sigma Rd) = ⟨β,S⟩))
  | _,_,.str,.str=>some ⟨rfl⟩
  | _,_,.int k,.int l=>match decEq k l with
    | isTrue h=>some ⟨by rw [h]⟩
    | isFalse _=>none
  | _,_,.bool,.bool=>some ⟨rfl⟩
  | _,_,.raw,.raw=>some ⟨rfl⟩
  | _,_,.unk,.unk=>some ⟨rfl⟩
  | _,_,.slk k R,.slk l S=>match sameN k l with
    | some e=>match Rd.same R S with
      | some h=>some ⟨by cases e.down;cases h.down;rfl⟩
      | none=>none
    | none=>none
  | _,_,.ptk k R,.ptk l S=>match sameN k l with
    | some e=>match Rd.same R S with
      | some h=>some ⟨by cases e.down;cases h.down;rfl⟩
      | none=>none
    | none=>none
  | _,_,.ifc k R,.ifc l S=>match sameN k l with
    | some e=>match Rd.same R S with
      | some h=>some ⟨by cases e.down;cases h.down;rfl⟩
      | none=>none
    | none=>none
  | _,_,.st R R',.st S S'=>match Rd.same R S with
    | some h=>match Rd.same R' S' with
      | some h'=>some ⟨by cases h.down;cases h'.down;rfl⟩
      | none=>none
    | none=>none
  | _,_,_,_=>none
def Rd.move {α β : Type} {R : Rd α} {S : Rd β} (h : (⟨α,R⟩ : Sigma Rd) = ⟨β,S⟩) (xs : List β) : List α:=cast (by rw [(Sigma.mk.inj h).1]) xs
theorem Rd.move_rfl {α : Type} {R : Rd α} (h : (⟨α,R⟩ : Sigma Rd) = ⟨α,R⟩) (xs : List α) : Rd.move (R:=R) (S:=R) h xs = xs:=rfl
def Rd.move1 {α β : Type} {R : Rd α} {S : Rd β} (h : (⟨α,R⟩ : Sigma Rd) = ⟨β,S⟩) (x : β) : α:=cast (by rw [(Sigma.mk.inj h).1]) x
def ofL : {α : Type} → Rd α → List C → Option (α × List C)
  | _,.str,cs=>match cs with
    | .lit (.string s) :: r=>some (s,r)
    | _=>none
  | _,.int i,cs=>match cs with
    | .lit (.int j x) :: r=>match decEq i j with
      | isTrue _=>some (x,r)
      | isFalse _=>none
    | _=>none
  | _,.bool,cs=>match cs with
    | .lit (.bool b) :: r=>some (b,r)
    | _=>none
  | _,.raw,cs=>match cs with
    | .lit v :: r=>match bJ v with
      | true=>some (v,r)
      | false=>none
    | _=>none
  | _,.unk,cs=>match cs with
    | .mp _ :: r=>some ((),r)
    | _=>none
  | _,.slk k R,cs=>match cs with
    | .slk l S xs :: r=>match sameN k l with
      | some _=>match Rd.same R S with
        | some h=>some (Rd.move h.down xs,r)
        | none=>none
      | none=>none
    | .full S xs :: r=>match sameN k 0 with
      | some _=>match Rd.same R S with
        | some h=>some (Rd.move h.down xs,r)
        | none=>none
      | none=>none
    | .lit (.slice none 0 0) :: r=>some ([],r)
    | _=>none
  | _,.ptk k R,cs=>match cs with
    | .adk l S x :: r=>match sameN k l with
      | some _=>match Rd.same R S with
        | some h=>some (Rd.move1 h.down x,r)
        | none=>none
      | none=>none
    | _=>none
  | _,.ifc t R,cs=>match cs with
    | .ifc u c :: r=>match sameN t u with
      | some _=>match ofL R [c] with
        | some (x,[])=>some (x,r)
        | _=>none
      | none=>none
    | .lit (.iface u v) :: r=>match sameN t u with
      | some _=>match ofL R [.lit v] with
        | some (x,[])=>some (x,r)
        | _=>none
      | none=>none
    | _=>none
  | _,.st R S,cs=>match ofL R cs with
    | some (x,r)=>match ofL S r with
      | some (y,r')=>some ((x,y),r')
      | none=>none
    | none=>none
theorem slOk_nil {α : Type} {n : Nat} {Pr : List Value → α → Prop} {ok : Nat → Prop} {w : World} : SlOk n Pr ok w (.slice none 0 0) [] :=
  ⟨none,0,rfl,Nat.le_refl _,Nat.zero_le _,fun _ h=>absurd h (Nat.not_lt_zero _)⟩
theorem jZ {ok : Oks} {ρ : Nat → Option Value} {w : World} : ∀ {α : Type} (R : Rd α) {cs : List C} {vs : List Value} {x : α} {cr : List C},ofL R cs = some (x,cr) → repL ok ρ w cs vs →
    ∃ us r,vs = us ++ r ∧ R.is ok w us x ∧ repL ok ρ w cr r
  | _,.str,cs,vs,x,cr,h,hr=>by
    unfold ofL at h;split at h
    · cases h;obtain ⟨v,r,e,h1,h2⟩:=hr;exact ⟨[v],r,e,by rw [show v = _ from h1];rfl,h2⟩
    · cases h
  | _,.int _,cs,vs,x,cr,h,hr=>by
    unfold ofL at h;split at h
    · split at h
      · rename_i hij _;cases h;subst hij;obtain ⟨v,r,e,h1,h2⟩:=hr;exact ⟨[v],r,e,by rw [show v = _ from h1];rfl,h2⟩
      · cases h
    · cases h
  | _,.bool,cs,vs,x,cr,h,hr=>by
    unfold ofL at h;split at h
    · cases h;obtain ⟨v,r,e,h1,h2⟩:=hr;exact ⟨[v],r,e,by rw [show v = _ from h1];rfl,h2⟩
    · cases h
  | _,.raw,cs,vs,x,cr,h,hr=>by
    unfold ofL at h;split at h
    · split at h
      · rename_i hp;cases h;obtain ⟨v,r,e,h1,h2⟩:=hr;exact ⟨[v],r,e,by rw [show v = _ from h1];exact ⟨rfl,hp⟩,h2⟩
      · cases h
    · cases h
  | _,.unk,cs,vs,x,cr,h,hr=>by
    unfold ofL at h;split at h
    · cases h;obtain ⟨v,r,e,⟨_,r',hv⟩,h2⟩:=hr;exact ⟨[v],r,e,⟨v,rfl,by rw [hv];rfl⟩,h2⟩
    · cases h
  | _,.slk k R,cs,vs,x,cr,h,hr=>by
    unfold ofL at h;split at h
    · split at h
      · rename_i hk _;split at h
        · rename_i hh _;obtain ⟨v,r,e,h1,h2⟩:=hr;cases h;cases hk.down;cases hh.down;exact ⟨[v],r,e,⟨v,rfl,h1⟩,h2⟩
        · cases h
      · cases h
    · split at h
      · rename_i hk _;split at h
        · rename_i hh _;obtain ⟨v,r,e,h1,h2⟩:=hr;cases h;cases hk.down;cases hh.down;exact ⟨[v],r,e,⟨v,rfl,h1.1⟩,h2⟩
        · cases h
      · cases h
    · cases h;obtain ⟨v,r,e,h1,h2⟩:=hr;exact ⟨[v],r,e,⟨v,rfl,by rw [show v = _ from h1];exact slOk_nil⟩,h2⟩
    · cases h
  | _,.ptk k R,cs,vs,x,cr,h,hr=>by
    unfold ofL at h;split at h
    · split at h
      · rename_i hk _;split at h
        · rename_i hh _;obtain ⟨v,r,e,h1,h2⟩:=hr;cases h;cases hk.down;cases hh.down;obtain ⟨b,off,ds,rfl,h1⟩:=h1;exact ⟨[_],r,e,⟨b,off,ds,rfl,h1⟩,h2⟩
        · cases h
      · cases h
    · cases h
  | _,.ifc t R,cs,vs,x,cr,h,hr=>by
    unfold ofL at h;split at h
    · split at h
      · rename_i hk _;split at h
        · rename_i e1;obtain ⟨v,r,e,⟨u,rfl,h1⟩,h2⟩:=hr;cases h;cases hk.down;obtain ⟨us,r',e2,h3,h4⟩:=jZ R e1 (vs:=[u]) ⟨u,[],rfl,h1,rfl⟩;rw [show r' = [] from h4,List.append_nil] at e2;exact ⟨[_],r,e,⟨u,rfl,by rw [e2];exact h3⟩,h2⟩
        · cases h
      · cases h
    · split at h
      · rename_i hk _;split at h
        · rename_i e1;obtain ⟨v,r,e,h1,h2⟩:=hr;rename_i u0 _ _ _ _ _;cases h;cases hk.down;obtain ⟨us,r',e2,h3,h4⟩:=jZ (ρ:=ρ) (w:=w) R e1 (vs:=[_]) ⟨_,[],rfl,rfl,rfl⟩;rw [show r' = [] from h4,List.append_nil] at e2;exact ⟨[_],r,e,⟨_,by rw [show v = _ from h1],by rw [e2];exact h3⟩,h2⟩
        · cases h
      · cases h
    · cases h
  | _,.st R S,cs,vs,x,cr,h,hr=>by
    unfold ofL at h;split at h
    · rename_i x1 r1 e1;split at h
      · rename_i y1 r2 e2;cases h;obtain ⟨us,r,e,h1,h3⟩:=jZ R e1 hr;obtain ⟨us',r',e',h1',h3'⟩:=jZ S e2 h3;exact ⟨us ++ us',r',by rw [e,e',List.append_assoc],⟨us,us',rfl,h1,h1'⟩,h3'⟩
      · cases h
    · cases h
def Rd.dflt : {α : Type} → Rd α → α
  | _,.str=>ByteArray.empty
  | _,.int _=>0
  | _,.bool=>false
  | _,.raw=>.nilIface
  | _,.unk=>()
  | _,.slk _ _=>[]
  | _,.ptk _ R=>R.dflt
  | _,.ifc _ R=>R.dflt
  | _,.st R S=>(R.dflt,S.dflt)
inductive Vr : Type 1
  | ok (v : A)
  | need (p : Prop) (v : A)
  | know (p : Prop) (v : A)
  | bad
abbrev ib (b : Bool) : A:=.one (.lit (.bool b))
abbrev ii (k : IntKind) (n : Int) : A:=.one (.lit (.int k n))
abbrev is (s : ByteArray) : A:=.one (.lit (.string s))
theorem uC {n : Nat} : ∀ (css : List (List Value)) (i j : Nat),(∀ c ∈ css,c.length = n) → i < css.length → j < n → css.flatten[i * n + j]? = (css.getD i [])[j]?
  | [],i,j,_,hi,_=>absurd hi (by simp)
  | c :: r,0,j,hc,_,hj=>by
    have : c.length = n:=hc c (by simp);simp [List.getElem?_append,this,hj]
  | c :: r,i + 1,j,hc,hi,hj=>by
    have h1 : c.length = n:=hc c (by simp);have h2 : ¬ (i + 1) * n + j < c.length:=by rw [h1,Nat.add_mul];omega
    have h3 : (i + 1) * n + j - c.length = i * n + j:=by rw [h1,Nat.add_mul];omega
    rw [List.flatten_cons,List.getElem?_append_right (by omega),h3];have:=uC r i j (fun c hc'=>hc c (by simp [hc'])) (by simpa using hi) hj
    simpa using this
def Rd.no1 : {α : Type} → Rd α → Bool
  | _,.str=>true
  | _,.int _=>true
  | _,.bool=>true
  | _,.raw=>true
  | _,.unk=>true
  | _,.slk k R=>match Nat.beq k 1 with
    | true=>false
    | false=>R.no1
  | _,.ptk k R=>match Nat.beq k 1 with
    | true=>false
    | false=>R.no1
  | _,.ifc _ R=>R.no1
  | _,.st R S=>match R.no1 with
    | true=>S.no1
    | false=>false
def C.no1 : C → Bool
  | .slk k R _=>match Nat.beq k 1 with
    | true=>false
    | false=>R.no1
  | .adk k R _=>match Nat.beq k 1 with
    | true=>false
    | false=>R.no1
  | .full R _=>R.no1
  | .ifc _ c=>c.no1
  | .clo _ c=>c.no1
  | .clo2 _ c d=>match c.no1 with
    | true=>d.no1
    | false=>false
  | .clo3 _ c d e=>match c.no1 with
    | true=>match d.no1 with
      | true=>e.no1
      | false=>false
    | false=>false
  | .ref c=>c.no1
  | _=>true
def no1L : List C → Bool
  | []=>true
  | c :: r=>match c.no1 with
    | true=>no1L r
    | false=>false
def no1T : List (Bool × List C) → Bool
  | []=>true
  | p :: r=>match no1L p.2 with
    | true=>no1T r
    | false=>false
def A.no1 : A → Bool
  | .one c=>c.no1
  | .agg cs=>no1L cs
  | .tup cs=>no1T cs
  | .cond _ a=>a.no1
def Back (ok ok' : Oks) : Prop:=∀ k b,k ≠ 1 → ok k b → ok' k b
theorem ne1 {k : Nat} (h : Nat.beq k 1 = false) : k ≠ 1:=fun e=>by subst e;cases h
theorem Rd.back : ∀ {α : Type} (R : Rd α) {ok ok' : Oks} {w : World} {cs : List Value} {x : α},Back ok ok' → R.no1 = true → R.is ok w cs x → R.is ok' w cs x
  | _,.str,_,_,_,_,_,_,_,h=>h
  | _,.int _,_,_,_,_,_,_,_,h=>h
  | _,.bool,_,_,_,_,_,_,_,h=>h
  | _,.raw,_,_,_,_,_,_,_,h=>h
  | _,.unk,_,_,_,_,_,_,_,h=>h
  | _,.slk k R,_,_,_,_,_,hk,hn,h=>by
    unfold Rd.no1 at hn;split at hn
    · cases hn
    · rename_i e;obtain ⟨v,e1,a,cap,h1,h2,h3,h4⟩:=h;refine ⟨v,e1,a,cap,h1,h2,h3,fun i hi=>?_⟩;obtain ⟨b,off,cs,h5,h6,h7,h8,h9⟩:=h4 i hi;exact ⟨b,off,cs,h5,⟨hk k b (ne1 e) h6.1,h6.2⟩,h7,h8,R.back hk hn h9⟩
  | _,.ptk k R,_,_,_,_,_,hk,hn,h=>by
    unfold Rd.no1 at hn;split at hn
    · cases hn
    · rename_i e;obtain ⟨b,off,cs,h5,h6,h7,h8,h9⟩:=h;exact ⟨b,off,cs,h5,⟨hk k b (ne1 e) h6.1,h6.2⟩,h7,h8,R.back hk hn h9⟩
  | _,.ifc _ R,_,_,_,_,_,hk,hn,h=>by
    obtain ⟨u,e,h⟩:=h;exact ⟨u,e,R.back hk hn h⟩
  | _,.st R S,_,_,_,_,_,hk,hn,h=>by
    unfold Rd.no1 at hn;split at hn
    · rename_i e;obtain ⟨c,d,e1,h1,h2⟩:=h;exact ⟨c,d,e1,R.back hk e h1,S.back hk hn h2⟩
    · cases hn
theorem SlOk.back {k : Nat} {α : Type} {R : Rd α} {ok ok' : Oks} {w : World} {v : Value} {xs : List α} (hk : Back ok ok') (hk1 : k ≠ 1) (hn : R.no1 = true) (h : SlOk R.n (fun cs x=>R.is ok w cs x) (okU ok w k) w v xs) : SlOk R.n (fun cs x=>R.is ok' w cs x) (okU ok' w k) w v xs:=by
  obtain ⟨a,cap,h1,h2,h3,h4⟩:=h;refine ⟨a,cap,h1,h2,h3,fun i hi=>?_⟩;obtain ⟨b,off,cs,h5,h6,h7,h8,h9⟩:=h4 i hi;exact ⟨b,off,cs,h5,⟨hk k b hk1 h6.1,h6.2⟩,h7,h8,R.back hk hn h9⟩
theorem C.back {ok ok' : Oks} {ρ : Nat → Option Value} {w : World} (hk : Back ok ok') : ∀ {c : C} {v : Value},c.no1 = true → c.rep ok ρ w v → c.rep ok' ρ w v
  | .any,_,_,_=>trivial
  | .lit _,_,_,h=>h
  | .slk k R _,_,hn,h=>by
    unfold C.no1 at hn;split at hn
    · cases hn
    · rename_i e;exact SlOk.back hk (ne1 e) hn h
  | .full R _,_,hn,h=>⟨SlOk.back hk (by decide) hn h.1,h.2⟩
  | .adk k R _,_,hn,h=>by
    unfold C.no1 at hn;split at hn
    · cases hn
    · rename_i e;obtain ⟨b,off,cs,h5,h6,h7,h8,h9⟩:=h;exact ⟨b,off,cs,h5,⟨hk k b (ne1 e) h6.1,h6.2⟩,h7,h8,R.back hk hn h9⟩
  | .own _ _,_,_,h=>h
  | .vec _,_,_,h=>h
  | .vel _ _ _,_,_,h=>h
  | .ifc _ c,_,hn,h=>by
    obtain ⟨u,hv,h⟩:=h;exact ⟨u,hv,C.back hk (c:=c) hn h⟩
  | .clo _ c,_,hn,h=>by
    obtain ⟨u,hv,h⟩:=h;exact ⟨u,hv,C.back hk (c:=c) hn h⟩
  | .clo2 _ c d,_,hn,h=>by
    obtain ⟨u,x,hv,h,h'⟩:=h;unfold C.no1 at hn;split at hn
    · rename_i e;exact ⟨u,x,hv,C.back hk (c:=c) e h,C.back hk (c:=d) hn h'⟩
    · cases hn
  | .clo3 _ c d k,_,hn,h=>by
    obtain ⟨u,x,y,hv,h,h',h''⟩:=h;unfold C.no1 at hn;split at hn
    · rename_i e;split at hn
      · rename_i e2;exact ⟨u,x,y,hv,C.back hk (c:=c) e h,C.back hk (c:=d) e2 h',C.back hk (c:=k) hn h''⟩
      · cases hn
    · cases hn
  | .ref c,_,hn,h=>by
    obtain ⟨b,off,u,hv,hb,hlt,hc,hr⟩:=h;exact ⟨b,off,u,hv,hk 0 b (by decide) hb,hlt,hc,C.back hk (c:=c) hn hr⟩
  | .nself _ _,_,_,h=>h
  | .fx _ _,_,_,h=>h
  | .vof _ _ _ _,_,_,h=>h
  | .mp _,_,_,h=>h
theorem repL.back {ok ok' : Oks} {ρ : Nat → Option Value} {w : World} (hk : Back ok ok') : ∀ {cs : List C} {vs : List Value},no1L cs = true → repL ok ρ w cs vs → repL ok' ρ w cs vs
  | [],_,_,h=>h
  | _ :: _,_,hn,h=>by
    unfold no1L at hn;split at hn
    · rename_i e;obtain ⟨v,r,e1,h1,h2⟩:=h;exact ⟨v,r,e1,C.back hk e h1,repL.back hk hn h2⟩
    · cases hn
theorem repV.back {ok ok' : Oks} {ρ : Nat → Option Value} {w : World} (hk : Back ok ok') : ∀ {g : Bool} {cs : List C} {v : Value},no1L cs = true → repV ok ρ w g cs v → repV ok' ρ w g cs v
  | true,_,_,hn,h=>by obtain ⟨vs,e,h⟩:=h;exact ⟨vs,e,h.back hk hn⟩
  | false,_,_,hn,h=>repL.back hk hn h
theorem repT.back {ok ok' : Oks} {ρ : Nat → Option Value} {w : World} (hk : Back ok ok') : ∀ {cs : List (Bool × List C)} {vs : List Value},no1T cs = true → repT ok ρ w cs vs → repT ok' ρ w cs vs
  | [],_,_,h=>h
  | _ :: _,_,hn,h=>by
    unfold no1T at hn;split at hn
    · rename_i e;obtain ⟨v,r,e1,h1,h2⟩:=h;exact ⟨v,r,e1,h1.back hk e,h2.back hk hn⟩
    · cases hn
theorem A.back {ok ok' : Oks} {ρ : Nat → Option Value} {w : World} (hk : Back ok ok') : ∀ {a : A} {v : Value},a.no1 = true → a.rep ok ρ w v → a.rep ok' ρ w v
  | .one _,_,hn,h=>C.back hk hn h
  | .agg _,_,hn,h=>repV.back hk hn h
  | .tup _,_,hn,h=>by obtain ⟨vs,e,h⟩:=h;exact ⟨vs,e,h.back hk hn⟩
  | .cond _ a,_,hn,h=>⟨fun hb=>A.back hk (a:=a) hn (h.1 hb),h.2⟩
def Rd.noq (q : Nat) : {α : Type} → Rd α → Bool
  | _,.str=>true
  | _,.int _=>true
  | _,.bool=>true
  | _,.raw=>true
  | _,.unk=>true
  | _,.slk k R=>match Nat.beq k q with
    | true=>false
    | false=>(R.noq q)
  | _,.ptk k R=>match Nat.beq k q with
    | true=>false
    | false=>(R.noq q)
  | _,.ifc _ R=>(R.noq q)
  | _,.st R S=>match (R.noq q) with
    | true=>(S.noq q)
    | false=>false
def C.noq (q : Nat) : C → Bool
  | .slk k R _=>match Nat.beq k q with
    | true=>false
    | false=>(R.noq q)
  | .adk k R _=>match Nat.beq k q with
    | true=>false
    | false=>(R.noq q)
  | .full R _=>(R.noq q)
  | .ifc _ c=>(c.noq q)
  | .clo _ c=>(c.noq q)
  | .clo2 _ c d=>match (c.noq q) with
    | true=>(d.noq q)
    | false=>false
  | .clo3 _ c d e=>match (c.noq q) with
    | true=>match (d.noq q) with
      | true=>(e.noq q)
      | false=>false
    | false=>false
  | .ref c=>(c.noq q)
  | _=>true
def noqL (q : Nat) : List C → Bool
  | []=>true
  | c :: r=>match (c.noq q) with
    | true=>noqL q r
    | false=>false
def noqT (q : Nat) : List (Bool × List C) → Bool
  | []=>true
  | p :: r=>match noqL q p.2 with
    | true=>noqT q r
    | false=>false
def A.noq (q : Nat) : A → Bool
  | .one c=>(c.noq q)
  | .agg cs=>noqL q cs
  | .tup cs=>noqT q cs
  | .cond _ a=>(a.noq q)
def BackQ (q : Nat) (ok ok' : Oks) : Prop:=∀ k b,k ≠ q → ok k b → ok' k b
theorem neq' {k q : Nat} (h : Nat.beq k q = false) : k ≠ q:=fun e=>by subst e;simp at h
theorem Rd.backq {q : Nat} : ∀ {α : Type} (R : Rd α) {ok ok' : Oks} {w : World} {cs : List Value} {x : α},BackQ q ok ok' → (R.noq q) = true → R.is ok w cs x → R.is ok' w cs x
  | _,.str,_,_,_,_,_,_,_,h=>h
  | _,.int _,_,_,_,_,_,_,_,h=>h
  | _,.bool,_,_,_,_,_,_,_,h=>h
  | _,.raw,_,_,_,_,_,_,_,h=>h
  | _,.unk,_,_,_,_,_,_,_,h=>h
  | _,.slk k R,_,_,_,_,_,hk,hn,h=>by
    unfold Rd.noq at hn;split at hn
    · cases hn
    · rename_i e;obtain ⟨v,e1,a,cap,h1,h2,h3,h4⟩:=h;refine ⟨v,e1,a,cap,h1,h2,h3,fun i hi=>?_⟩;obtain ⟨b,off,cs,h5,h6,h7,h8,h9⟩:=h4 i hi;exact ⟨b,off,cs,h5,⟨hk k b (neq' e) h6.1,h6.2⟩,h7,h8,R.backq hk hn h9⟩
  | _,.ptk k R,_,_,_,_,_,hk,hn,h=>by
    unfold Rd.noq at hn;split at hn
    · cases hn
    · rename_i e;obtain ⟨b,off,cs,h5,h6,h7,h8,h9⟩:=h;exact ⟨b,off,cs,h5,⟨hk k b (neq' e) h6.1,h6.2⟩,h7,h8,R.backq hk hn h9⟩
  | _,.ifc _ R,_,_,_,_,_,hk,hn,h=>by
    obtain ⟨u,e,h⟩:=h;exact ⟨u,e,R.backq hk hn h⟩
  | _,.st R S,_,_,_,_,_,hk,hn,h=>by
    unfold Rd.noq at hn;split at hn
    · rename_i e;obtain ⟨c,d,e1,h1,h2⟩:=h;exact ⟨c,d,e1,R.backq hk e h1,S.backq hk hn h2⟩
    · cases hn
theorem SlOk.backq {q k : Nat} {α : Type} {R : Rd α} {ok ok' : Oks} {w : World} {v : Value} {xs : List α} (hk : BackQ q ok ok') (hk1 : k ≠ q) (hn : (R.noq q) = true) (h : SlOk R.n (fun cs x=>R.is ok w cs x) (okU ok w k) w v xs) : SlOk R.n (fun cs x=>R.is ok' w cs x) (okU ok' w k) w v xs:=by
  obtain ⟨a,cap,h1,h2,h3,h4⟩:=h;refine ⟨a,cap,h1,h2,h3,fun i hi=>?_⟩;obtain ⟨b,off,cs,h5,h6,h7,h8,h9⟩:=h4 i hi;exact ⟨b,off,cs,h5,⟨hk k b hk1 h6.1,h6.2⟩,h7,h8,R.backq hk hn h9⟩
theorem C.backq {q : Nat} (hq : q ≠ 0) {ok ok' : Oks} {ρ : Nat → Option Value} {w : World} (hk : BackQ q ok ok') : ∀ {c : C} {v : Value},(c.noq q) = true → c.rep ok ρ w v → c.rep ok' ρ w v
  | .any,_,_,_=>trivial
  | .lit _,_,_,h=>h
  | .slk k R _,_,hn,h=>by
    unfold C.noq at hn;split at hn
    · cases hn
    · rename_i e;exact SlOk.backq hk (neq' e) hn h
  | .full R _,_,hn,h=>⟨SlOk.backq hk (Ne.symm hq) hn h.1,h.2⟩
  | .adk k R _,_,hn,h=>by
    unfold C.noq at hn;split at hn
    · cases hn
    · rename_i e;obtain ⟨b,off,cs,h5,h6,h7,h8,h9⟩:=h;exact ⟨b,off,cs,h5,⟨hk k b (neq' e) h6.1,h6.2⟩,h7,h8,R.backq hk hn h9⟩
  | .own _ _,_,_,h=>h
  | .vec _,_,_,h=>h
  | .vel _ _ _,_,_,h=>h
  | .ifc _ c,_,hn,h=>by
    obtain ⟨u,hv,h⟩:=h;exact ⟨u,hv,C.backq hq hk (c:=c) hn h⟩
  | .clo _ c,_,hn,h=>by
    obtain ⟨u,hv,h⟩:=h;exact ⟨u,hv,C.backq hq hk (c:=c) hn h⟩
  | .clo2 _ c d,_,hn,h=>by
    obtain ⟨u,x,hv,h,h'⟩:=h;unfold C.noq at hn;split at hn
    · rename_i e;exact ⟨u,x,hv,C.backq hq hk (c:=c) e h,C.backq hq hk (c:=d) hn h'⟩
    · cases hn
  | .clo3 _ c d k,_,hn,h=>by
    obtain ⟨u,x,y,hv,h,h',h''⟩:=h;unfold C.noq at hn;split at hn
    · rename_i e;split at hn
      · rename_i e2;exact ⟨u,x,y,hv,C.backq hq hk (c:=c) e h,C.backq hq hk (c:=d) e2 h',C.backq hq hk (c:=k) hn h''⟩
      · cases hn
    · cases hn
  | .ref c,_,hn,h=>by
    obtain ⟨b,off,u,hv,hb,hlt,hc,hr⟩:=h;exact ⟨b,off,u,hv,hk 0 b (Ne.symm hq) hb,hlt,hc,C.backq hq hk (c:=c) hn hr⟩
  | .nself _ _,_,_,h=>h
  | .fx _ _,_,_,h=>h
  | .vof _ _ _ _,_,_,h=>h
  | .mp _,_,_,h=>h
theorem repL.backq {q : Nat} (hq : q ≠ 0) {ok ok' : Oks} {ρ : Nat → Option Value} {w : World} (hk : BackQ q ok ok') : ∀ {cs : List C} {vs : List Value},noqL q cs = true → repL ok ρ w cs vs → repL ok' ρ w cs vs
  | [],_,_,h=>h
  | _ :: _,_,hn,h=>by
    unfold noqL at hn;split at hn
    · rename_i e;obtain ⟨v,r,e1,h1,h2⟩:=h;exact ⟨v,r,e1,C.backq hq hk e h1,repL.backq hq hk hn h2⟩
    · cases hn
theorem repV.backq {q : Nat} (hq : q ≠ 0) {ok ok' : Oks} {ρ : Nat → Option Value} {w : World} (hk : BackQ q ok ok') : ∀ {g : Bool} {cs : List C} {v : Value},noqL q cs = true → repV ok ρ w g cs v → repV ok' ρ w g cs v
  | true,_,_,hn,h=>by obtain ⟨vs,e,h⟩:=h;exact ⟨vs,e,h.backq hq hk hn⟩
  | false,_,_,hn,h=>repL.backq hq hk hn h
theorem repT.backq {q : Nat} (hq : q ≠ 0) {ok ok' : Oks} {ρ : Nat → Option Value} {w : World} (hk : BackQ q ok ok') : ∀ {cs : List (Bool × List C)} {vs : List Value},noqT q cs = true → repT ok ρ w cs vs → repT ok' ρ w cs vs
  | [],_,_,h=>h
  | _ :: _,_,hn,h=>by
    unfold noqT at hn;split at hn
    · rename_i e;obtain ⟨v,r,e1,h1,h2⟩:=h;exact ⟨v,r,e1,h1.backq hq hk e,h2.backq hq hk hn⟩
    · cases hn
theorem A.backq {q : Nat} (hq : q ≠ 0) {ok ok' : Oks} {ρ : Nat → Option Value} {w : World} (hk : BackQ q ok ok') : ∀ {a : A} {v : Value},(a.noq q) = true → a.rep ok ρ w v → a.rep ok' ρ w v
  | .one _,_,hn,h=>C.backq hq hk hn h
  | .agg _,_,hn,h=>repV.backq hq hk hn h
  | .tup _,_,hn,h=>by obtain ⟨vs,e,h⟩:=h;exact ⟨vs,e,h.backq hq hk hn⟩
  | .cond _ a,_,hn,h=>⟨fun hb=>A.backq hq hk (a:=a) hn (h.1 hb),h.2⟩
def Rd.kd (q : Nat) : {α : Type} → Rd α → Rd α
  | _,.unk=>.unk
  | _,.str=>.str
  | _,.int k=>.int k
  | _,.bool=>.bool
  | _,.raw=>.raw
  | _,.slk _ R=>.slk q (R.kd q)
  | _,.ptk k R=>.ptk k R
  | _,.ifc t R=>.ifc t (R.kd q)
  | _,.st R S=>.st (R.kd q) (S.kd q)
theorem Rd.kd_n {q : Nat} : ∀ {α : Type} (R : Rd α),(R.kd q).n = R.n
  | _,.unk=>rfl
  | _,.str=>rfl
  | _,.int _=>rfl
  | _,.bool=>rfl
  | _,.raw=>rfl
  | _,.slk _ _=>rfl
  | _,.ptk _ _=>rfl
  | _,.ifc _ _=>rfl
  | _,.st R S=>by simp only [Rd.kd,Rd.n,Rd.kd_n R,Rd.kd_n S]
end Ab
end Go.Proofs.YtmaekcmknibmeaaGreatDoor
namespace Go.Proofs.YtmaekcmknibmeaaGreatDoor
open Go.RowKit
namespace Ab
inductive TK
  | str|int (k : IntKind)|bool|struct (fs : List (Nat × TypeId))|slice (e : TypeId)|ptr (e : TypeId)|map (k e : TypeId)|iface|other|arr (n : Nat) (e : TypeId)
structure TyI : Type 1 where
  k : TK
  size : Nat
  bytes : Nat
  zero : List Value
  rd : Option (Sigma Rd)
  eq : Bool:=false
def TK.agg : TK → Bool
  | .struct _=>true
  | .arr _ _=>true
  | _=>false
def TyI.zeroV (i : TyI) : Value:=if i.k.agg then .agg i.zero.toArray else i.zero.headD undef
def TK.ok (P : Program) (t : TypeId) : TK → Prop
  | .str=>P.underlying t = some .string
  | .int k=>P.underlying t = some (.int k)
  | .bool=>P.underlying t = some .bool
  | .struct fs => P.underlying t = some (.struct (P.fieldsOf t)) ∧ ((P.fieldsOf t).toList.map fun f => (f.offset, f.type)) = fs ∧ (P.fieldsOf t).toList.all (fun f => f.name != "_") = true ∧ P.stoodInHeld t = false ∧
      (fs.all fun f=>((P.info? f.2).map (·.size)).getD 0 != 0) = true
  | .slice e=>P.underlying t = some (.slice e)
  | .ptr e=>P.underlying t = some (.pointer e)
  | .map k e=>P.underlying t = some (.map k e)
  | .iface=>∃ ms,P.underlying t = some (.interface ms)
  | .arr n e=>P.underlying t = some (.array n e)
  | .other=>∃ d,P.underlying t = some d ∧ (match d with|.struct _=>False|.array _ _=>False|.interface _=>False|_=>True)
structure TyOk (P : Program) (t : TypeId) (i : TyI) : Prop where
  info : ∃ f,P.info? t = some f ∧ f.size = i.size ∧ f.bytes = i.bytes ∧ f.zero = some i.zeroV
  kind : i.k.ok P t
  zlen : i.zero.length = i.size
  zplain : ∀ z ∈ i.zero,bJ z = true
  size1 : i.k.agg = false → i.size = 1
  rdn : ∀ α R,i.rd = some ⟨α,R⟩ → R.n = i.size
  eqg : i.eq = true → P.eqGuardType P.depth t = false
def find (te : List (TypeId × TyI)) (t : TypeId) : Option TyI :=
  match te with
  | []=>none
  | p :: r=>match Nat.beq p.1 t with
    | true=>some p.2
    | false=>find r t
def TEok (P : Program) (te : List (TypeId × TyI)) : Prop:=∀ p ∈ te,TyOk P p.1 p.2
theorem yO {P : Program} : ∀ {te : List (TypeId × TyI)} {t : TypeId} {i : TyI},TEok P te → find te t = some i → TyOk P t i
  | [],_,_,_,h=>by cases h
  | p :: r,t,i,hte,h=>by
    unfold find at h;split at h
    · rename_i hb;have : p.1 = t:=Nat.eq_of_beq_eq_true hb;cases h;exact this ▸ hte p (by simp)
    · exact yO (fun q hq=>hte q (by simp [hq])) h
section
variable {P : Program} {t : TypeId} {i : TyI}
theorem TyOk.isAgg (h : TyOk P t i) (w : World) : (isAgg t).run P w = .ok i.k.agg w:=by
  have:=h.kind;unfold Go.isAgg;cases hk : i.k <;> rw [hk] at this <;> simp only [TK.ok] at this
  · simp [run_underlying this,TK.agg]
  · simp [run_underlying this,TK.agg]
  · simp [run_underlying this,TK.agg]
  · simp [run_underlying this.1,TK.agg]
  · simp [run_underlying this,TK.agg]
  · simp [run_underlying this,TK.agg]
  · simp [run_underlying this,TK.agg]
  · obtain ⟨ms,h⟩:=this;simp [run_underlying h,TK.agg]
  · obtain ⟨d,h,hd⟩:=this;simp only [Sem.run_bind,run_underlying h,Result.andThen_ok,TK.agg];cases d <;> first|exact hd.elim|rfl
  · simp [run_underlying this,TK.agg]
theorem TyOk.sizeOf (h : TyOk P t i) (w : World) : (Go.sizeOf t).run P w = .ok i.size w:=by
  obtain ⟨f,hf,hs,_⟩:=h.info;simp [Go.sizeOf,typeInfo,hf,hs]
theorem TyOk.zeroValue (h : TyOk P t i) (w : World) : (Go.zeroValue t).run P w = .ok i.zeroV w:=by
  obtain ⟨f,hf,_,_,hz⟩:=h.info;simp [Go.zeroValue,typeInfo,hf,hz]
theorem TyOk.zeroCells (h : TyOk P t i) : i.zeroV.cells = i.zero.toArray:=by
  unfold TyI.zeroV;cases hk : i.k.agg
  · have h1:=h.size1 hk;have h2:=h.zlen;rw [h1] at h2;obtain ⟨z,hz⟩:=List.length_eq_one_iff.1 h2;have hp:=h.zplain z (by rw [hz];simp);rw [hz];simp only [Bool.false_eq_true,if_false,List.headD_cons];cases z <;> first|rfl|(simp [bJ] at hp)
  · simp [Value.cells]
theorem vY (h : TyOk P t i) {w : World} {b off : Nat} {cs : List Value} (hc : xT w b off i.size cs) :
    (loadVar t ⟨b,off,none⟩).run P w = .ok (if i.k.agg then .agg cs.toArray else cs.headD undef) w:=by
  unfold loadVar;simp only [Sem.run_bind,h.isAgg,Result.andThen_ok];cases hk : i.k.agg
  · simp only [Bool.false_eq_true,if_false];have h1:=h.size1 hk;have h0:=hc.2 0 (by omega);have hl:=hc.1;rw [h1] at hl;obtain ⟨v,rfl⟩:=List.length_eq_one_iff.1 hl;simp only [Nat.add_zero,List.getElem?_cons_zero] at h0;simp [run_load,h0]
  · simp only [if_true,Sem.run_bind,h.sizeOf,Result.andThen_ok];have:=run_loadCells_list (P:=P) w ⟨b,off,none⟩ cs (fun j v hj=>by
      have hlt : j < cs.length:=(List.getElem?_eq_some_iff.1 hj).1;rw [Go.WideShapes.add_plain,hc.2 j (by rw [← hc.1];exact hlt),hj])
    rw [hc.1] at this;simp [this]
end
theorem yH {P : Program} {t : TypeId} {i : TyI} (h : (P.info? t).map (fun f=>(f.size,f.bytes,f.zero)) = some (i.size,i.bytes,some i.zeroV)) (hk : i.k.ok P t) (hz : i.zero.length = i.size) (hp : (i.zero.all bJ) = true)
    (h1 : (match i.k.agg with|true=>true|false=>Nat.beq i.size 1) = true) (hr : ∀ α R,i.rd = some ⟨α,R⟩ → R.n = i.size) (he : i.eq = true → P.eqGuardType P.depth t = false) : TyOk P t i:=by
  obtain ⟨f,hf,he2⟩:=Option.map_eq_some_iff.1 h;simp only [Prod.mk.injEq] at he2;refine ⟨⟨f,hf,he2.1,he2.2.1,he2.2.2⟩,hk,hz,fun z hz=>List.all_eq_true.1 hp z hz,fun e=>?_,hr,he⟩;rw [e] at h1;exact Nat.eq_of_beq_eq_true h1
abbrev frK (k : Nat) : Prop:=k ≠ 7 ∧ k ≠ 9
def grow (ok : Oks) (w : World) : Oks:=fun k b=>ok k b ∨ (w.heap.size ≤ b ∧ frK k)
theorem iK {ok : Oks} {w w' : World} (h : Below w.heap.size w w') : xI ok (grow ok w) w w':=fun _ b hb hlt=>⟨.inl hb,h.block b hlt⟩
def Gives (P : Program) (s : Sem Value) (ok : Oks) (ρ : Nat → Option Value) (w : World) (v : A) : Prop :=
  ∃ u w',s.run P w = .ok u w' ∧ Below w.heap.size w w' ∧ v.rep (grow ok w) ρ w' u
theorem Gives.quiet {P : Program} {s : Sem Value} {ok : Oks} {ρ : Nat → Option Value} {w : World} {v : A} {u : Value} (h : s.run P w = .ok u w) (hr : v.rep ok ρ w u) : Gives P s ok ρ w v :=
  ⟨u,w,h,Below.refl _ _,A.kept (iK (Below.refl _ _)) hr⟩
def Vr.obl : Vr → Prop
  | .ok _=>True
  | .need p _=>p
  | .know _ _=>True
  | .bad=>False
def Vr.val : Vr → A
  | .ok v=>v
  | .need _ v=>v
  | .know _ v=>v
  | .bad=>.one .any
def Vr.fact : Vr → Prop
  | .know p _=>p
  | _=>True
theorem zV (a b : ByteArray) : (a.toList == b.toList) = decide (a = b):=by
  rw [← beq_toListBytes]
  by_cases h : a = b
  · subst h;rw [decide_eq_true rfl,beq_toListBytes];exact beq_self_eq_true _
  · rw [decide_eq_false h,beq_toListBytes,beq_eq_false_iff_ne,ByteArray.toList_eq,ByteArray.toList_eq];intro e;apply h;obtain ⟨⟨x⟩⟩:=a;obtain ⟨⟨y⟩⟩:=b;simp only at e;rw [e]
def vInt (op : BinOp) (k : IntKind) (a b : Int) : Vr :=
  match op with
  | .add=>match k with
    | .i64=>.need (-9223372036854775808 ≤ a + b ∧ a + b ≤ 9223372036854775807) (ii .i64 (a + b))
    | k=>.ok (ii k (k.wrap (a + b)))
  | .sub=>match k with
    | .i64=>.need (-9223372036854775808 ≤ a - b ∧ a - b ≤ 9223372036854775807) (ii .i64 (a - b))
    | k=>.ok (ii k (k.wrap (a - b)))
  | .mul=>match k with
    | .i64=>.need (-9223372036854775808 ≤ a * b ∧ a * b ≤ 9223372036854775807) (ii .i64 (a * b))
    | k=>.ok (ii k (k.wrap (a * b)))
  | .rem=>.need (b ≠ 0) (ii k (a.tmod b))
  | .quo=>.need (b ≠ 0) (ii k (k.wrap (a.tdiv b)))
  | .eql=>.ok (ib (decide (a = b)))
  | .neq=>.ok (ib (!decide (a = b)))
  | .lss=>.ok (ib (decide (a < b)))
  | .leq=>.ok (ib (decide (a ≤ b)))
  | .gtr=>.ok (ib (decide (b < a)))
  | .geq=>.ok (ib (decide (b ≤ a)))
  | _=>.bad
theorem int_ne (a b : Int) : (a != b) = !decide (a = b):=by
  by_cases h : a = b <;> simp [h]
theorem vInt_sound {P : Program} {op : BinOp} {t : TypeId} {k : IntKind} {a b : Int} (h : (vInt op k a b).obl) :
    ∃ z,(vInt op k a b).val = .one (.lit z) ∧ (vInt op k a b).fact ∧ ∀ w,(binOp op t (.int k a) (.int k b)).run P w = .ok z w:=by
  cases op
  case add =>
    cases k
    case i64=>exact ⟨_,rfl,trivial,fun w=>by simp [binOp,Op.intArith,IntWalk.i64_in _ (show _ ∧ _ from h)]⟩
    all_goals exact ⟨_,rfl,trivial,fun w=>by simp [binOp,Op.intArith]⟩
  case sub =>
    cases k
    case i64=>exact ⟨_,rfl,trivial,fun w=>by simp [binOp,Op.intArith,IntWalk.i64_in _ (show _ ∧ _ from h)]⟩
    all_goals exact ⟨_,rfl,trivial,fun w=>by simp [binOp,Op.intArith]⟩
  case mul =>
    cases k
    case i64=>exact ⟨_,rfl,trivial,fun w=>by simp [binOp,Op.intArith,IntWalk.i64_in _ (show _ ∧ _ from h)]⟩
    all_goals exact ⟨_,rfl,trivial,fun w=>by simp [binOp,Op.intArith]⟩
  case rem=>exact ⟨_,rfl,trivial,fun w=>by simp [binOp,Op.intDiv,show b ≠ 0 from h]⟩
  case quo=>exact ⟨_,rfl,trivial,fun w=>by simp [binOp,Op.intDiv,show b ≠ 0 from h]⟩
  case eql=>exact ⟨_,rfl,trivial,fun w=>by simp [binOp,Op.intCmp];rfl⟩
  case neq=>exact ⟨_,rfl,trivial,fun w=>by simp [binOp,Op.intCmp,int_ne]⟩
  case lss=>exact ⟨_,rfl,trivial,fun w=>by simp [binOp,Op.intCmp]⟩
  case leq=>exact ⟨_,rfl,trivial,fun w=>by simp [binOp,Op.intCmp]⟩
  case gtr=>exact ⟨_,rfl,trivial,fun w=>by simp [binOp,Op.intCmp]⟩
  case geq=>exact ⟨_,rfl,trivial,fun w=>by simp [binOp,Op.intCmp]⟩
  all_goals exact h.elim
def vStr (op : BinOp) (a b : ByteArray) : Vr :=
  match op with
  | .add=>.need (a.size + b.size ≤ maxLen) (is (a ++ b))
  | .eql=>.ok (ib (decide (a = b)))
  | .neq=>.ok (ib (!decide (a = b)))
  | .lss=>.ok (ib (Op.bytesLess a.toList b.toList))
  | .leq=>.ok (ib (Op.bytesLess a.toList b.toList || decide (a = b)))
  | .gtr=>.ok (ib (!(Op.bytesLess a.toList b.toList || decide (a = b))))
  | .geq=>.ok (ib (!Op.bytesLess a.toList b.toList))
  | _=>.bad
theorem vStr_sound {P : Program} {op : BinOp} {t : TypeId} {a b : ByteArray} (h : (vStr op a b).obl) :
    ∃ z,(vStr op a b).val = .one (.lit z) ∧ (vStr op a b).fact ∧ ∀ w,(binOp op t (.string a) (.string b)).run P w = .ok z w:=by
  cases op
  case add =>
    refine ⟨_,rfl,trivial,fun w=>?_⟩;have h1 : ¬ ((a.size + b.size : Nat) : Int) > IntKind.i64.max:=by
      have:=show a.size + b.size ≤ maxLen from h;unfold maxLen at this;simp only [IntKind.max,IntKind.signed,IntKind.bits];simp;omega
    simp only [binOp,Op.stringOp,if_neg h1,Sem.run_pure]
  case eql=>exact ⟨_,rfl,trivial,fun w=>by simp [binOp,Op.stringOp,zV]⟩
  case neq=>exact ⟨_,rfl,trivial,fun w=>by simp [binOp,Op.stringOp,zV]⟩
  case lss=>exact ⟨_,rfl,trivial,fun w=>by simp [binOp,Op.stringOp]⟩
  case leq=>exact ⟨_,rfl,trivial,fun w=>by simp [binOp,Op.stringOp,zV]⟩
  case gtr=>exact ⟨_,rfl,trivial,fun w=>by simp [binOp,Op.stringOp,zV]⟩
  case geq=>exact ⟨_,rfl,trivial,fun w=>by simp [binOp,Op.stringOp]⟩
  all_goals exact h.elim
def nthC : List C → Nat → C
  | [],_=>.any
  | c :: _,0=>c
  | _ :: r,n + 1=>nthC r n
def eqCell (k : Option TyI) (x y : C) : Option Bool :=
  match k with
  | none=>none
  | some i=>match i.k,x,y with
    | .str,.lit (.string a),.lit (.string b)=>some (decide (a = b))
    | .int _,.lit (.int j a),.lit (.int l b)=>match decEq j l with
      | isTrue _=>some (decide (a = b))
      | isFalse _=>none
    | .bool,.lit (.bool a),.lit (.bool b)=>some (a == b)
    | _,_,_=>none
def eqL (te : List (TypeId × TyI)) : List (Nat × TypeId) → List C → List C → Option Bool
  | [],_,_=>some true
  | [f],cs,ds=>match Nat.ble cs.length f.1,Nat.ble ds.length f.1 with
    | false,false=>eqCell (find te f.2) (nthC cs f.1) (nthC ds f.1)
    | _,_=>none
  | f :: fs,cs,ds=>match Nat.ble cs.length f.1,Nat.ble ds.length f.1 with
    | false,false=>match eqCell (find te f.2) (nthC cs f.1) (nthC ds f.1) with
      | some b=>match eqL te fs cs ds with
        | some r=>some (b && r)
        | none=>none
      | none=>none
    | _,_=>none
theorem zG {ok : Oks} {ρ : Nat → Option Value} {w : World} : ∀ {cs : List C} {vs : List Value} (i : Nat),i < cs.length → repL ok ρ w cs vs → ∃ v,vs[i]? = some v ∧ (nthC cs i).rep ok ρ w v
  | [],_,_,h,_=>absurd h (by simp)
  | c :: cs,vs,0,_,hr=>by
    obtain ⟨v,r,e,h1,_⟩:=hr;exact ⟨v,by rw [e];rfl,h1⟩
  | c :: cs,vs,i + 1,h,hr=>by
    obtain ⟨v,r,e,_,h2⟩:=hr;obtain ⟨u,hu,hr'⟩:=zG i (by simpa using h) h2;exact ⟨u,by rw [e];simpa using hu,hr'⟩
theorem eqCell_sound {P : Program} {te : List (TypeId × TyI)} (hte : TEok P te) {t : TypeId} {x y : C} {b : Bool} (h : eqCell (find te t) x y = some b) :
    (∃ i,TyOk P t i ∧ i.k.agg = false) ∧ ∀ d ok ρ w u v,x.rep ok ρ w u → y.rep ok ρ w v → (Op.equalIn (d + 1) t u v).run P w = .ok b w:=by
  unfold eqCell at h;split at h
  · cases h
  · rename_i i hi;have hok:=yO hte hi;have hk:=hok.kind;have hag : ∀ k,i.k = k → k.agg = false → ∃ i,TyOk P t i ∧ i.k.agg = false:=fun k e hk=>⟨i,hok,by rw [e];exact hk⟩
    split at h
    · rename_i e1;rw [e1] at hk;cases h;refine ⟨hag _ e1 rfl,fun d ok ρ w u v hu hv=>?_⟩;rw [show u = _ from hu,show v = _ from hv,run_equalIn_string w d t _ _ hk,zV]
    · rename_i e1;rw [e1] at hk;split at h
      · rename_i hjl _;cases h;subst hjl;refine ⟨hag _ e1 rfl,fun d ok ρ w u v hu hv=>?_⟩;rw [show u = _ from hu,show v = _ from hv,run_equalIn_int w d t _ _ _ _ hk];rfl
      · cases h
    · rename_i e1;rw [e1] at hk;cases h;refine ⟨hag _ e1 rfl,fun d ok ρ w u v hu hv=>?_⟩;rw [show u = _ from hu,show v = _ from hv,run_equalIn_bool' w d t _ _ hk]
    · cases h
theorem aC {P : Program} {t : TypeId} {i : TyI} (h : TyOk P t i) (ha : i.k.agg = false) (w : World) (vs : List Value) (off : Nat) (v : Value) (hv : vs[off]? = some v) :
    (part t vs.toArray off).run P w = .ok v w:=by
  unfold part;simp [h.isAgg,ha,hv]
theorem ble_lt {a b : Nat} (h : Nat.ble a b = false) : b < a:=by
  rcases Nat.lt_or_ge b a with h'|h'
  · exact h'
  · rw [Nat.ble_eq_true_of_le h'] at h;cases h
theorem eqL_sound {P : Program} {te : List (TypeId × TyI)} (hte : TEok P te) {cs ds : List C} : ∀ {fs : List Field} {b : Bool}, fs.all (fun f => f.name != "_") = true → eqL te (fs.map fun f => (f.offset, f.type)) cs ds = some b →
    ∀ d ok ρ w us vs,repL ok ρ w cs us → repL ok ρ w ds vs → (Op.eqFields (d + 1) us.toArray vs.toArray fs).run P w = .ok b w
  | [],b,_,h=>fun d ok ρ w us vs _ _=>by cases h;simp [Op.eqFields]
  | f :: fs,b,hn,h=>by
    simp only [List.all_cons, Bool.and_eq_true] at hn;have hf : f.name ≠ "_" := by simpa using hn.1
    have one : ∀ {b : Bool},Nat.ble cs.length f.offset = false → Nat.ble ds.length f.offset = false → eqCell (find te f.type) (nthC cs f.offset) (nthC ds f.offset) = some b →
        ∀ d ok ρ w us vs,repL ok ρ w cs us → repL ok ρ w ds vs → ∃ x y,(part f.type us.toArray f.offset).run P w = .ok x w ∧ (part f.type vs.toArray f.offset).run P w = .ok y w ∧ (Op.equalIn (d + 1) f.type x y).run P w = .ok b w:=by
      intro b h1 h2 h3 d ok ρ w us vs hu hv;obtain ⟨⟨i,hi,hag⟩,he⟩:=eqCell_sound hte h3;obtain ⟨x,hx,hx'⟩:=zG f.offset (ble_lt h1) hu;obtain ⟨y,hy,hy'⟩:=zG f.offset (ble_lt h2) hv;exact ⟨x,y,aC hi hag w us _ x hx,aC hi hag w vs _ y hy,he d ok ρ w x y hx' hy'⟩
    match fs,hn,h with
    | [],_,h =>
      simp only [List.map,eqL] at h;split at h
      · rename_i h1 h2;intro d ok ρ w us vs hu hv;obtain ⟨x,y,h1,h2,h3⟩:=one h1 h2 h d ok ρ w us vs hu hv;simp only [Op.eqFields,if_pos hf,Sem.run_bind,h1,h2,h3,Result.andThen_ok];cases b <;> simp
      · cases h
    | g :: gs,hn,h =>
      rw [List.map,List.map,eqL] at h
      · split at h
        · rename_i h1 h2;split at h
          · rename_i b1 e1;split at h
            · rename_i b2 e2;cases h;intro d ok ρ w us vs hu hv;have h4:=eqL_sound hte (fs:=g :: gs) hn.2 e2 d ok ρ w us vs hu hv;obtain ⟨x,y,h1,h2,h3⟩:=one h1 h2 e1 d ok ρ w us vs hu hv;rw [Op.eqFields];simp only [if_pos hf,Sem.run_bind,h1,h2,h3,Result.andThen_ok];cases b1
              · simp
              · simpa using h4
            · cases h
          · cases h
        · cases h
      · intro h;cases h
inductive Ob : Type 1
  | box (T : TypeId) (cs : List C)
  | vec {α : Type} (E : TypeId) (R : Rd α) (xs : List α)
  | map {α : Type} (g : Bool) (R : Rd α) (es : List (Int × α))
def uF {α : Type} (ok : Oks) (w : World) (v : Value) (E : TypeId) (R : Rd α) (xs : List α) : Prop :=
  ∃ css : List (List Value),css.length = xs.length ∧ (∀ i (h : i < xs.length),R.is ok w (css.getD i []) xs[i]) ∧ w.ownsRow 0 E R.n v xs.length css.flatten
def mval : Bool → Value → List Value → Prop
  | true,v,cs=>v = .agg cs.toArray
  | false,v,cs=>cs = [v]
def MEs {α : Type} (g : Bool) (R : Rd α) (ok : Oks) (w : World) : List MapEntry → List (Int × α) → Prop
  | [],[]=>True
  | m :: ms,e :: es=>(m.key = .int .i64 e.1 ∧ ∃ cs,mval g m.val cs ∧ R.is ok w cs e.2) ∧ MEs g R ok w ms es
  | _,_=>False
theorem MEs.imp {α : Type} {g : Bool} {R R' : Rd α} {ok ok' : Oks} {w w' : World} (hk : ∀ cs x,R.is ok w cs x → R'.is ok' w' cs x) : ∀ {ms : List MapEntry} {es : List (Int × α)},MEs g R ok w ms es → MEs g R' ok' w' ms es
  | [],[],h=>h
  | [],_ :: _,h=>h
  | _ :: _,[],h=>h
  | _ :: _,_ :: _,⟨⟨h1,cs,h2,h3⟩,h4⟩=>⟨⟨h1,cs,h2,hk _ _ h3⟩,h4.imp hk⟩
def MapOk {α : Type} (ok : Oks) (w : World) (r : Nat) (g : Bool) (R : Rd α) (es : List (Int × α)) : Prop :=
  ∃ arr clock,w.heap[r]? = some (.map arr clock) ∧ MEs g R ok w arr.toList es
theorem MapOk.imp {α : Type} {g : Bool} {R R' : Rd α} {ok ok' : Oks} {w w' : World} {r : Nat} {es : List (Int × α)} (hb : w'.heap[r]? = w.heap[r]?) (hk : ∀ cs x,R.is ok w cs x → R'.is ok' w' cs x) (h : MapOk ok w r g R es) : MapOk ok' w' r g R' es:=by
  obtain ⟨arr,clock,h1,h2⟩:=h;exact ⟨arr,clock,hb.trans h1,h2.imp hk⟩
def Ob.is (ok : Oks) (ρ : Nat → Option Value) (w : World) (id : Nat) : Ob → Prop
  | .box T cs=>∃ b vs,ρ id = some (.pointer (some ⟨b,0,none⟩)) ∧ w.heap[b]? = some (.cells (vs.toArray : Array Value) T (0,0)) ∧ repL ok ρ w cs vs
  | .vec E R xs=>∃ v,ρ id = some v ∧ uF ok w v E R xs
  | .map g R es=>∃ r,ρ id = some (.map (some r)) ∧ MapOk ok w r g R es
def zB (ok : Oks) (ρ : Nat → Option Value) (w : World) (ob : List (Nat × Ob)) : Prop:=∀ p ∈ ob,p.2.is ok ρ w p.1
def getO : List (Nat × Ob) → Nat → Option Ob
  | [],_=>none
  | p :: r,i=>match Nat.beq p.1 i with
    | true=>some p.2
    | false=>getO r i
theorem uR {ok : Oks} {ρ : Nat → Option Value} {w : World} : ∀ {ob : List (Nat × Ob)} {i : Nat} {o : Ob},zB ok ρ w ob → getO ob i = some o → o.is ok ρ w i
  | [],_,_,_,h=>by cases h
  | p :: r,i,o,hob,h=>by
    unfold getO at h;split at h
    · rename_i hb;have : p.1 = i:=Nat.eq_of_beq_eq_true hb;cases h;exact this ▸ hob p (by simp)
    · exact uR (fun q hq=>hob q (by simp [hq])) h
section
variable {P : Program} {te : List (TypeId × TyI)} {ok : Oks} {ρ : Nat → Option Value} {w : World}
def Vr.Is (P : Program) (s : Sem Value) (ok : Oks) (ρ : Nat → Option Value) (w : World) (v : Vr) : Prop:=Gives P s ok ρ w v.val ∧ v.fact
theorem Vr.Is.quiet {s : Sem Value} {v : Vr} {u : Value} (h : s.run P w = .ok u w) (hr : v.val.rep ok ρ w u) (hf : v.fact) : v.Is P s ok ρ w:=⟨Gives.quiet h hr,hf⟩
def isK : Operand → Bool
  | .const _=>true
  | _=>false
def vEqNil (i : TyI) (k : Bool) (x y : C) (neg : Bool) : Vr :=
  match i.k with
  | .iface=>match x,y with
    | .lit .nilIface,.lit .nilIface=>match k with
      | true=>.ok (ib (!neg))
      | false=>.bad
    | .lit (.iface _ _),.lit .nilIface=>.ok (ib neg)
    | .ifc _ _,.lit .nilIface=>.ok (ib neg)
    | _,_=>.bad
  | .ptr _=>match x,y with
    | .lit (.pointer none),.lit (.pointer none)=>.ok (ib (!neg))
    | .adk _ _ _,.lit (.pointer none)=>.ok (ib neg)
    | .own _ _,.lit (.pointer none)=>.ok (ib neg)
    | _,_=>.bad
  | .bool=>match x,y with
    | .lit (.bool a),.lit (.bool b)=>.ok (ib (match neg with|true=>!(a == b)|false=>a == b))
    | _,_=>.bad
  | _=>.bad
def vBin (te : List (TypeId × TyI)) (op : BinOp) (t : TypeId) (k : Bool) (x y : A) : Vr :=
  match x,y with
  | .one (.lit (.int i a)),.one (.lit (.int j b))=>match decEq i j with
    | isTrue _=>vInt op i a b
    | isFalse _=>.bad
  | .one (.lit (.string a)),.one (.lit (.string b))=>vStr op a b
  | .one c,.one d=>match find te t with
    | some i=>match op with
      | .eql=>vEqNil i k c d false
      | .neq=>vEqNil i k c d true
      | _=>.bad
    | none=>.bad
  | .agg cs,.agg ds=>match find te t with
    | some i=>match i.k with
      | .struct fs=>match eqL te fs cs ds with
        | some b=>match op with
          | .eql=>.need (i.eq = true) (ib b)
          | .neq=>.need (i.eq = true) (ib (!b))
          | _=>.bad
        | none=>.bad
      | _=>.bad
    | none=>.bad
  | _,_=>.bad
theorem iM {op : BinOp} {t : TypeId} {x y : Operand} {a b : Array Value} (h : P.eqGuardType P.depth t = false) : (eqGuard op t x y (.agg a) (.agg b)).run P w = .ok () w:=by
  cases op <;> first|rfl|simp [eqGuard,h]
theorem eqGuard_nils {op : BinOp} {t : TypeId} {x y : Operand} (h : isK x = true ∨ isK y = true) : (eqGuard op t x y .nilIface .nilIface).run P w = .ok () w:=by
  rcases h with h|h
  · cases x with
    | const v=>cases op <;> first|rfl|simp [eqGuard]
    | _=>simp [isK] at h
  · cases y with
    | const v=>cases op <;> first|rfl|simp [eqGuard]
    | _=>simp [isK] at h
theorem e_nn {t : TypeId} {ms} (hu : P.underlying t = some (.interface ms)) (d : Nat) : (Op.equalIn (d + 1) t .nilIface .nilIface).run P w = .ok true w:=by
  simp only [Op.equalIn,Sem.run_bind,run_underlying hu,Result.andThen_ok,Sem.run_pure]
theorem e_in {t : TypeId} {ms} (hu : P.underlying t = some (.interface ms)) (t' : TypeId) (v : Value) (d : Nat) : (Op.equalIn (d + 1) t (.iface t' v) .nilIface).run P w = .ok false w:=by
  simp only [Op.equalIn,Sem.run_bind,run_underlying hu,Result.andThen_ok,Sem.run_pure]
theorem e_pp {t e : TypeId} (hu : P.underlying t = some (.pointer e)) (d : Nat) : (Op.equalIn (d + 1) t (.pointer none) (.pointer none)).run P w = .ok true w:=by
  simp only [Op.equalIn,Sem.run_bind,run_underlying hu,Result.andThen_ok,Sem.run_pure,Option.isNone]
theorem e_ap {t e : TypeId} (hu : P.underlying t = some (.pointer e)) (a : Addr) (d : Nat) : (Op.equalIn (d + 1) t (.pointer (some a)) (.pointer none)).run P w = .ok false w:=by
  simp only [Op.equalIn,Sem.run_bind,run_underlying hu,Result.andThen_ok,Sem.run_pure]
theorem wM {op : BinOp} {neg : Bool} (hop : op = (match neg with|true=>BinOp.neq|false=>BinOp.eql)) {t : TypeId} {ox oy : Operand} {u v : Value} {b : Bool}
    (hg : (eqGuard op t ox oy u v).run P w = .ok () w) (h1 : binOp .eql t u v = (do pure (.bool (← Op.equal t u v)))) (h2 : binOp .neq t u v = (do pure (.bool (!(← Op.equal t u v)))))
    (he : ∀ d,(Op.equalIn (d + 1 + 1) t u v).run P w = .ok b w) : (do eqGuard op t ox oy u v;binOp op t u v).run P w = .ok (.bool (match neg with|true=>!b|false=>b)) w:=by
  have hq : (Op.equal t u v).run P w = .ok b w:=he 9998;rw [Sem.run_bind,hg];cases neg <;> subst hop
  · simp only [Result.andThen_ok,h1,Sem.run_bind,hq,Sem.run_pure]
  · simp only [Result.andThen_ok,h2,Sem.run_bind,hq,Sem.run_pure]
theorem dX {op : BinOp} {neg : Bool} (hop : op = (match neg with|true=>BinOp.neq|false=>BinOp.eql)) {t : TypeId} {i : TyI} (hi : TyOk P t i) {k : Bool} {x y : C} (h : (vEqNil i k x y neg).obl) {ox oy : Operand} (hk : k = true → isK ox = true ∨ isK oy = true) {u v : Value}
    (hx : x.rep ok ρ w u) (hy : y.rep ok ρ w v) : (vEqNil i k x y neg).Is P (do eqGuard op t ox oy u v;binOp op t u v) ok ρ w:=by
  have hkd:=hi.kind;unfold vEqNil at h ⊢;split at h
  · rename_i e;rw [e] at hkd;obtain ⟨ms,hu⟩:=hkd;split at h
    · split at h
      · rw [show u = _ from hx,show v = _ from hy];refine .quiet (wM hop (b:=true) (eqGuard_nils (hk rfl)) rfl rfl (fun d=>e_nn hu (d + 1))) ?_ trivial;cases neg <;> rfl
      · exact h.elim
    · rw [show u = _ from hx,show v = _ from hy];refine .quiet (wM hop (b:=false) (by cases neg <;> subst hop <;> rfl) rfl rfl (fun d=>e_in hu _ _ (d + 1))) ?_ trivial;cases neg <;> rfl
    · obtain ⟨z,rfl,_⟩:=hx;rw [show v = _ from hy];refine .quiet (wM hop (b:=false) (by cases neg <;> subst hop <;> rfl) rfl rfl (fun d=>e_in hu _ _ (d + 1))) ?_ trivial;cases neg <;> rfl
    · exact h.elim
  · rename_i e;rw [e] at hkd;have hu : P.underlying t = _:=hkd;split at h
    · rw [show u = _ from hx,show v = _ from hy];refine .quiet (wM hop (b:=true) (by cases neg <;> subst hop <;> rfl) rfl rfl (fun d=>e_pp hu (d + 1))) ?_ trivial;cases neg <;> rfl
    · obtain ⟨b,off,cs,rfl,_⟩:=hx;rw [show v = _ from hy];refine .quiet (wM hop (b:=false) (by cases neg <;> subst hop <;> rfl) rfl rfl (fun d=>e_ap hu _ (d + 1))) ?_ trivial;cases neg <;> rfl
    · obtain ⟨b,_,rfl⟩:=hx;rw [show v = _ from hy];refine .quiet (wM hop (b:=false) (by cases neg <;> subst hop <;> rfl) rfl rfl (fun d=>e_ap hu _ (d + 1))) ?_ trivial;cases neg <;> rfl
    · exact h.elim
  · rename_i e;rw [e] at hkd;have hu : P.underlying t = _:=hkd;split at h
    · rename_i a b;rw [show u = _ from hx,show v = _ from hy];refine .quiet (wM hop (b:=a == b) (by cases neg <;> subst hop <;> rfl) rfl rfl (fun d=>run_equalIn_bool' w (d + 1) t _ _ hu)) ?_ trivial;cases neg <;> rfl
    · exact h.elim
  · exact h.elim
theorem vBin_sound (hte : TEok P te) {op : BinOp} {t : TypeId} {k : Bool} {x y : A} (h : (vBin te op t k x y).obl) {ox oy : Operand} (hk : k = true → isK ox = true ∨ isK oy = true) {u v : Value}
    (hx : x.rep ok ρ w u) (hy : y.rep ok ρ w v) : (vBin te op t k x y).Is P (do eqGuard op t ox oy u v;binOp op t u v) ok ρ w:=by
  unfold vBin at h ⊢;split at h
  · split at h
    · rename_i hij _;subst hij;rw [show u = _ from hx,show v = _ from hy];obtain ⟨z,h1,h2,h3⟩:=vInt_sound (P:=P) (t:=t) h;refine .quiet (u:=z) ?_ (by rw [h1];rfl) h2;rw [Sem.run_bind,eqGuard_at_int];exact h3 w
    · exact h.elim
  · rw [show u = _ from hx,show v = _ from hy];obtain ⟨z,h1,h2,h3⟩:=vStr_sound (P:=P) (t:=t) h;refine .quiet (u:=z) ?_ (by rw [h1];rfl) h2;rw [Sem.run_bind,eqGuard_at_string];exact h3 w
  · split at h
    · rename_i i hi;have hok:=yO hte hi;split at h
      · exact dX (neg:=false) rfl hok h hk hx hy
      · exact dX (neg:=true) rfl hok h hk hx hy
      · exact h.elim
    · exact h.elim
  · split at h
    · rename_i i hi;have hok:=yO hte hi;have hkd:=hok.kind;split at h
      · rename_i fs hfs;rw [hfs] at hkd;obtain ⟨h1,h2,h3,h4,_⟩:=hkd;split at h
        · rename_i b hb;rw [← h2] at hb;obtain ⟨us,rfl,hus⟩:=hx;obtain ⟨vs,rfl,hvs⟩:=hy;have hrun : ∀ d,(Op.equalIn (d + 1 + 1) t (.agg us.toArray) (.agg vs.toArray)).run P w = .ok b w:=by
            intro d;rw [run_equalIn_struct w (d + 1) t _ _ h1 h4];exact eqL_sound hte h3 hb d ok ρ w us vs hus hvs
          split at h
          · exact .quiet (wM (neg:=false) rfl (b:=b) (iM (hok.eqg h)) rfl rfl hrun) rfl trivial
          · exact .quiet (wM (neg:=true) rfl (b:=b) (iM (hok.eqg h)) rfl rfl hrun) rfl trivial
          · exact h.elim
        · exact h.elim
      · exact h.elim
    · exact h.elim
  · exact h.elim
end
def lenC : List C → Nat
  | []=>0
  | _ :: r=>lenC r + 1
theorem jP : ∀ cs : List C,lenC cs = cs.length
  | []=>rfl
  | _ :: r=>by rw [lenC,jP r];rfl
def dropC : Nat → List C → List C
  | 0,cs=>cs
  | _ + 1,[]=>[]
  | n + 1,_ :: r=>dropC n r
def takeC : Nat → List C → List C
  | 0,_=>[]
  | _ + 1,[]=>[]
  | n + 1,c :: r=>c :: takeC n r
theorem eX : ∀ (n : Nat) (cs : List C),dropC n cs = cs.drop n
  | 0,_=>rfl
  | _ + 1,[]=>rfl
  | n + 1,_ :: r=>eX n r
theorem eD : ∀ (n : Nat) (cs : List C),takeC n cs = cs.take n
  | 0,_=>rfl
  | _ + 1,[]=>rfl
  | n + 1,c :: r=>by rw [takeC,eD n r];rfl
def C.see (c : C) : C:=match c with
  | .any=>.any
  | .lit v=>.lit v
  | .slk k R xs=>.slk k R xs
  | .full R xs=>.full R xs
  | .adk k R x=>.adk k R x
  | .own i o=>.own i o
  | .vec i=>.vec i
  | .vel i k n=>.vel i k n
  | .ifc t c=>.ifc t c
  | .clo f c=>.clo f c
  | .clo2 f c d=>.clo2 f c d
  | .clo3 f c d e=>.clo3 f c d e
  | .ref c=>.ref c
  | .nself u i=>.nself u i
  | .fx i u=>.fx i u
  | .vof i k n o=>.vof i k n o
  | .mp i=>.mp i
def okC (c : C) : Vr:=match c with
  | .any=>.bad
  | .lit v=>.ok (.one (.lit v))
  | .slk k R xs=>.ok (.one (.slk k R xs))
  | .full R xs=>.ok (.one (.full R xs))
  | .adk k R x=>.ok (.one (.adk k R x))
  | .own i o=>.ok (.one (.own i o))
  | .vec i=>.ok (.one (.vec i))
  | .vel i k n=>.ok (.one (.vel i k n))
  | .ifc t c=>.ok (.one (.ifc t c))
  | .clo f c=>.ok (.one (.clo f c))
  | .clo2 f c d=>.ok (.one (.clo2 f c d))
  | .clo3 f c d e=>.ok (.one (.clo3 f c d e))
  | .ref c=>.ok (.one (.ref c))
  | .nself _ _=>.bad
  | .fx _ _=>.bad
  | .vof i k n o=>.ok (.one (.vof i k n o))
  | .mp i=>.ok (.one (.mp i))
section
variable {P : Program} {te : List (TypeId × TyI)} {ok : Oks} {ρ : Nat → Option Value} {w : World}
theorem cE : ∀ (n : Nat) {cs : List C} {vs : List Value},repL ok ρ w cs vs → repL ok ρ w (cs.drop n) (vs.drop n)
  | 0,_,_,h=>h
  | _ + 1,[],_,h=>by rw [show _ = _ from h];exact rfl
  | n + 1,_ :: _,_,h=>by
    obtain ⟨v,r,e,_,h2⟩:=h;rw [e];exact cE n h2
theorem cD : ∀ (n : Nat) {cs : List C} {vs : List Value},repL ok ρ w cs vs → repL ok ρ w (cs.take n) (vs.take n)
  | 0,_,_,_=>rfl
  | _ + 1,[],_,h=>by rw [show _ = _ from h];exact rfl
  | n + 1,_ :: _,_,h=>by
    obtain ⟨v,r,e,h1,h2⟩:=h;rw [e];exact ⟨v,r.take n,rfl,h1,cD n h2⟩
def bN (i : TyI) (off : Nat) (cs : List C) : Vr :=
  match Nat.ble (off + i.size) (lenC cs) with
  | true=>match i.k.agg with
    | true=>match Nat.beq (lenC cs) i.size with
      | true=>.ok (.agg cs)
      | false=>.ok (.agg (takeC i.size (dropC off cs)))
    | false=>okC (nthC cs off)
  | false=>.bad
def ldTyp {α : Type} (i : TyI) (R : Rd α) (x : α) : Vr :=
  match Nat.beq R.n i.size with
  | true=>match i.k.agg with
    | true=>.ok (.agg (toL R x))
    | false=>okC (toC R x)
  | false=>.bad
def vLoad (te : List (TypeId × TyI)) (ob : List (Nat × Ob)) (t : TypeId) (x : A) : Vr :=
  match find te t with
  | some i=>match x with
    | .one (.adk _ R x)=>ldTyp i R x
    | .one (.ref c)=>match i.k.agg with
      | false=>okC c
      | true=>.bad
    | .one (.own id off)=>match getO ob id with
      | some (.box _ cs)=>bN i off cs
      | _=>.bad
    | .one (.vel id k n)=>match getO ob id with
      | some (.vec _ R xs)=>match Nat.beq n R.n with
        | true=>match ldTyp i R (xs.getD k R.dflt) with
          | .ok v=>.need (k < xs.length) v
          | _=>.bad
        | false=>.bad
      | _=>.bad
    | .one (.vof id k n o)=>match getO ob id with
      | some (.vec _ R xs)=>match Nat.beq n R.n with
        | true=>match bN i o (toL R (xs.getD k R.dflt)) with
          | .ok v=>.need (k < xs.length) v
          | _=>.bad
        | false=>.bad
      | _=>.bad
    | _=>.bad
  | none=>.bad
theorem cI {c : C} (_h : (okC c).obl) : (okC c).val = .one c ∧ (okC c).fact:=by
  cases c <;> first|exact ⟨rfl,trivial⟩|exact (show False from ‹_›).elim
theorem uT {t : TypeId} {a : Addr} : (Instr.loadAt t (.pointer (some a))).run P w = (loadVar t a).run P w:=rfl
theorem iJ {α : Type} {t : TypeId} {i : TyI} (hi : TyOk P t i) {R : Rd α} {x : α} {b off : Nat} {cs : List Value} (h : (ldTyp i R x).obl) (hc : xT w b off R.n cs) (hr : R.is ok w cs x) :
    ∃ u,(loadVar t ⟨b,off,none⟩).run P w = .ok u w ∧ (ldTyp i R x).val.rep ok ρ w u ∧ (ldTyp i R x).fact:=by
  unfold ldTyp at h ⊢;split at h
  · rename_i hn;have hn:=Nat.eq_of_beq_eq_true hn;rw [hn] at hc;have hrun:=vY hi hc;refine ⟨_,hrun,?_⟩;cases hag : i.k.agg <;> simp only [hag] at h
    · have h1 : R.n = 1:=by rw [hn];exact hi.size1 hag
      have hrep:=gN (ρ:=ρ) R hr;rw [toL_one R x h1] at hrep;obtain ⟨v,r,e,hv,hr'⟩:=hrep;obtain ⟨ho,hf⟩:=cI h;simp only [Bool.false_eq_true,if_false];rw [ho,e];exact ⟨hv,hf⟩
    · exact ⟨⟨cs,by simp,gN R hr⟩,trivial⟩
  · exact h.elim
theorem cells_box {b : Nat} {T : TypeId} {vs : List Value} (hb : w.heap[b]? = some (.cells (vs.toArray : Array Value) T (0,0))) (off n : Nat) (h : off + n ≤ vs.length) : xT w b off n ((vs.drop off).take n):=by
  refine ⟨by simp;omega,fun j hj=>?_⟩;simp only [World.cell?,hb,Option.isSome_none,Bool.false_eq_true,if_false,List.getElem?_toArray];rw [List.getElem?_take_of_lt hj,List.getElem?_drop]
theorem nth_drop (vs : List Value) (off : Nat) (v : Value) (h : vs[off]? = some v) : (vs.drop off).take 1 = [v]:=by
  obtain ⟨hl,he⟩:=List.getElem?_eq_some_iff.1 h;rw [List.drop_eq_getElem_cons hl,he];rfl
theorem ldBox_cells {i : TyI} {t : TypeId} (hok : TyOk P t i) {b o m : Nat} {cs : List C} {vs : List Value} (hc : xT w b m vs.length vs) (hcs : repL ok ρ w cs vs) (h : (bN i o cs).obl) :
    ∃ u,(loadVar t ⟨b,m + o,none⟩).run P w = .ok u w ∧ (bN i o cs).val.rep ok ρ w u ∧ (bN i o cs).fact:=by
  have hlen:=repL.len hcs;unfold bN at h ⊢;split at h
  · rename_i hle;have hle:=Nat.le_of_ble_eq_true hle;rw [jP,← hlen] at hle;have hc' : xT w b (m + o) i.size ((vs.drop o).take i.size):=by
      refine ⟨by simp;omega,fun j hj=>?_⟩;rw [Nat.add_assoc,hc.2 (o + j) (by omega),List.getElem?_take_of_lt hj,List.getElem?_drop]
    have hrun:=vY hok hc';refine ⟨_,hrun,?_⟩;cases hag : i.k.agg <;> simp only [hag] at h
    · have h1:=hok.size1 hag;obtain ⟨v,hv,hv'⟩:=zG o (by omega) hcs;obtain ⟨ho,hf⟩:=cI h;simp only [Bool.false_eq_true,if_false];rw [ho,h1,nth_drop vs o v hv];exact ⟨hv',hf⟩
    · split at h
      · rename_i hsz;have hsz:=Nat.eq_of_beq_eq_true hsz;rw [jP] at hsz;have h0 : o = 0:=by omega
        subst h0;refine ⟨⟨vs,?_,hcs⟩,trivial⟩;simp only [List.drop_zero,if_true];rw [List.take_of_length_le (by omega)]
      · refine ⟨⟨_,rfl,?_⟩,trivial⟩;rw [eD,eX];exact cD _ (cE _ hcs)
  · exact h.elim
theorem vec_cells {α : Type} {E : TypeId} {R : Rd α} {xs : List α} {b m cap : Nat} {css : List (List Value)} (hl : css.length = xs.length) (hr : ∀ i (h : i < xs.length),R.is ok w (css.getD i []) xs[i]) (hown : w.ownsRow 0 E R.n (.slice (some ⟨b,0,none⟩) m cap) xs.length css.flatten) {k : Nat} (hk : k < xs.length) : xT w b (k * R.n) R.n (css.getD k []):=by
  have hfl : ∀ c ∈ css,c.length = R.n:=by
    intro c hc;obtain ⟨j,hj,rfl⟩:=List.mem_iff_getElem.1 hc;have:=R.len (hr j (by omega))
    simpa [List.getD,hj] using this
  rcases hown.2 with ⟨h0,_⟩|⟨g,c',cur,hsl,_,hgh,hnc,hcm,hcs,htake⟩
  · cases h0
  · injection hsl with e1 e2 e3
    injection e1 with e1
    injection e1 with e1 _ _
    subst e1 e2 e3;refine ⟨R.len (hr k hk),fun j hj=>?_⟩;have hlt : k * R.n + j < xs.length * R.n:=by
      have : (k + 1) * R.n ≤ xs.length * R.n:=Nat.mul_le_mul_right _ (by omega);rw [Nat.add_mul] at this;omega
    have e2 : w.cell? ⟨b,k * R.n + j,none⟩ = css.flatten[k * R.n + j]?:=hown.cellAt _ hlt;rw [e2];exact uC css k j hfl (by omega) hj
theorem vLoad_sound (hte : TEok P te) {ob : List (Nat × Ob)} {t : TypeId} {x : A} (h : (vLoad te ob t x).obl) {u : Value} (hx : x.rep ok ρ w u) (hob : zB ok ρ w ob) :
    (vLoad te ob t x).Is P (Instr.loadAt t u) ok ρ w:=by
  unfold vLoad at h ⊢;split at h
  · rename_i i hi;have hok:=yO hte hi;split at h
    · obtain ⟨b,off,cs,rfl,_,_,hc,hr⟩:=hx;obtain ⟨v,h1,h2,h3⟩:=iJ (ρ:=ρ) hok h hc hr;exact .quiet (by rw [uT];exact h1) h2 h3
    · obtain ⟨b,off,z,rfl,_,_,hc,hr⟩:=hx;cases hag : i.k.agg <;> simp only [hag] at h ⊢
      · have h1:=hok.size1 hag;have hrun:=vY hok (h1 ▸ hc);simp only [hag] at hrun;obtain ⟨ho,hf⟩:=cI h;refine .quiet (u:=z) (by rw [uT];exact hrun) ?_ hf;rw [ho];exact hr
      · exact h.elim
    · rename_i id off;obtain ⟨b,hρ,rfl⟩:=hx;split at h
      · rename_i T cs hg;have hbx:=uR hob hg;obtain ⟨b',vs,hρ',hb,hcs⟩:=hbx;rw [hρ] at hρ';simp only [Option.some.injEq,Value.pointer.injEq,Addr.mk.injEq,and_true] at hρ';subst hρ';have hlen:=repL.len hcs;unfold bN at h ⊢;split at h
        · rename_i hle;have hle:=Nat.le_of_ble_eq_true hle;rw [jP,← hlen] at hle;have hc:=cells_box hb off i.size hle;have hrun:=vY hok hc;cases hag : i.k.agg <;> simp only [hag] at h hrun
          · have h1:=hok.size1 hag;obtain ⟨v,hv,hv'⟩:=zG off (by omega) hcs;obtain ⟨ho,hf⟩:=cI h;refine .quiet (u:=v) ?_ ?_ hf
            · rw [uT,hrun,h1,nth_drop vs off v hv];rfl
            · rw [ho];exact hv'
          · split at h
            · rename_i hsz;have hsz:=Nat.eq_of_beq_eq_true hsz;rw [jP] at hsz;have h0 : off = 0:=by omega
              subst h0;refine .quiet (by rw [uT];exact hrun) ⟨vs,?_,hcs⟩ trivial;simp only [List.drop_zero,if_true];rw [List.take_of_length_le (by omega)]
            · refine .quiet (by rw [uT];exact hrun) ⟨_,rfl,?_⟩ trivial;rw [eD,eX];exact cD _ (cE _ hcs)
        · exact h.elim
      · exact h.elim
    · rename_i id k n;obtain ⟨b,m,cap,hρ,rfl⟩:=hx;split at h
      · rename_i E R xs hg;obtain ⟨vv,hvv,hbx⟩ : ∃ v,ρ id = some v ∧ uF ok w v E R xs:=uR hob hg;split at h
        · rename_i hn;have hn:=Nat.eq_of_beq_eq_true hn;split at h
          · rename_i v hv;have hk : k < xs.length:=h;obtain ⟨css,hl,hr,hown⟩:=hbx;rw [hρ] at hvv;obtain rfl:=Option.some.inj hvv;rcases hown.2 with ⟨h0,_⟩|⟨g,c',cur,hsl,_,hgh,hnc,hcm,hcs,htake⟩
            · cases h0
            · injection hsl with e1 e2 e3
              injection e1 with e1
              injection e1 with e1 _ _
              subst e1 e2 e3;have hfl : ∀ c ∈ css,c.length = R.n:=by
                intro c hc;obtain ⟨j,hj,rfl⟩:=List.mem_iff_getElem.1 hc;have:=R.len (hr j (by omega))
                simpa [List.getD,hj] using this
              have hcell : xT w b (k * R.n) R.n (css.getD k []):=by
                refine ⟨R.len (hr k hk),fun j hj=>?_⟩;have hlt : k * R.n + j < xs.length * R.n:=by
                  have : (k + 1) * R.n ≤ xs.length * R.n:=Nat.mul_le_mul_right _ (by omega);rw [Nat.add_mul] at this;omega
                have e2 : w.cell? ⟨b,k * R.n + j,none⟩ = css.flatten[k * R.n + j]?:=hown.cellAt _ hlt;rw [e2];exact uC css k j hfl (by omega) hj
              have hobl : (ldTyp i R (xs.getD k R.dflt)).obl:=by rw [hv];trivial
              have hgd : xs.getD k R.dflt = xs[k]:=by simp [List.getD,hk]
              have hr':=hr k hk;rw [← hgd] at hr';obtain ⟨z,h1,h2,h3⟩:=iJ (ρ:=ρ) hok hobl hcell hr';rw [hv] at h2;subst hn;exact .quiet (by rw [uT];exact h1) h2 trivial
          · exact h.elim
        · exact h.elim
      · exact h.elim
    · rename_i id k n o;obtain ⟨b,m,cap,hρ,rfl⟩:=hx;split at h
      · rename_i E R xs hg;obtain ⟨vv,hvv,css,hl,hr,hown⟩ : ∃ v,ρ id = some v ∧ uF ok w v E R xs:=uR hob hg;rw [hρ] at hvv;obtain rfl:=Option.some.inj hvv;split at h
        · rename_i hn;have hn:=Nat.eq_of_beq_eq_true hn;split at h
          · rename_i v hv;have hk : k < xs.length:=h;have hcell:=vec_cells hl hr hown hk;have hgd : xs.getD k R.dflt = xs[k]:=by simp [List.getD,hk]
            have hr':=hr k hk;rw [← hgd] at hr';have hlen:=R.len hr';obtain ⟨z,h1,h2,h3⟩:=ldBox_cells (ρ:=ρ) hok (o:=o) (by rw [hlen];exact hcell) (gN R hr') (by rw [hv];trivial);rw [hv] at h2;subst hn;exact .quiet (by rw [uT];exact h1) h2 trivial
          · exact h.elim
        · exact h.elim
      · exact h.elim
    · exact h.elim
  · exact h.elim
def fldR : List (Nat × TypeId) → Nat → {α : Type} → Rd α → α → Nat → Option (Sigma fun β : Type=>Rd β × β)
  | [],_,_,_,_,_=>none
  | [p],base,_,R,x,0=>match Nat.beq p.1 base with
    | true=>some ⟨_,R,x⟩
    | false=>none
  | [_],_,_,_,_,_ + 1=>none
  | p :: _ :: _,base,_,.st R _,x,0=>match Nat.beq p.1 base with
    | true=>some ⟨_,R,x.1⟩
    | false=>none
  | _ :: q :: fs,base,_,.st R S,x,f + 1=>fldR (q :: fs) (base + R.n) S x.2 f
  | _ :: _ :: _,_,_,_,_,_=>none
theorem aL {b off : Nat} : ∀ {fs : List (Nat × TypeId)} {base : Nat} {α : Type} {R : Rd α} {x : α} {f : Nat} {β : Type} {S : Rd β} {y : β} {cs : List Value},fldR fs base R x f = some ⟨β,S,y⟩ → xT w b (off + base) R.n cs → R.is ok w cs x →
    ∃ o ty ds,fs[f]? = some (o,ty) ∧ xT w b (off + o) S.n ds ∧ S.is ok w ds y
  | [],_,_,_,_,_,_,_,_,_,h,_,_=>by simp [fldR] at h
  | [p],base,_,R,x,0,_,_,_,cs,h,hc,hr=>by
    unfold fldR at h;split at h
    · rename_i hb;cases h;have hb:=Nat.eq_of_beq_eq_true hb;exact ⟨p.1,p.2,cs,rfl,by rw [hb];exact hc,hr⟩
    · cases h
  | [_],_,_,_,_,_ + 1,_,_,_,_,h,_,_=>by simp [fldR] at h
  | p :: q :: fs,base,_,.st R S',x,0,_,_,_,cs,h,hc,hr=>by
    unfold fldR at h;split at h
    · rename_i hb;cases h;have hb:=Nat.eq_of_beq_eq_true hb;obtain ⟨c,d,e,h1,h2⟩:=hr;refine ⟨p.1,p.2,c,rfl,⟨R.len h1,fun j hj=>?_⟩,h1⟩;rw [hb,hc.2 j (by simp only [Rd.n];omega),e,List.getElem?_append_left (by rw [R.len h1];exact hj)]
    · cases h
  | p :: q :: fs,base,_,.st R S',x,f + 1,_,_,_,cs,h,hc,hr=>by
    unfold fldR at h;obtain ⟨c,d,e,h1,h2⟩:=hr;have hc' : xT w b (off + (base + R.n)) S'.n d:=by
      refine ⟨S'.len h2,fun j hj=>?_⟩;have:=hc.2 (R.n + j) (by simp only [Rd.n];omega);rw [e,List.getElem?_append_right (by rw [R.len h1];omega),R.len h1,Nat.add_sub_cancel_left] at this;rw [← this]
      congr 2
      omega
    obtain ⟨o,ty,ds,h3,h4,h5⟩:=aL h hc' h2;exact ⟨o,ty,ds,by simpa using h3,h4,h5⟩
  | _ :: _ :: _,_,_,.str,_,0,_,_,_,_,h,_,_=>by simp [fldR] at h
  | _ :: _ :: _,_,_,.int _,_,0,_,_,_,_,h,_,_=>by simp [fldR] at h
  | _ :: _ :: _,_,_,.bool,_,0,_,_,_,_,h,_,_=>by simp [fldR] at h
  | _ :: _ :: _,_,_,.raw,_,0,_,_,_,_,h,_,_=>by simp [fldR] at h
  | _ :: _ :: _,_,_,.unk,_,0,_,_,_,_,h,_,_=>by simp [fldR] at h
  | _ :: _ :: _,_,_,.slk _ _,_,0,_,_,_,_,h,_,_=>by simp [fldR] at h
  | _ :: _ :: _,_,_,.ptk _ _,_,0,_,_,_,_,h,_,_=>by simp [fldR] at h
  | _ :: _ :: _,_,_,.ifc _ _,_,0,_,_,_,_,h,_,_=>by simp [fldR] at h
  | _ :: _ :: _,_,_,.str,_,_ + 1,_,_,_,_,h,_,_=>by simp [fldR] at h
  | _ :: _ :: _,_,_,.int _,_,_ + 1,_,_,_,_,h,_,_=>by simp [fldR] at h
  | _ :: _ :: _,_,_,.bool,_,_ + 1,_,_,_,_,h,_,_=>by simp [fldR] at h
  | _ :: _ :: _,_,_,.raw,_,_ + 1,_,_,_,_,h,_,_=>by simp [fldR] at h
  | _ :: _ :: _,_,_,.unk,_,_ + 1,_,_,_,_,h,_,_=>by simp [fldR] at h
  | _ :: _ :: _,_,_,.slk _ _,_,_ + 1,_,_,_,_,h,_,_=>by simp [fldR] at h
  | _ :: _ :: _,_,_,.ptk _ _,_,_ + 1,_,_,_,_,h,_,_=>by simp [fldR] at h
  | _ :: _ :: _,_,_,.ifc _ _,_,_ + 1,_,_,_,_,h,_,_=>by simp [fldR] at h
def nthF : List (Nat × TypeId) → Nat → Option Nat
  | [],_=>none
  | p :: _,0=>some p.1
  | _ :: r,n + 1=>nthF r n
theorem cJ : ∀ {fs : List (Nat × TypeId)} {f o : Nat},nthF fs f = some o → ∃ ty,fs[f]? = some (o,ty)
  | [],_,_,h=>by cases h
  | p :: _,0,_,h=>by cases h;exact ⟨p.2,rfl⟩
  | _ :: r,n + 1,_,h=>by obtain ⟨ty,h⟩:=cJ (fs:=r) h;exact ⟨ty,by simpa using h⟩
def vFld (te : List (TypeId × TyI)) (t : TypeId) (x : A) (f : Nat) : Vr :=
  match find te t with
  | some i=>match i.k with
    | .struct fs=>match x with
      | .one (.adk k R x)=>match fldR fs 0 R x f with
        | some ⟨_,S,y⟩=>.ok (.one (.adk k S y))
        | none=>.bad
      | .one (.own id off)=>match nthF fs f with
        | some o=>.ok (.one (.own id (off + o)))
        | none=>.bad
      | .one (.vel id k n)=>match nthF fs f with
        | some o=>.ok (.one (.vof id k n o))
        | none=>.bad
      | .one (.vof id k n p)=>match nthF fs f with
        | some o=>.ok (.one (.vof id k n (p + o)))
        | none=>.bad
      | _=>.bad
    | _=>.bad
  | none=>.bad
theorem uB {t : TypeId} {fs : List (Nat × TypeId)} (hk : (TK.struct fs).ok P t) {f o : Nat} {ty : TypeId} (hf : fs[f]? = some (o,ty)) (a : Addr) :
    (Instr.fieldAt t (.pointer (some a)) f).run P w = .ok (.pointer (some (a.add o))) w:=by
  obtain ⟨h1,h2,h3,h4,h5⟩:=hk;have hff : ∃ fld,(P.fieldsOf t)[f]? = some fld ∧ fld.offset = o ∧ fld.type = ty:=by
    rw [← h2,List.getElem?_map] at hf;obtain ⟨fld,h6,h7⟩:=Option.map_eq_some_iff.1 hf;cases h7;exact ⟨fld,by simpa using h6,rfl,rfl⟩
  obtain ⟨fld,hfld,rfl,rfl⟩:=hff;have hsz : ((P.info? fld.type).map (·.size)).getD 0 ≠ 0:=by
    have hm : (fld.offset,fld.type) ∈ fs:=List.mem_of_getElem? hf;have:=List.all_eq_true.1 h5 _ hm
    simpa using this
  cases hi : P.info? fld.type with
  | none=>rw [hi] at hsz;exact absurd rfl hsz
  | some inf =>
    rw [hi] at hsz;have hs : inf.size ≠ 0:=hsz;simp [Instr.fieldAt,run_underlying h1,hfld,Instr.sureAddr,fieldPlace,Go.sizeOf,typeInfo,hi,hs]
theorem vFld_sound (hte : TEok P te) {t : TypeId} {x : A} {f : Nat} (h : (vFld te t x f).obl) {u : Value} (hx : x.rep ok ρ w u) : (vFld te t x f).Is P (Instr.fieldAt t u f) ok ρ w:=by
  unfold vFld at h ⊢;split at h
  · rename_i i hi;have hok:=yO hte hi;have hk:=hok.kind;split at h
    · rename_i fs hfs;rw [hfs] at hk;split at h
      · obtain ⟨b,off,cs,rfl,hb,hlt,hc,hr⟩:=hx;split at h
        · rename_i β S y he;obtain ⟨o,ty,ds,h1,h2,h3⟩:=aL (off:=off) he (by simpa using hc) hr;refine .quiet (uB hk h1 _) ⟨b,off + o,ds,by rw [Go.WideShapes.add_plain],hb,hlt,h2,h3⟩ trivial
        · exact h.elim
      · obtain ⟨b,hρ,rfl⟩:=hx;split at h
        · rename_i o he;obtain ⟨ty,he⟩:=cJ he;exact .quiet (uB hk he _) ⟨b,hρ,by rw [Go.WideShapes.add_plain]⟩ trivial
        · exact h.elim
      · obtain ⟨b,m,cap,hρ,rfl⟩:=hx;split at h
        · rename_i o he;obtain ⟨ty,he⟩:=cJ he;exact .quiet (uB hk he _) ⟨b,m,cap,hρ,by rw [Go.WideShapes.add_plain]⟩ trivial
        · exact h.elim
      · obtain ⟨b,m,cap,hρ,rfl⟩:=hx;split at h
        · rename_i o he;obtain ⟨ty,he⟩:=cJ he;exact .quiet (uB hk he _) ⟨b,m,cap,hρ,by rw [Go.WideShapes.add_plain,Nat.add_assoc]⟩ trivial
        · exact h.elim
      · exact h.elim
    · exact h.elim
  · exact h.elim
def arrF (k : Nat) : Nat → TypeId → List (Nat × TypeId)
  | 0,_=>[]
  | n + 1,e=>(k,e) :: arrF (k + 1) n e
theorem arrF_at {o ty : Nat} : ∀ {n k i : Nat} {e : TypeId},(arrF k n e)[i]? = some (o,ty) → o = k + i ∧ ty = e ∧ i < n
  | 0,_,_,_,h=>by simp [arrF] at h
  | n + 1,k,0,e,h=>by
    simp only [arrF,List.getElem?_cons_zero,Option.some.injEq,Prod.mk.injEq] at h;exact ⟨by omega,h.2.symm,by omega⟩
  | n + 1,k,i + 1,e,h=>by
    simp only [arrF,List.getElem?_cons_succ] at h;obtain ⟨h1,h2,h3⟩:=arrF_at h;exact ⟨by omega,h2,by omega⟩
def vIdxA (te : List (TypeId × TyI)) (ob : List (Nat × Ob)) (t : TypeId) (x i : A) : Vr :=
  match find te t with
  | some ti=>match ti.k with
    | .slice e=>match find te e with
      | some ei=>match i with
        | .one (.lit (.int _ n))=>match x with
          | .one (.slk k R xs)=>match Nat.beq R.n ei.size with
            | true=>.need (0 ≤ n ∧ n < (xs.length : Int)) (.one (.adk k R (xs.getD n.toNat R.dflt)))
            | false=>.bad
          | .one (.full R xs)=>match Nat.beq R.n ei.size with
            | true=>.need (0 ≤ n ∧ n < (xs.length : Int)) (.one (.addr R (xs.getD n.toNat R.dflt)))
            | false=>.bad
          | .one (.vec id)=>match getO ob id with
            | some (.vec _ R xs)=>match Nat.beq R.n ei.size with
              | true=>.need (0 ≤ n ∧ n < (xs.length : Int)) (.one (.vel id n.toNat R.n))
              | false=>.bad
            | _=>.bad
          | _=>.bad
        | _=>.bad
      | none=>.bad
    | .arr len e=>match find te e with
      | some ei=>match Nat.beq ei.size 1 with
        | true=>match i with
          | .one (.lit (.int _ n))=>match x with
            | .one (.adk k R x)=>match fldR (arrF 0 len e) 0 R x n.toNat with
              | some ⟨_,S,y⟩=>.need (0 ≤ n) (.one (.adk k S y))
              | none=>.bad
            | _=>.bad
          | _=>.bad
        | false=>.bad
      | none=>.bad
    | _=>.bad
  | none=>.bad
theorem iU {t e : TypeId} {ei : TyI} {len : Nat} (ht : P.underlying t = some (.array len e)) (he : TyOk P e ei) (h1 : ei.size = 1) (a : Addr) (k : IntKind) (n : Int) (h : 0 ≤ n ∧ n < (len : Int)) :
    (Instr.indexAt t (.pointer (some a)) (.int k n)).run P w = .ok (.pointer (some (a.add n.toNat))) w:=by
  simp [Instr.indexAt,asIntOf,run_underlying ht,h,he.sizeOf,Instr.sureAddr,h1]
theorem bF {t e : TypeId} {ei : TyI} (ht : P.underlying t = some (.slice e)) (he : TyOk P e ei) (a : Addr) (len cap : Nat) (k : IntKind) (n : Int) (h : 0 ≤ n ∧ n < (len : Int)) :
    (Instr.indexAt t (.slice (some a) len cap) (.int k n)).run P w = .ok (.pointer (some (a.add (n.toNat * ei.size)))) w:=by
  simp [Instr.indexAt,asIntOf,run_underlying ht,h,he.sizeOf]
theorem vIdxA_sound (hte : TEok P te) {ob : List (Nat × Ob)} {t : TypeId} {x i : A} (h : (vIdxA te ob t x i).obl) {u v : Value} (hx : x.rep ok ρ w u) (hi : i.rep ok ρ w v) (hob : zB ok ρ w ob) : (vIdxA te ob t x i).Is P (Instr.indexAt t u v) ok ρ w:=by
  unfold vIdxA at h ⊢;split at h
  · rename_i ti hti;have hk:=(yO hte hti).kind;split at h
    · rename_i e hek;rw [hek] at hk;split at h
      · rename_i ei hei;have hei:=yO hte hei;split at h
        · rename_i k n;rw [show v = _ from hi];have slc : ∀ {q : Nat} {α : Type} {R : Rd α} {xs : List α},R.n = ei.size → (0 ≤ n ∧ n < (xs.length : Int)) → SlOk R.n (fun cs x=>R.is ok w cs x) (okU ok w q) w u xs →
              (Vr.need (0 ≤ n ∧ n < (xs.length : Int)) (.one (.adk q R (xs.getD n.toNat R.dflt)))).Is P (Instr.indexAt t u (.int k n)) ok ρ w:=by
            intro q α R xs hn hb hs;obtain ⟨a,cap,rfl,h1,h2,hc⟩:=hs;have hlt : n.toNat < xs.length:=by omega
            obtain ⟨b,off,cs,rfl,hb',hltb,hcell,hr⟩:=hc n.toNat hlt;refine .quiet (bF hk hei _ _ _ _ _ hb) ?_ trivial;have hgd : xs.getD n.toNat R.dflt = xs[n.toNat]:=by simp [List.getD,hlt]
            show (C.adk q R (xs.getD n.toNat R.dflt)).rep ok ρ w _;rw [hgd];exact ⟨b,off + n.toNat * R.n,cs,by rw [Go.WideShapes.add_plain,hn],hb',hltb,hcell,hr⟩
          split at h
          · split at h
            · rename_i hn;exact slc (Nat.eq_of_beq_eq_true hn) h hx
            · exact h.elim
          · split at h
            · rename_i hn;exact slc (Nat.eq_of_beq_eq_true hn) h hx.1
            · exact h.elim
          · rename_i id;split at h
            · rename_i E R xs hg;obtain ⟨vv,hvv,hbx⟩ : ∃ v,ρ id = some v ∧ uF ok w v E R xs:=uR hob hg;have hxv : ρ id = some u:=hx.1;rw [hvv] at hxv;obtain rfl:=Option.some.inj hxv;split at h
              · rename_i hn;have hn:=Nat.eq_of_beq_eq_true hn;obtain ⟨css,hl,hr,hown⟩:=hbx;have hb : 0 ≤ n ∧ n < (xs.length : Int):=h;rcases hown.2 with ⟨h0,h1⟩|⟨g,c',cur,hsl,_⟩
                · omega
                · subst hsl;refine .quiet (bF hk hei _ _ _ _ _ hb) ⟨g,xs.length,c',hvv,?_⟩ trivial;rw [Go.WideShapes.add_plain,Nat.zero_add,hn]
              · exact h.elim
            · exact h.elim
          · exact h.elim
        · exact h.elim
      · exact h.elim
    · rename_i len e hek;rw [hek] at hk;split at h
      · rename_i ei hei;have hei:=yO hte hei;split at h
        · rename_i h1s;have h1s:=Nat.eq_of_beq_eq_true h1s;split at h
          · rename_i kk n;rw [show v = _ from hi];split at h
            · rename_i q α R x;split at h
              · rename_i β S y he;obtain ⟨b,off,cs,rfl,hb,hlt,hc,hr⟩:=hx;obtain ⟨o,ty,ds,g1,g2,g3⟩:=aL (off:=off) he (by simpa using hc) hr;obtain ⟨g4,_,g5⟩:=arrF_at g1;have h0 : 0 ≤ n:=h;refine .quiet (iU hk hei h1s _ _ _ ⟨h0,by omega⟩) ⟨b,off + o,ds,by rw [Go.WideShapes.add_plain,g4,Nat.zero_add],hb,hlt,g2,g3⟩ trivial
              · exact h.elim
            · exact h.elim
          · exact h.elim
        · exact h.elim
      · exact h.elim
    · exact h.elim
  · exact h.elim
def vLen (te : List (TypeId × TyI)) (ob : List (Nat × Ob)) (t : TypeId) (x : A) : Vr :=
  match find te t with
  | some ti=>match ti.k,x with
    | .str,.one (.lit (.string s))=>.ok (ii .i64 (s.size : Int))
    | .slice _,.one (.slk _ _ xs)=>.know (xs.length ≤ 9223372036854775807) (ii .i64 (xs.length : Int))
    | .slice _,.one (.full _ xs)=>.know (xs.length ≤ 9223372036854775807) (ii .i64 (xs.length : Int))
    | .slice _,.one (.lit (.slice _ n _))=>.ok (ii .i64 (n : Int))
    | .slice _,.one (.vec id)=>match getO ob id with
      | some (.vec _ _ xs)=>.know (xs.length ≤ 9223372036854775807) (ii .i64 (xs.length : Int))
      | _=>.bad
    | _,_=>.bad
  | none=>.bad
theorem vLen_sound (hte : TEok P te) {ob : List (Nat × Ob)} {t ty : TypeId} {x : A} (h : (vLen te ob t x).obl) {u : Value} (hx : x.rep ok ρ w u) (hob : zB ok ρ w ob) : (vLen te ob t x).Is P (Builtin.len_ #[t] ty #[u]) ok ρ w:=by
  unfold vLen at h ⊢;split at h
  · rename_i ti hti;have hk:=(yO hte hti).kind;split at h
    · rename_i e;rw [e] at hk;rw [show u = _ from hx];exact .quiet (by simp [Builtin.len_,run_underlying (show P.underlying t = _ from hk)];rfl) rfl trivial
    · rename_i e;rw [e] at hk;obtain ⟨a,cap,rfl,h1,h2,_⟩:=hx;exact .quiet (by simp [Builtin.len_,run_underlying (show P.underlying t = _ from hk)];rfl) rfl (Nat.le_trans h1 h2)
    · rename_i e;rw [e] at hk;obtain ⟨⟨a,cap,rfl,h1,h2,_⟩,_⟩:=hx;exact .quiet (by simp [Builtin.len_,run_underlying (show P.underlying t = _ from hk)];rfl) rfl (Nat.le_trans h1 h2)
    · rename_i e;rw [e] at hk;rw [show u = _ from hx];exact .quiet (by simp [Builtin.len_,run_underlying (show P.underlying t = _ from hk)];rfl) rfl trivial
    · rename_i id e;rw [e] at hk;split at h
      · rename_i E R xs hg;obtain ⟨vv,hvv,hbx⟩ : ∃ v,ρ id = some v ∧ uF ok w v E R xs:=uR hob hg;have hxv : ρ id = some u:=hx.1;rw [hvv] at hxv;obtain rfl:=Option.some.inj hxv;obtain ⟨css,hl,hr,hown⟩:=hbx;rcases hown.2 with ⟨h0,h1⟩|⟨g,c',cur,hsl,_,_,h3,h4,_⟩
        · rw [h0];exact .quiet (by simp [Builtin.len_,run_underlying (show P.underlying t = _ from hk)];rfl) (by show Value.int .i64 _ = .int .i64 _;rw [h1];rfl) (by show xs.length ≤ _;rw [h1];exact Nat.zero_le _)
        · rw [hsl];exact .quiet (by simp [Builtin.len_,run_underlying (show P.underlying t = _ from hk)];rfl) rfl (Nat.le_trans h3 h4)
      · exact h.elim
    · exact h.elim
  · exact h.elim
def vIdx (te : List (TypeId × TyI)) (t : TypeId) (x i : A) : Vr :=
  match find te t with
  | some ti=>match ti.k,x,i with
    | .str,.one (.lit (.string s)),.one (.lit (.int _ n))=>.need (0 ≤ n ∧ n < (s.size : Int)) (ii .u8 (((s.data.toList.getD n.toNat 0).toNat : Nat) : Int))
    | _,_,_=>.bad
  | none=>.bad
theorem vIdx_sound (hte : TEok P te) {t : TypeId} {x i : A} (h : (vIdx te t x i).obl) {u v : Value} (hx : x.rep ok ρ w u) (hi : i.rep ok ρ w v) : (vIdx te t x i).Is P (Instr.index t u v) ok ρ w:=by
  unfold vIdx at h ⊢;split at h
  · rename_i ti hti;have hk:=(yO hte hti).kind;split at h
    · rename_i s k n e;rw [e] at hk;rw [show u = _ from hx,show v = _ from hi];have hb : 0 ≤ n ∧ n < (s.size : Int):=h;have hlt : n.toNat < s.size:=by omega
      refine .quiet (u:=.int .u8 (((s.data.toList.getD n.toNat 0).toNat : Nat) : Int)) ?_ rfl trivial;rw [run_index_string w t s k n hk,dif_pos hb];have : s.data.toList.getD n.toNat 0 = s[n.toNat]:=by
        have hl : n.toNat < s.data.toList.length:=by simpa using hlt
        rw [List.getD,List.getElem?_eq_getElem hl];rfl
      rw [this]
    · exact h.elim
  · exact h.elim
def bnd (x : Option A) (d : Int) : Option Int :=
  match x with
  | none=>some d
  | some (.one (.lit (.int _ n)))=>some n
  | _=>none
def vSlice (te : List (TypeId × TyI)) (t : TypeId) (x : A) (lo hi : Option A) : Vr :=
  match find te t with
  | some ti=>match ti.k,x with
    | .str,.one (.lit (.string s))=>match bnd lo 0,bnd hi s.size with
      | some l,some h=>.need (0 ≤ l ∧ l ≤ h ∧ h ≤ (s.size : Int)) (is (s.extract l.toNat h.toNat))
      | _,_=>.bad
    | .slice e,.one (.slk k R xs)=>match find te e with
      | some ei=>match Nat.beq R.n ei.size with
        | true=>match lo,hi with
          | some (.one (.lit (.int _ l))),none=>.need (0 ≤ l ∧ l ≤ (xs.length : Int)) (.one (.slk k R (xs.drop l.toNat)))
          | none,some (.one (.lit (.int _ h)))=>.need (0 ≤ h ∧ h ≤ (xs.length : Int)) (.one (.slk k R (xs.take h.toNat)))
          | some (.one (.lit (.int _ l))),some (.one (.lit (.int _ h)))=>.need (0 ≤ l ∧ l ≤ h ∧ h ≤ (xs.length : Int)) (.one (.slk k R ((xs.take h.toNat).drop l.toNat)))
          | none,none=>.ok (.one (.slk k R xs))
          | _,_=>.bad
        | false=>.bad
      | none=>.bad
    | _,_=>.bad
  | none=>.bad
def nthFT : List (Nat × TypeId) → Nat → Option (Nat × TypeId)
  | [],_=>none
  | p :: _,0=>some p
  | _ :: r,n + 1=>nthFT r n
theorem nthFT_eq : ∀ {fs : List (Nat × TypeId)} {f : Nat} {p : Nat × TypeId},nthFT fs f = some p → fs[f]? = some p
  | [],_,_,h=>by cases h
  | p :: _,0,_,h=>by cases h;rfl
  | _ :: r,n + 1,_,h=>by simpa using nthFT_eq (fs:=r) h
theorem nthC_rep {ok : Oks} {ρ : Nat → Option Value} {w : World} : ∀ {cs : List C} {vs : List Value} {o : Nat},repL ok ρ w cs vs → o < cs.length → ∃ v,vs[o]? = some v ∧ (nthC cs o).rep ok ρ w v
  | [],_,_,_,h=>absurd h (Nat.not_lt_zero _)
  | c :: cs,_,0,h,_=>by
    obtain ⟨v,r,rfl,h1,_⟩:=h;exact ⟨v,rfl,h1⟩
  | c :: cs,_,o + 1,h,hl=>by
    obtain ⟨v,r,rfl,_,h2⟩:=h;obtain ⟨u,h3,h4⟩:=nthC_rep (cs:=cs) h2 (Nat.lt_of_succ_lt_succ hl);exact ⟨u,by simpa using h3,h4⟩
def vField (te : List (TypeId × TyI)) (t : TypeId) (x : A) (f : Nat) : Vr :=
  match find te t with
  | some i=>match i.k,x with
    | .struct fs,.agg cs=>match nthFT fs f with
      | some p=>match find te p.2 with
        | some j=>match j.k.agg,Nat.ble (p.1 + 1) (lenC cs) with
          | false,true=>.ok (.one (nthC cs p.1))
          | _,_=>.bad
        | none=>.bad
      | none=>.bad
    | _,_=>.bad
  | none=>.bad
theorem vField_sound {P : Program} {te : List (TypeId × TyI)} {ok : Oks} {ρ : Nat → Option Value} {w : World} (hte : TEok P te) {t : TypeId} {x : A} {f : Nat} (h : (vField te t x f).obl) {u : Value} (hx : x.rep ok ρ w u) : (vField te t x f).Is P (Instr.field t u f) ok ρ w:=by
  unfold vField at h ⊢;split at h
  · rename_i i hi;have hk:=(yO hte hi).kind;split at h
    · rename_i fs cs hfs;rw [hfs] at hk;obtain ⟨h1,h2,_⟩:=hk;split at h
      · rename_i p hp;split at h
        · rename_i j hj;have hj:=yO hte hj;split at h
          · rename_i ha hl;have hl:=Nat.le_of_ble_eq_true hl;rw [jP] at hl;obtain ⟨vs,rfl,hr⟩:=hx;obtain ⟨v,h3,h4⟩:=nthC_rep (o:=p.1) hr hl;have h5:=nthFT_eq hp;rw [← h2,List.getElem?_map] at h5;obtain ⟨fld,h6,h7⟩:=Option.map_eq_some_iff.1 h5;have h8 : (P.fieldsOf t)[f]? = some fld:=by rw [← h6,Array.getElem?_toList]
            refine .quiet (u:=v) ?_ h4 trivial;have e1 : fld.offset = p.1:=by rw [← h7]
            have e2 : fld.type = p.2:=by rw [← h7]
            simp only [Instr.field,Sem.run_bind,run_underlying h1,Result.andThen_ok,h8,asAgg,Sem.run_pure,e1,e2];exact aC hj ha w vs p.1 v h3
          · exact h.elim
        · exact h.elim
      · exact h.elim
    · exact h.elim
  · exact h.elim
def vCut3 (te : List (TypeId × TyI)) (t : TypeId) (x h m : A) : Vr :=
  match find te t with
  | some ti=>match ti.k,x,h,m with
    | .slice e,.one (.slk 0 R xs),.one (.lit (.int _ i)),.one (.lit (.int _ j))=>match find te e with
      | some ei=>match Nat.beq R.n ei.size with
        | true=>.need (0 ≤ i ∧ i = j ∧ j ≤ (xs.length : Int)) (.one (.full R (xs.take i.toNat)))
        | false=>.bad
      | none=>.bad
    | _,_,_,_=>.bad
  | none=>.bad
end
section
variable {P : Program} {te : List (TypeId × TyI)} {ok : Oks} {ρ : Nat → Option Value} {w : World}
def repO (ok : Oks) (ρ : Nat → Option Value) (w : World) : Option A → Option Value → Prop
  | none,none=>True
  | some a,some v=>a.rep ok ρ w v
  | _,_=>False
theorem run_slice_str {t : TypeId} (h : P.underlying t = some .string) (s : ByteArray) {lo hi : Option A} {l r : Option Value} (hl : repO ok ρ w lo l) (hr : repO ok ρ w hi r) {i j : Int} (h1 : bnd lo 0 = some i) (h2 : bnd hi s.size = some j)
    (hb : 0 ≤ i ∧ i ≤ j ∧ j ≤ (s.size : Int)) : (Instr.slice t (.string s) l r none).run P w = .ok (.string (s.extract i.toNat j.toNat)) w:=by
  have lo' : (l = none ∧ i = 0) ∨ ∃ k,l = some (.int k i):=by
    unfold bnd at h1;split at h1
    · cases l with
      | none=>exact .inl ⟨rfl,by cases h1;rfl⟩
      | some v=>exact hl.elim
    · rename_i k n;cases l with
      | none=>exact hl.elim
      | some v =>
        cases h1;rw [show v = _ from hl];exact .inr ⟨k,rfl⟩
    · cases h1
  have hi' : (r = none ∧ j = s.size) ∨ ∃ k,r = some (.int k j):=by
    unfold bnd at h2;split at h2
    · cases r with
      | none=>exact .inl ⟨rfl,by cases h2;rfl⟩
      | some v=>exact hr.elim
    · rename_i k n;cases r with
      | none=>exact hr.elim
      | some v =>
        cases h2;rw [show v = _ from hr];exact .inr ⟨k,rfl⟩
    · cases h2
  have hb1 : 0 ≤ j ∧ j ≤ (s.size : Int):=⟨by omega,hb.2.2⟩;have hb2 : 0 ≤ i ∧ i ≤ ((j.toNat : Nat) : Int):=⟨hb.1,by omega⟩;rcases lo' with ⟨rfl,rfl⟩|⟨k,rfl⟩ <;> rcases hi' with ⟨rfl,rfl⟩|⟨k',rfl⟩
  · simp [Instr.slice,Instr.sliceBounds,run_underlying h]
  · simp [Instr.slice,Instr.sliceBounds,Instr.sliceBound,asIntOf,run_underlying h,hb1]
  · have hb3 : 0 ≤ i ∧ i ≤ (s.size : Int):=⟨hb.1,by omega⟩;simp [Instr.slice,Instr.sliceBounds,Instr.sliceBound,asIntOf,run_underlying h,hb3]
  · simp [Instr.slice,Instr.sliceBounds,Instr.sliceBound,asIntOf,run_underlying h,hb1,hb2];intro hc;omega
theorem slOk_part {ok : Nat → Prop} {α : Type} {n : Nat} {Pr : List Value → α → Prop} {a : Option Addr} {cap : Nat} {xs : List α} (h : SlOk n Pr ok w (.slice a xs.length cap) xs) (_hn : 0 < n) (l r m : Nat) (h1 : l ≤ r) (h2 : r ≤ xs.length) (hm : r ≤ m) (hmc : m ≤ cap) :
    SlOk n Pr ok w (.slice (if m = l then a else a.map (·.add (l * n))) (r - l) (m - l)) ((xs.take r).drop l):=by
  obtain ⟨a',cap',hv,h3,h4,hc⟩:=h
  injection hv with e1 e2 e3
  subst e1 e3;have hlen : ((xs.take r).drop l).length = r - l:=by simp;omega
  refine ⟨_,m - l,by rw [hlen],by rw [hlen];omega,by omega,fun i hi=>?_⟩;rw [hlen] at hi;obtain ⟨b,off,cs,ha,hb,hlt,hcell,hr⟩:=hc (l + i) (by omega);subst ha;refine ⟨b,off + l * n,cs,?_,hb,hlt,?_,?_⟩
  · rw [if_neg (by omega)];simp [Go.WideShapes.add_plain]
  · have : off + l * n + i * n = off + (l + i) * n:=by rw [Nat.add_mul];omega
    rw [this];exact hcell
  · have : ((xs.take r).drop l)[i] = xs[l + i]:=by simp
    rw [this];exact hr
theorem vSlice_sound (hte : TEok P te) {t : TypeId} {x : A} {lo hi : Option A} (h : (vSlice te t x lo hi).obl) {u : Value} {l r : Option Value} (hx : x.rep ok ρ w u) (hl : repO ok ρ w lo l) (hr : repO ok ρ w hi r) :
    (vSlice te t x lo hi).Is P (Instr.sliceAt t u l r none) ok ρ w:=by
  unfold vSlice at h ⊢;split at h
  · rename_i ti hti;have hk:=(yO hte hti).kind;split at h
    · rename_i s e;rw [e] at hk;have hu : P.underlying t = _:=hk;split at h
      · rename_i i j h1 h2;rw [show u = _ from hx];refine .quiet (u:=.string (s.extract i.toNat j.toNat)) ?_ rfl trivial;simp only [Instr.sliceAt,Sem.run_bind,run_underlying hu,Result.andThen_ok];exact run_slice_str hu s hl hr h1 h2 h
      · exact h.elim
    · rename_i el q α R xs e;rw [e] at hk;have hu : P.underlying t = some (.slice el):=hk;split at h
      · rename_i ei hei;have hei:=yO hte hei;split at h
        · rename_i hn;have hn:=Nat.eq_of_beq_eq_true hn;have hs : SlOk R.n (fun cs x=>R.is ok w cs x) (okU ok w q) w u xs:=hx;obtain ⟨a,cap,rfl,h1,h2,_⟩:=id hs;have key : ∀ (l' r' : Option Value) (i j : Nat),i ≤ j → j ≤ xs.length → (Instr.sliceBounds true xs.length cap l' r' none).run P w = .ok (i,j,cap) w →
              ∃ v,(Instr.sliceAt t (.slice a xs.length cap) l' r' none).run P w = .ok v w ∧ (C.slk q R ((xs.take j).drop i)).rep ok ρ w v:=by
            intro l' r' i j hij hj hb;refine ⟨_,?_,slOk_part hs R.n_pos i j cap hij hj (Nat.le_trans hj h1) (Nat.le_refl _)⟩;simp only [Instr.sliceAt,Instr.slice,Sem.run_bind,run_underlying hu,Result.andThen_ok,hb,hei.sizeOf,Sem.run_pure,hn]
          split at h
          · rename_i k i;cases l with
            | none=>exact hl.elim
            | some lv =>
              cases r with
              | some _=>exact hr.elim
              | none =>
                rw [show lv = _ from hl];have hb : 0 ≤ i ∧ i ≤ (xs.length : Int):=h;obtain ⟨v,h3,h4⟩:=key (some (.int k i)) none i.toNat xs.length (by omega) (Nat.le_refl _) (by simp [Instr.sliceBounds,Instr.sliceBound,asIntOf,hb]);rw [List.take_length] at h4;exact .quiet h3 h4 trivial
          · rename_i k j;cases l with
            | some _=>exact hl.elim
            | none =>
              cases r with
              | none=>exact hr.elim
              | some rv =>
                rw [show rv = _ from hr];have hb : 0 ≤ j ∧ j ≤ (xs.length : Int):=h;have hb' : 0 ≤ j ∧ j ≤ (cap : Int):=by omega
                obtain ⟨v,h3,h4⟩:=key none (some (.int k j)) 0 j.toNat (by omega) (by omega) (by simp [Instr.sliceBounds,Instr.sliceBound,asIntOf,hb']);rw [List.drop_zero] at h4;exact .quiet h3 h4 trivial
          · rename_i k i k' j;cases l with
            | none=>exact hl.elim
            | some lv =>
              cases r with
              | none=>exact hr.elim
              | some rv =>
                rw [show lv = _ from hl,show rv = _ from hr];have hb : 0 ≤ i ∧ i ≤ j ∧ j ≤ (xs.length : Int):=h;have hb' : 0 ≤ j ∧ j ≤ (cap : Int):=by omega
                have hb2 : 0 ≤ i ∧ i ≤ ((j.toNat : Nat) : Int):=by omega
                obtain ⟨v,h3,h4⟩:=key (some (.int k i)) (some (.int k' j)) i.toNat j.toNat (by omega) (by omega) (by
                  simp only [Instr.sliceBounds,Instr.sliceBound,asIntOf,Sem.run_bind,Sem.run_pure,Result.andThen_ok,if_pos hb',if_pos hb2,if_true])
                exact .quiet h3 h4 trivial
          · cases l with
            | some _=>exact hl.elim
            | none =>
              cases r with
              | some _=>exact hr.elim
              | none =>
                obtain ⟨v,h3,h4⟩:=key none none 0 xs.length (by omega) (Nat.le_refl _) (by simp [Instr.sliceBounds]);rw [List.take_length,List.drop_zero] at h4;exact .quiet h3 h4 trivial
          · exact h.elim
        · exact h.elim
      · exact h.elim
    · exact h.elim
  · exact h.elim
theorem vCut3_sound (hte : TEok P te) {t : TypeId} {x h0 m0 : A} (h : (vCut3 te t x h0 m0).obl) {u hv mv : Value} (hx : x.rep ok ρ w u) (hh : h0.rep ok ρ w hv) (hm : m0.rep ok ρ w mv) :
    (vCut3 te t x h0 m0).Is P (Instr.sliceAt t u none (some hv) (some mv)) ok ρ w:=by
  unfold vCut3 at h ⊢;split at h
  · rename_i ti hti;have hk:=(yO hte hti).kind;split at h
    · rename_i el α R xs k i k' j e;rw [e] at hk;have hu : P.underlying t = some (.slice el):=hk;split at h
      · rename_i ei hei;have hei:=yO hte hei;split at h
        · rename_i hn;have hn:=Nat.eq_of_beq_eq_true hn;have hs : SlOk R.n (fun cs x=>R.is ok w cs x) (okU ok w 0) w u xs:=hx;obtain ⟨a,cap,rfl,h1,h2,_⟩:=id hs;rw [show hv = _ from hh,show mv = _ from hm];have hb : 0 ≤ i ∧ i = j ∧ j ≤ (xs.length : Int):=h;obtain ⟨hb1,rfl,hb2⟩:=hb;have hp:=slOk_part hs R.n_pos 0 i.toNat i.toNat (Nat.zero_le _) (by omega) (Nat.le_refl _) (by omega);rw [List.drop_zero] at hp;have hlen : (xs.take i.toNat).length = i.toNat:=by rw [List.length_take];omega
          have hbd : (Instr.sliceBounds true xs.length cap none (some (.int k i)) (some (.int k' i))).run P w = .ok (0,i.toNat,i.toNat) w:=by
            have c1 : 0 ≤ i ∧ i ≤ (cap : Int):=by omega
            have c2 : 0 ≤ i ∧ i ≤ ((i.toNat : Nat) : Int):=by omega
            simp only [Instr.sliceBounds,Instr.sliceBound,asIntOf,Sem.run_bind,Sem.run_pure,Result.andThen_ok,if_pos c1,if_pos c2,if_true]
          refine .quiet (u:=.slice (if i.toNat = 0 then a else a.map (·.add (0 * R.n))) (i.toNat - 0) (i.toNat - 0)) ?_ ⟨hp,?_⟩ trivial
          · simp only [Instr.sliceAt,Instr.slice,Sem.run_bind,run_underlying hu,Result.andThen_ok,hbd,hei.sizeOf,Sem.run_pure,hn]
          · rw [hlen];exact ⟨_,rfl⟩
        · exact h.elim
      · exact h.elim
    · exact h.elim
  · exact h.elim
def nthT : List (Bool × List C) → Nat → Option (Bool × List C)
  | [],_=>none
  | p :: _,0=>some p
  | _ :: r,n + 1=>nthT r n
theorem nthT_rep : ∀ {cs : List (Bool × List C)} {vs : List Value} {j : Nat} {p : Bool × List C},nthT cs j = some p → repT ok ρ w cs vs → ∃ v,vs[j]? = some v ∧ repV ok ρ w p.1 p.2 v
  | [],_,_,_,h,_=>by cases h
  | p :: _,_,0,_,h,hr=>by
    cases h;obtain ⟨v,r,e,h1,_⟩:=hr;exact ⟨v,by rw [e];rfl,h1⟩
  | _ :: _,_,n + 1,_,h,hr=>by
    obtain ⟨v,r,e,_,h2⟩:=hr;obtain ⟨u,h3,h4⟩:=nthT_rep (j:=n) h h2;exact ⟨u,by rw [e];simpa using h3,h4⟩
def vExt (x : A) (j : Nat) : Vr :=
  match x with
  | .tup cs=>match nthT cs j with
    | some (true,cs)=>.ok (.agg cs)
    | some (false,[c])=>okC c
    | _=>.bad
  | _=>.bad
theorem vExt_sound {x : A} {j : Nat} (h : (vExt x j).obl) {u : Value} (hx : x.rep ok ρ w u) : (vExt x j).Is P (Instr.extract u j) ok ρ w:=by
  unfold vExt at h ⊢;split at h
  · obtain ⟨vs,rfl,hvs⟩:=hx;split at h
    · rename_i e;obtain ⟨v,h1,h2⟩:=nthT_rep e hvs;exact .quiet (by simp [Instr.extract,h1]) h2 trivial
    · rename_i c e;obtain ⟨v,h1,h2⟩:=nthT_rep e hvs;obtain ⟨ho,hf⟩:=cI h;obtain ⟨z,r,e1,h3,_⟩:=h2;cases e1;exact .quiet (u:=v) (by simp [Instr.extract,h1]) (by rw [ho];exact h3) hf
    · exact h.elim
  · exact h.elim
def vNot (x : A) : Vr :=
  match x with
  | .one (.lit (.bool b))=>.ok (ib (!b))
  | _=>.bad
def vUn (op : UnOp) (x : A) : Vr :=
  match op with
  | .not=>vNot x
  | .neg=>match x with
    | .one (.lit (.int k n))=>vInt .sub k 0 n
    | _=>.bad
  | _=>.bad
theorem vUn_sound {op : UnOp} {x : A} (h : (vUn op x).obl) {u : Value} (hx : x.rep ok ρ w u) : (vUn op x).Is P (Op.unary op u) ok ρ w:=by
  unfold vUn at h ⊢;split at h
  · unfold vNot at h ⊢;split at h
    · rw [show u = _ from hx];exact .quiet rfl rfl trivial
    · exact h.elim
  · split at h
    · rename_i k n;rw [show u = _ from hx];obtain ⟨z,h1,h2,h3⟩:=vInt_sound (P:=P) (t:=0) h;refine .quiet (u:=z) ?_ (by rw [h1];rfl) h2;have:=h3 w;simp [binOp] at this;exact this
    · exact h.elim
  · exact h.elim
def A.bare : A → A
  | .cond _ a=>a.bare
  | a=>a
def A.were : A → Prop
  | .cond b a=>b = true ∧ a.were
  | _=>True
theorem A.bare_rep : ∀ {a : A} {v : Value},a.were → a.rep ok ρ w v → a.bare.rep ok ρ w v
  | .one _,_,_,h=>h
  | .agg _,_,_,h=>h
  | .tup _,_,_,h=>h
  | .cond _ a,_,hw,h=>A.bare_rep (a:=a) hw.2 (h.1 hw.1)
def vPick (c a b : A) : Vr :=
  match c with
  | .one (.lit (.bool p))=>match b with
    | .one (.lit (.bool false))=>match a with
      | .cond q (.one (.lit (.bool y)))=>.need (p = true → q = true) (ib (p && y))
      | .one (.lit (.bool y))=>.ok (ib (p && y))
      | _=>.bad
    | b=>match a with
      | .one (.lit (.bool true))=>match b with
        | .cond q (.one (.lit (.bool y)))=>.need (p = false → q = true) (ib (p || y))
        | .one (.lit (.bool y))=>.ok (ib (p || y))
        | _=>.bad
      | _=>.bad
  | _=>.bad
theorem bA {c a b : A} (h : (vPick c a b).obl) {u x y : Value} (hc : c.rep ok ρ w u) (ha : a.rep ok ρ w x) (hb : b.rep ok ρ w y) :
    (vPick c a b).Is P (do if ← asBool u then pure x else pure y) ok ρ w:=by
  unfold vPick at h ⊢;split at h
  · rename_i p;rw [show u = _ from hc];have hrun : (do if ← asBool (.bool p) then pure x else pure y : Sem Value).run P w = .ok (if p = true then x else y) w:=by
      cases p <;> simp [asBool]
    split at h
    · rw [show y = _ from hb] at hrun ⊢;split at h
      · rename_i q z;refine .quiet hrun ?_ trivial;cases p
        · rfl
        · have : x = .bool z:=ha.1 (h rfl);rw [this];rfl
      · refine .quiet hrun ?_ trivial;rw [show x = _ from ha];cases p <;> rfl
      · exact h.elim
    · split at h
      · rw [show x = _ from ha] at hrun ⊢;split at h
        · rename_i q z _;refine .quiet hrun ?_ trivial;cases p
          · have : y = .bool z:=hb.1 (h rfl);rw [this];rfl
          · rfl
        · refine .quiet hrun ?_ trivial;rw [show y = _ from hb];cases p <;> rfl
        · exact h.elim
      · exact h.elim
  · exact h.elim
def vNil (x : A) : Vr :=
  match x with
  | .one (.adk k R x)=>.ok (.one (.adk k R x))
  | .one (.own i o)=>.ok (.one (.own i o))
  | .one (.vel i k n)=>.ok (.one (.vel i k n))
  | .one (.vof i k n o)=>.ok (.one (.vof i k n o))
  | .one (.ifc t c)=>.ok (.one (.ifc t c))
  | .one (.clo f c)=>.ok (.one (.clo f c))
  | .one (.clo2 f c d)=>.ok (.one (.clo2 f c d))
  | .one (.clo3 f c d e)=>.ok (.one (.clo3 f c d e))
  | .one (.ref c)=>.ok (.one (.ref c))
  | .one (.lit (.iface t v))=>.ok (.one (.lit (.iface t v)))
  | .one (.lit (.func (.func f) a b))=>.ok (.one (.lit (.func (.func f) a b)))
  | _=>.bad
def vMin (x y : A) : Vr :=
  match x,y with
  | .one (.lit (.int k a)),.one (.lit (.int _ b))=>.ok (ii k (if b < a then b else a))
  | _,_=>.bad
def vMax (x y : A) : Vr :=
  match x,y with
  | .one (.lit (.int k a)),.one (.lit (.int _ b))=>.ok (ii k (if a < b then b else a))
  | _,_=>.bad
theorem vMin_sound {ts : Array TypeId} {ty : TypeId} {x y : A} (h : (vMin x y).obl) {u v : Value} (hx : x.rep ok ρ w u) (hy : y.rep ok ρ w v) : (vMin x y).Is P (Builtin.min_ ts ty #[u,v]) ok ρ w:=by
  unfold vMin at h ⊢;split at h
  · rw [show u = _ from hx,show v = _ from hy];exact .quiet (by simp [Builtin.min_,Builtin.min2]) rfl trivial
  · exact h.elim
theorem vMax_sound {ts : Array TypeId} {ty : TypeId} {x y : A} (h : (vMax x y).obl) {u v : Value} (hx : x.rep ok ρ w u) (hy : y.rep ok ρ w v) : (vMax x y).Is P (Builtin.max_ ts ty #[u,v]) ok ρ w:=by
  unfold vMax at h ⊢;split at h
  · rw [show u = _ from hx,show v = _ from hy];exact .quiet (by simp [Builtin.max_,Builtin.max2]) rfl trivial
  · exact h.elim
def TyI.conc (i : TyI) : Bool :=
  match i.k with
  | .iface=>false
  | _=>true
theorem TyOk.conc {t : TypeId} {i : TyI} (h : TyOk P t i) (hc : i.conc = true) : ∃ d,P.underlying t = some d ∧ ∀ ms,d ≠ .interface ms:=by
  have hk:=h.kind;unfold TyI.conc at hc;cases e : i.k <;> rw [e] at hk hc
  · exact ⟨_,hk,fun _=>by simp⟩
  · exact ⟨_,hk,fun _=>by simp⟩
  · exact ⟨_,hk,fun _=>by simp⟩
  · exact ⟨_,hk.1,fun _=>by simp⟩
  · exact ⟨_,hk,fun _=>by simp⟩
  · exact ⟨_,hk,fun _=>by simp⟩
  · exact ⟨_,hk,fun _=>by simp⟩
  · cases hc
  · obtain ⟨d,hd,hn⟩:=hk;exact ⟨d,hd,fun ms e=>by rw [e] at hn;exact hn⟩
  · exact ⟨_,hk,fun _=>by simp⟩
def vIfc (te : List (TypeId × TyI)) (t : TypeId) (x : A) : Vr :=
  match find te t with
  | some i=>match i.conc with
    | true=>match x with
      | .one (.lit v)=>.ok (.one (.lit (.iface t v)))
      | .one .any=>.bad
      | .one c=>.ok (.one (.ifc t c))
      | _=>.bad
    | false=>.bad
  | none=>.bad
theorem vIfc_sound (hte : TEok P te) {t : TypeId} {x : A} (h : (vIfc te t x).obl) {u : Value} (hx : x.rep ok ρ w u) : (vIfc te t x).Is P (Instr.makeInterface t u) ok ρ w:=by
  unfold vIfc at h ⊢;split at h
  · rename_i i hi;split at h
    · rename_i hc;obtain ⟨d,hd,hn⟩:=(yO hte hi).conc hc;have hrun : (Instr.makeInterface t u).run P w = .ok (.iface t u) w:=by
        unfold Instr.makeInterface;simp only [Sem.run_bind,run_underlying hd,Result.andThen_ok];cases d <;> first|rfl|exact absurd rfl (hn _)
      split at h
      · rw [show u = _ from hx] at hrun ⊢;exact .quiet hrun rfl trivial
      · exact h.elim
      · exact .quiet hrun ⟨u,rfl,hx⟩ trivial
      · exact h.elim
    · exact h.elim
  · exact h.elim
theorem uZ : ∀ (vs : List Value),repL ok ρ w (vs.map C.lit) vs
  | []=>rfl
  | v :: r=>⟨v,r,rfl,rfl,uZ r⟩
theorem TyOk.zeroOne {t : TypeId} {i : TyI} (h : TyOk P t i) (hk : i.k.agg = false) : i.zero = [i.zeroV]:=by
  have h1:=h.size1 hk;have h2:=h.zlen;rw [h1] at h2;obtain ⟨z,hz⟩:=List.length_eq_one_iff.1 h2;unfold TyI.zeroV;rw [hk,hz];rfl
def vAss (te : List (TypeId × TyI)) (x : A) (a : TypeId) : Vr :=
  match find te a with
  | some i=>match i.conc,i.k.agg with
    | true,false=>match x with
      | .one (.lit .nilIface)=>.ok (.tup [(false,i.zero.map C.lit),(false,[.lit (.bool false)])])
      | .one (.lit (.iface t v))=>match Nat.beq t a with
        | true=>.ok (.tup [(false,[.lit v]),(false,[.lit (.bool true)])])
        | false=>.ok (.tup [(false,i.zero.map C.lit),(false,[.lit (.bool false)])])
      | .one (.ifc t c)=>match Nat.beq t a with
        | true=>.ok (.tup [(false,[c]),(false,[.lit (.bool true)])])
        | false=>.ok (.tup [(false,i.zero.map C.lit),(false,[.lit (.bool false)])])
      | _=>.bad
    | _,_=>.bad
  | none=>.bad
theorem vAss_sound (hte : TEok P te) {xt a : TypeId} {x : A} (h : (vAss te x a).obl) {u : Value} (hx : x.rep ok ρ w u) : (vAss te x a).Is P (Instr.typeAssert u xt a true) ok ρ w:=by
  unfold vAss at h ⊢;split at h
  · rename_i i hi;have hok:=yO hte hi;split at h
    · rename_i hc hag;obtain ⟨d,hd,hn⟩:=hok.conc hc;have hz:=hok.zeroOne hag;have runs : ∀ t' v,(Instr.typeAssert (.iface t' v) xt a true).run P w = .ok (if t' = a then .tuple #[v,.bool true] else .tuple #[i.zeroV,.bool false]) w:=by
        intro t' v;unfold Instr.typeAssert;simp only [Sem.run_bind,run_underlying hd,Result.andThen_ok];cases d <;> first|exact absurd rfl (hn _)|(by_cases e : t' = a <;> simp [e,hok.zeroValue])
      have runn : (Instr.typeAssert .nilIface xt a true).run P w = .ok (.tuple #[i.zeroV,.bool false]) w:=by
        unfold Instr.typeAssert;simp only [Sem.run_bind,run_underlying hd,Result.andThen_ok];cases d <;> first|exact absurd rfl (hn _)|simp [hok.zeroValue]
      have zrep : (A.tup [(false,i.zero.map C.lit),(false,[.lit (.bool false)])]).rep ok ρ w (.tuple #[i.zeroV,.bool false]):=by
        refine ⟨[i.zeroV,.bool false],rfl,_,_,rfl,?_,_,_,rfl,⟨_,_,rfl,rfl,rfl⟩,rfl⟩;rw [hz];exact uZ [i.zeroV]
      split at h
      · rw [show u = _ from hx];exact .quiet runn zrep trivial
      · rename_i t v;rw [show u = _ from hx];have hr:=runs t v;split at h
        · rename_i e;rw [if_pos (Nat.eq_of_beq_eq_true e)] at hr;exact .quiet hr ⟨[v,.bool true],rfl,_,_,rfl,⟨_,_,rfl,rfl,rfl⟩,_,_,rfl,⟨_,_,rfl,rfl,rfl⟩,rfl⟩ trivial
        · rename_i e;rw [if_neg (fun e'=>by rw [e'] at e;simp at e)] at hr;exact .quiet hr zrep trivial
      · rename_i t c;obtain ⟨v,rfl,hv⟩:=hx;have hr:=runs t v;split at h
        · rename_i e;rw [if_pos (Nat.eq_of_beq_eq_true e)] at hr;exact .quiet hr ⟨[v,.bool true],rfl,_,_,rfl,⟨_,_,rfl,hv,rfl⟩,_,_,rfl,⟨_,_,rfl,rfl,rfl⟩,rfl⟩ trivial
        · rename_i e;rw [if_neg (fun e'=>by rw [e'] at e;simp at e)] at hr;exact .quiet hr zrep trivial
      · exact h.elim
    · exact h.elim
  · exact h.elim
def vCnv (te : List (TypeId × TyI)) (s t : TypeId) (x : A) : Vr :=
  match find te s,find te t with
  | some i,some j=>match i.k,j.k,x with
    | .int _,.int k,.one (.lit (.int _ n))=>.ok (ii k (k.wrap n))
    | .str,.str,.one (.lit (.string b))=>.ok (is b)
    | _,_,_=>.bad
  | _,_=>.bad
theorem vCnv_sound (hte : TEok P te) {s t : TypeId} {x : A} (h : (vCnv te s t x).obl) {u : Value} (hx : x.rep ok ρ w u) : (vCnv te s t x).Is P (convert s t u) ok ρ w:=by
  unfold vCnv at h ⊢;split at h
  · rename_i i j hi hj;have hki:=(yO hte hi).kind;have hkj:=(yO hte hj).kind;split at h
    · rename_i e1 e2;rw [e1] at hki;rw [e2] at hkj;rw [show u = _ from hx];refine .quiet ?_ rfl trivial;simp [convert,run_underlying (show P.underlying s = _ from hki),run_underlying (show P.underlying t = _ from hkj),Conv.intToInt]
    · rename_i e1 e2;rw [e1] at hki;rw [e2] at hkj;rw [show u = _ from hx];refine .quiet ?_ rfl trivial;simp [convert,run_underlying (show P.underlying s = _ from hki),run_underlying (show P.underlying t = _ from hkj)]
    · exact h.elim
  · exact h.elim
def setC : Nat → List C → List C → List C
  | 0,[],cs=>cs
  | 0,n :: ns,_ :: cs=>n :: setC 0 ns cs
  | 0,_ :: _,[]=>[]
  | k + 1,ns,c :: cs=>c :: setC k ns cs
  | _ + 1,_,[]=>[]
def wH : A → Option (List C)
  | .one c=>some [c]
  | .agg cs=>some cs
  | _=>none
def nthP : List (Nat × TypeId) → Nat → Option (Nat × TypeId)
  | [],_=>none
  | p :: _,0=>some p
  | _ :: r,n + 1=>nthP r n
def bld (te : List (TypeId × TyI)) (fs : List (Nat × TypeId)) : List (Nat × A) → List C → Option (List C)
  | [],cs=>some cs
  | (i,a) :: r,cs=>match nthP fs i with
    | some (off,ty)=>match wH a with
      | some ns=>match find te ty with
        | some ti=>match Nat.beq (lenC ns) ti.size,Nat.ble (off + lenC ns) (lenC cs) with
          | true,true=>bld te fs r (setC off ns cs)
          | _,_=>none
        | none=>none
      | none=>none
    | none=>none
def vBld (te : List (TypeId × TyI)) (t : TypeId) (ps : List (Nat × A)) : Vr :=
  match find te t with
  | some i=>match i.k with
    | .struct fs=>match bld te fs ps (i.zero.map C.lit) with
      | some cs=>.ok (.agg cs)
      | none=>.bad
    | .arr n e=>match find te e with
      | some ei=>match Nat.beq ei.size 1 with
        | true=>match bld te (arrF 0 n e) ps (i.zero.map C.lit) with
          | some cs=>.ok (.agg cs)
          | none=>.bad
        | false=>.bad
      | none=>.bad
    | _=>.bad
  | none=>.bad
end
def setV : Nat → List Value → List Value → List Value
  | 0,[],cs=>cs
  | 0,n :: ns,_ :: cs=>n :: setV 0 ns cs
  | 0,_ :: _,[]=>[]
  | k + 1,ns,c :: cs=>c :: setV k ns cs
  | _ + 1,_,[]=>[]
theorem eH : ∀ (k : Nat) (l : List Value),setV k [] l = l
  | 0,l=>by cases l <;> rfl
  | _ + 1,[]=>rfl
  | k + 1,c :: cs=>by rw [setV,eH k cs]
theorem setV_none : ∀ (k : Nat) (ns : List Value),setV k ns [] = []
  | 0,[]=>rfl
  | 0,_ :: _=>rfl
  | _ + 1,_=>rfl
theorem setV_step : ∀ (k : Nat) (n : Value) (ns l : List Value),setV k (n :: ns) l = setV (k + 1) ns (l.set k n)
  | 0,_,_,[]=>by simp [setV]
  | 0,n,ns,c :: cs=>rfl
  | k + 1,n,ns,[]=>by simp [setV]
  | k + 1,n,ns,c :: cs=>by
    show c :: setV k (n :: ns) cs = c :: setV (k + 1) ns (cs.set k n);rw [setV_step k n ns cs]
theorem bE : ∀ (a ns b : List Value),setV a.length ns (a ++ b) = a ++ setV 0 ns b
  | [],_,_=>rfl
  | c :: a,ns,b=>by simp [setV,bE a ns b]
theorem dB : ∀ (ns b : List Value),ns.length ≤ b.length → setV 0 ns b = ns ++ b.drop ns.length
  | [],b,_=>by rw [eH];rfl
  | n :: ns,c :: cs,h=>by simp [setV,dB ns cs (by simpa using h)]
  | n :: ns,[],h=>absurd h (by simp)
theorem setV_at (off : Nat) (ns vs : List Value) (h : off + ns.length ≤ vs.length) : setV off ns vs = vs.take off ++ ns ++ vs.drop (off + ns.length):=by
  have h1:=bE (vs.take off) ns (vs.drop off);rw [List.take_append_drop,List.length_take,Nat.min_eq_left (by omega),dB _ _ (by rw [List.length_drop];omega),List.drop_drop] at h1;rw [h1,List.append_assoc]
theorem foldl_set (off : Nat) : ∀ (vs : List Value) (k : Nat) (arr : Array Value),
    ((vs.zipIdx k).foldl (fun cs (p : Value × Nat)=>cs.setIfInBounds (off + p.2) p.1) arr).toList = setV (off + k) vs arr.toList
  | [],k,arr=>by simp [eH]
  | v :: vs,k,arr=>by
    rw [List.zipIdx_cons,List.foldl_cons,foldl_set off vs (k + 1),setV_step];simp [Nat.add_assoc]
theorem fill_one (off : Nat) (v : Value) (arr : Array Value) :
    (v.cells.zipIdx.foldl (fun cs (c,j)=>cs.setIfInBounds (off + j) c) arr) = (setV off v.cells.toList arr.toList).toArray:=by
  have h:=foldl_set off v.cells.toList 0 arr;rw [Nat.add_zero] at h;apply Array.toList_inj.1;rw [← h];simp only [← Array.foldl_toList,Array.toList_zipIdx]
section
variable {P : Program} {te : List (TypeId × TyI)} {ok : Oks} {ρ : Nat → Option Value} {w : World}
theorem bH : ∀ (k : Nat) {ns cs : List C} {us vs : List Value},repL ok ρ w ns us → repL ok ρ w cs vs → repL ok ρ w (setC k ns cs) (setV k us vs)
  | 0,[],cs,_,_,h,hr=>by
    rw [show _ = _ from h,eH];have : setC 0 [] cs = cs:=by cases cs <;> rfl
    rw [this];exact hr
  | 0,_ :: ns,_ :: cs,_,_,h,hr=>by
    obtain ⟨u,r,e,h1,h2⟩:=h;obtain ⟨v,r',e',_,h4⟩:=hr;rw [e,e'];exact ⟨u,_,rfl,h1,bH 0 h2 h4⟩
  | 0,_ :: _,[],_,_,h,hr=>by
    rw [show _ = _ from hr,setV_none];exact rfl
  | k + 1,ns,c :: cs,_,_,h,hr=>by
    obtain ⟨v,r',e',h3,h4⟩:=hr;rw [e'];exact ⟨v,_,rfl,h3,bH k h h4⟩
  | _ + 1,_,[],_,_,h,hr=>by
    rw [show _ = _ from hr,setV_none];exact rfl
theorem dP {a : A} {cs : List C} {v : Value} (h : wH a = some cs) (hr : a.rep ok ρ w v) (h1 : ∀ c,a = .one c → v.oneCell' = true) : repL ok ρ w cs v.cells.toList:=by
  cases a <;> simp only [wH] at h
  · cases h;have:=h1 _ rfl;refine ⟨v,[],?_,hr,rfl⟩;cases v <;> first|rfl|(simp [Value.oneCell'] at this)
  · cases h;obtain ⟨vs,rfl,hvs⟩:=hr
    simpa [Value.cells] using hvs
  · cases h
  · cases h
def C.sure : C → Bool
  | .any=>false
  | .lit v=>match v with
    | .agg _=>false
    | .tuple _=>false
    | _=>true
  | .fx _ _=>false
  | _=>true
theorem C.sure_one {c : C} {v : Value} (h : c.sure = true) (hr : c.rep ok ρ w v) : v.oneCell' = true:=by
  cases c
  · cases h
  · rename_i u;rw [show v = u from hr];cases u <;> first|rfl|(simp [C.sure] at h)
  · obtain ⟨a,cap,rfl,_⟩:=hr;rfl
  · obtain ⟨⟨a,cap,rfl,_⟩,_⟩:=hr;rfl
  · obtain ⟨b,off,cs,rfl,_⟩:=hr;rfl
  · obtain ⟨b,_,rfl⟩:=hr;rfl
  · obtain ⟨_,a,n,c,rfl⟩:=hr;rfl
  · obtain ⟨b,m,cap,_,rfl⟩:=hr;rfl
  · obtain ⟨u,rfl,_⟩:=hr;rfl
  · obtain ⟨u,rfl,_⟩:=hr;rfl
  · obtain ⟨u,x,rfl,_⟩:=hr;rfl
  · obtain ⟨u,x,y,rfl,_⟩:=hr;rfl
  · obtain ⟨b,off,u,rfl,_⟩:=hr;rfl
  · rename_i u i;cases u
    · rw [hr.2 rfl];rfl
    · obtain ⟨b,_,rfl⟩:=hr.1 rfl;rfl
  · cases h
  · obtain ⟨b,m,cap,_,rfl⟩:=hr;rfl
  · obtain ⟨_,r,rfl⟩:=hr;rfl
def A.sure : A → Bool
  | .one c=>c.sure
  | _=>true
def RepP (ok : Oks) (ρ : Nat → Option Value) (w : World) : List (Nat × A) → List (Nat × Value) → Prop
  | [],vs=>vs = []
  | p :: ps,vs=>∃ v r,vs = (p.1,v) :: r ∧ p.2.rep ok ρ w v ∧ RepP ok ρ w ps r
theorem nthP_eq : ∀ {fs : List (Nat × TypeId)} {i : Nat} {p : Nat × TypeId},nthP fs i = some p → fs[i]? = some p
  | [],_,_,h=>by cases h
  | _ :: _,0,_,h=>by cases h;rfl
  | _ :: r,n + 1,_,h=>by simpa using nthP_eq (fs:=r) h
def SureP (vs : List (Nat × Value)) (ps : List (Nat × A)) : Prop:=∀ (i : Nat) (c : C),(ps[i]?).map Prod.snd = some (A.one c) → ∀ p : Nat × Value,vs[i]? = some p → p.2.oneCell' = true
def sureP : List (Nat × A) → Bool
  | []=>true
  | p :: r=>match p.2.sure with
    | true=>sureP r
    | false=>false
theorem gO : ∀ {ps : List (Nat × A)} {vs : List (Nat × Value)},sureP ps = true → RepP ok ρ w ps vs → SureP vs ps
  | [],vs,_,_=>fun i c h=>by simp at h
  | p :: ps,vs,h,hr=>by
    obtain ⟨v,r,rfl,h1,h2⟩:=hr;unfold sureP at h;split at h
    · rename_i h0;intro i c hi q hq
      match i with
      | 0 =>
        simp only [List.getElem?_cons_zero,Option.map_some,Option.some.injEq] at hi hq;subst hq;rw [hi] at h0 h1;exact C.sure_one h0 h1
      | i + 1=>exact gO h h2 i c (by simpa using hi) q (by simpa using hq)
    · cases h
theorem iD (hte : TEok P te) {fs : List (Nat × TypeId)} {place : Nat → Option (Nat × Nat)} (hp : ∀ (i off : Nat) (ty : TypeId) (ti : TyI),fs[i]? = some (off,ty) → find te ty = some ti → place i = some (off,ti.size)) :
    ∀ {ps : List (Nat × A)} {vs : List (Nat × Value)} {cs cs' : List C} {arr : Array Value},bld te fs ps cs = some cs' → RepP ok ρ w ps vs → SureP vs ps → repL ok ρ w cs arr.toList →
      ∃ arr',Instr.fill place arr vs = some arr' ∧ repL ok ρ w cs' arr'.toList
  | [],vs,cs,cs',arr,h,hr,_,hc=>by
    rw [show vs = [] from hr];cases h;exact ⟨arr,rfl,hc⟩
  | (i,a) :: ps,vs,cs,cs',arr,h,hr,hs,hc=>by
    obtain ⟨v,r,rfl,h1,h2⟩:=hr;unfold bld at h;split at h
    · rename_i off ty e1;split at h
      · rename_i ns e2;split at h
        · rename_i ti e3;split at h
          · rename_i e4 e5;have e4:=Nat.eq_of_beq_eq_true e4;have e5:=Nat.le_of_ble_eq_true e5;rw [jP] at e4 e5;rw [jP] at e5;have hns:=dP e2 h1 (fun c hc=>hs 0 c (by simp [hc]) (i,v) rfl);have hl1:=repL.len hns;have hl2:=repL.len hc;have hset:=bH off hns hc;have hs' : SureP r ps:=fun j c hj p hp=>hs (j + 1) c (by simpa using hj) p (by simpa using hp)
            obtain ⟨arr',h3,h4⟩:=iD hte hp (arr:=(setV off v.cells.toList arr.toList).toArray) h h2 hs' (by simpa using hset);refine ⟨arr',?_,h4⟩;simp only [Array.length_toList] at hl1 hl2;simp only [Instr.fill];rw [hp i off ty ti (nthP_eq e1) e3];simp only;rw [if_neg (by simp;omega),fill_one];exact h3
          · cases h
        · cases h
      · cases h
    · cases h
theorem iI : ∀ {fs : List Field},(∀ f ∈ fs,((P.info? f.type).map (·.size)).getD 0 ≠ 0) → fs.mapM (fun f=>(P.info? f.type).map fun i=>(f.offset,i.size)) = some (fs.map fun f=>(f.offset,((P.info? f.type).map (·.size)).getD 0))
  | [],_=>rfl
  | f :: fs,h=>by
    have h1:=h f (by simp);have ih:=iI (fs:=fs) (fun g hg=>h g (by simp [hg]));cases hi : P.info? f.type with
    | none=>rw [hi] at h1;exact absurd rfl h1
    | some inf=>simp [List.mapM_cons,hi,ih]
theorem vBld_sound (hte : TEok P te) {t : TypeId} {ps : List (Nat × A)} (h : (vBld te t ps).obl) {vs : List (Nat × Value)} (hr : RepP ok ρ w ps vs) (hs : SureP vs ps) :
    (vBld te t ps).Is P (Instr.build t vs.toArray) ok ρ w:=by
  unfold vBld at h ⊢;split at h
  · rename_i i hi;have hok:=yO hte hi;have hk:=hok.kind;split at h
    · rename_i fs e;rw [e] at hk;obtain ⟨h1,h2,h3,h4,h5⟩:=hk;split at h
      · rename_i cs hb;obtain ⟨f,hf,_,_,hz⟩:=hok.info;have hsz : ∀ g ∈ (P.fieldsOf t).toList,((P.info? g.type).map (·.size)).getD 0 ≠ 0:=by
          intro g hg;have hm : (g.offset,g.type) ∈ fs:=by rw [← h2];exact List.mem_map.2 ⟨g,hg,rfl⟩
          have:=List.all_eq_true.1 h5 _ hm
          simpa using this
        have hpl:=iI hsz;obtain ⟨arr',h6,h7⟩:=iD (ok:=ok) (ρ:=ρ) (w:=w) hte (fs:=fs) (place:=fun i=>(((P.fieldsOf t).toList.map fun f=>(f.offset,((P.info? f.type).map (·.size)).getD 0)).toArray)[i]?) (by
          intro j off ty ti hj hti;rw [← h2,List.getElem?_map] at hj;obtain ⟨g,hg,hge⟩:=Option.map_eq_some_iff.1 hj;cases hge;obtain ⟨f',hf',hs',_⟩:=(yO hte hti).info;simp only [List.getElem?_toArray,List.getElem?_map,hg,Option.map_some,hf',hs',Option.getD_some]) (arr:=i.zero.toArray) hb hr hs (by simpa using uZ i.zero)
        have hbuilt : P.built t vs = some arr':=by
          unfold Program.built;rw [hf,h1];simp only [hz,hpl,hok.zeroCells];exact h6
        exact .quiet (run_build w t vs.toArray arr' (by simpa using hbuilt)) ⟨arr'.toList,by simp,h7⟩ trivial
      · exact h.elim
    · rename_i n e ek;rw [ek] at hk;have hk : P.underlying t = some (.array n e):=hk;split at h
      · rename_i ei hei;have hei':=yO hte hei;split at h
        · rename_i h1s;have h1s:=Nat.eq_of_beq_eq_true h1s;split at h
          · rename_i cs hb;obtain ⟨f,hf,_,_,hz⟩:=hok.info;obtain ⟨fe,hfe,hse,_⟩:=hei'.info;obtain ⟨arr',h6,h7⟩:=iD (ok:=ok) (ρ:=ρ) (w:=w) hte (fs:=arrF 0 n e) (place:=fun i=>some (i * fe.size,fe.size)) (by
              intro j off ty ti hj hti;obtain ⟨g1,g2,_⟩:=arrF_at hj;subst g2;rw [hei] at hti;cases hti;rw [hse,h1s,g1];simp) (arr:=i.zero.toArray) hb hr hs (by simpa using uZ i.zero)
            have hbuilt : P.built t vs = some arr':=by
              unfold Program.built;rw [hf,hk];simp only [hz,hfe,hok.zeroCells];exact h6
            exact .quiet (run_build w t vs.toArray arr' (by simpa using hbuilt)) ⟨arr'.toList,by simp,h7⟩ trivial
          · exact h.elim
        · exact h.elim
      · exact h.elim
    · exact h.elim
  · exact h.elim
def elems {α : Type} (R : Rd α) : Nat → List (Nat × A) → Option (List α)
  | _,[]=>some []
  | k,(i,a) :: r=>match Nat.beq i k with
    | true=>match wH a with
      | some cs=>match ofL R cs with
        | some (x,[])=>match elems R (k + 1) r with
          | some xs=>some (x :: xs)
          | none=>none
        | _=>none
      | none=>none
    | false=>none
theorem bR {α : Type} {R : Rd α} : ∀ {k : Nat} {ps : List (Nat × A)} {vs : List (Nat × Value)} {xs : List α} (done rest : List Value),elems R k ps = some xs → RepP ok ρ w ps vs → SureP vs ps → done.length = k * R.n → rest.length = ps.length * R.n →
    ∃ css : List (List Value),css.length = xs.length ∧ ps.length = xs.length ∧ (∀ i (h : i < xs.length),R.is ok w (css.getD i []) xs[i]) ∧ Instr.fill (fun i=>some (i * R.n,R.n)) (done ++ rest).toArray vs = some (done ++ css.flatten).toArray
  | k,[],vs,xs,done,rest,h,hr,_,_,hl=>by
    rw [show vs = [] from hr];cases h;have : rest = []:=List.length_eq_zero_iff.1 (by simpa using hl);subst this;exact ⟨[],rfl,rfl,fun i h=>absurd h (by simp),by simp [Instr.fill]⟩
  | k,(i,a) :: ps,vs,xs,done,rest,h,hr,hs,hd,hl=>by
    obtain ⟨v,r,rfl,h1,h2⟩:=hr;unfold elems at h;split at h
    · rename_i e0;have e0:=Nat.eq_of_beq_eq_true e0;subst e0;split at h
      · rename_i cs e1;split at h
        · rename_i x e2;split at h
          · rename_i ys e3;cases h;have hns:=dP e1 h1 (fun c hc=>hs 0 c (by simp [hc]) (i,v) rfl);obtain ⟨us,r',e4,h3,h4⟩:=jZ R e2 hns;have hr0 : r' = []:=h4;rw [hr0,List.append_nil] at e4;have hus:=R.len h3;have hl' : rest.length = (ps.length + 1) * R.n:=by simpa using hl
            rw [Nat.add_mul,Nat.one_mul] at hl';have hs' : SureP r ps:=fun j c hj p hp=>hs (j + 1) c (by simpa using hj) p (by simpa using hp)
            obtain ⟨css,h5,h6,h7,h8⟩:=bR (done ++ us) (rest.drop R.n) e3 h2 hs' (by rw [List.length_append,hd,hus,Nat.add_mul,Nat.one_mul]) (by rw [List.length_drop];omega);refine ⟨us :: css,by simp [h5],by simp [h6],?_,?_⟩
            · intro j hj
              match j,hj with
              | 0,_=>exact h3
              | j + 1,hj=>exact h7 j (by simpa using hj)
            · have hsz : v.cells.size = R.n:=by
                have:=congrArg List.length e4
                simpa [hus] using this
              simp only [Instr.fill];rw [if_neg (by simp [hsz,hd];omega),fill_one,e4];have : setV (i * R.n) us (done ++ rest) = (done ++ us) ++ rest.drop R.n:=by
                rw [← hd,bE,dB us rest (by omega),hus,List.append_assoc]
              rw [show ((done ++ rest).toArray).toList = done ++ rest from rfl,this];rw [h8];simp
          · cases h
        · cases h
      · cases h
    · cases h
theorem run_buildSlice {t e : TypeId} {ei : TyI} (ht : P.underlying t = some (.slice e)) (he : TyOk P e ei) (_hpos : 0 < ei.size) {α : Type} {R : Rd α} (hn : R.n = ei.size) {ps : List (Nat × A)} {vs : List (Nat × Value)} {xs : List α}
    (h : elems R 0 ps = some xs) (hr : RepP ok ρ w ps vs) (hs : sureP ps = true) (hlim : ps.length * ei.size ≤ 16777216) :
    ∃ css : List (List Value),css.length = xs.length ∧ (∀ i (h : i < xs.length),R.is ok w (css.getD i []) xs[i]) ∧ (Instr.buildSlice t ps.length vs.toArray).run P w = .ok (.slice (some ⟨w.heap.size,0,none⟩) xs.length xs.length) (w.alloc (.cells css.flatten.toArray e)):=by
  have hS:=gO hs hr;have hlim' : ¬ ps.length * ei.size > 2 ^ 24:=by
    have : (2 : Nat) ^ 24 = 16777216:=by decide
    omega
  have fin : ∀ (zs : Array Value),zs.size = ps.length * ei.size → ∃ css : List (List Value),css.length = xs.length ∧ ps.length = xs.length ∧ (∀ i (h : i < xs.length),R.is ok w (css.getD i []) xs[i]) ∧ Instr.fill (fun i=>some (i * ei.size,ei.size)) zs vs = some css.flatten.toArray:=by
    intro zs hz;obtain ⟨css,h1,h2,h3,h4⟩:=bR (R:=R) [] zs.toList h hr hS (by simp) (by simp [hz,hn]);refine ⟨css,h1,h2,h3,?_⟩
    simpa [hn] using h4
  by_cases h0 : ps.length * ei.size = 0
  · obtain ⟨css,h1,h2,h3,h4⟩:=fin ((Array.range (ps.length * ei.size)).map (fun j=>(#[] : Array Value)[j % (#[] : Array Value).size]!)) (by simp);refine ⟨css,h1,h3,?_⟩;rw [← h2];simp only [Instr.buildSlice,Sem.run_bind,run_underlying ht,Result.andThen_ok,he.sizeOf,if_neg hlim',if_pos h0,Sem.run_pure,h4];rfl
  · obtain ⟨css,h1,h2,h3,h4⟩:=fin ((Array.range (ps.length * ei.size)).map (fun j=>(ei.zeroV.cells)[j % (ei.zeroV.cells).size]!)) (by simp);refine ⟨css,h1,h3,?_⟩;rw [← h2];simp only [Instr.buildSlice,Sem.run_bind,run_underlying ht,Result.andThen_ok,he.sizeOf,if_neg hlim',if_neg h0,Sem.run_pure,he.zeroValue,h4];rfl
def inferC : C → Option (Sigma Rd)
  | .adk k R _=>some ⟨_,.ptk k R⟩
  | .ifc t c=>match inferC c with
    | some s=>some ⟨s.1,.ifc t s.2⟩
    | none=>none
  | _=>none
def inferP : List (Nat × A) → Option (Sigma Rd)
  | p :: _=>match p.2 with
    | .one c=>inferC c
    | _=>none
  | []=>none
def vElems (te : List (TypeId × TyI)) (t : TypeId) (len : Nat) (ps : List (Nat × A)) : Option (Sigma fun α : Type=>Rd α × List α × TypeId) :=
  match find te t with
  | some ti=>match ti.k with
    | .slice e=>match find te e with
      | some ei=>match ei.rd with
        | some ⟨α,R⟩=>match Nat.beq ps.length len,Nat.ble (len * ei.size) 16777216,sureP ps with
          | true,true,true=>match elems R 0 ps with
            | some xs=>some ⟨α,R,xs,e⟩
            | none=>match elems (R.kd 7) 0 ps with
              | some xs=>some ⟨α,R.kd 7,xs,e⟩
              | none=>match inferP ps with
                | some ⟨β,S⟩=>match Nat.beq S.n ei.size with
                  | true=>match elems S 0 ps with
                    | some xs=>some ⟨β,S,xs,e⟩
                    | none=>none
                  | false=>none
                | none=>none
          | _,_,_=>none
        | none=>none
      | none=>none
    | _=>none
  | none=>none
theorem cX {t e : TypeId} {ei : TyI} {len : Nat} {ps : List (Nat × A)} {vs : List (Nat × Value)} {α : Type} {R : Rd α} {xs : List α} (hk : P.underlying t = some (.slice e)) (hei : TyOk P e ei) (h1 : Nat.beq ps.length len = true) (h2 : Nat.ble (len * ei.size) 16777216 = true) (h3 : sureP ps = true)
    (hn : R.n = ei.size) (hx : elems R 0 ps = some xs) (hr : RepP ok ρ w ps vs) : (∃ ei,TyOk P e ei ∧ R.n = ei.size) ∧ P.underlying t = some (.slice e) ∧ xs.length * R.n ≤ 16777216 ∧
    ∃ css : List (List Value),css.length = xs.length ∧ (∀ i (h : i < xs.length),R.is ok w (css.getD i []) xs[i]) ∧ (Instr.buildSlice t len vs.toArray).run P w = .ok (.slice (some ⟨w.heap.size,0,none⟩) xs.length xs.length) (w.alloc (.cells css.flatten.toArray e)):=by
  have h1:=Nat.eq_of_beq_eq_true h1;have h2:=Nat.le_of_ble_eq_true h2;have hpos : 0 < ei.size:=by rw [← hn];exact R.n_pos
  obtain ⟨css,h4,h5,h6⟩:=run_buildSlice (ok:=ok) (ρ:=ρ) (w:=w) hk hei hpos hn hx hr h3 (by rw [h1];exact h2);rw [h1] at h6;have hlx : ps.length = xs.length:=by
    have hS:=gO h3 hr;obtain ⟨_,_,h7,_⟩:=bR (R:=R) (ok:=ok) (w:=w) [] (List.replicate (ps.length * R.n) undef) hx hr hS (by simp) (by simp);exact h7
  exact ⟨⟨ei,hei,hn⟩,hk,by rw [← hlx,h1,hn];exact h2,css,h4,h5,h6⟩
theorem dY (hte : TEok P te) {t e : TypeId} {len : Nat} {ps : List (Nat × A)} {vs : List (Nat × Value)} {α : Type} {R : Rd α} {xs : List α} (h : vElems te t len ps = some ⟨α,R,xs,e⟩) (hr : RepP ok ρ w ps vs) :
    (∃ ei,TyOk P e ei ∧ R.n = ei.size) ∧ P.underlying t = some (.slice e) ∧ xs.length * R.n ≤ 16777216 ∧
    ∃ css : List (List Value),css.length = xs.length ∧ (∀ i (h : i < xs.length),R.is ok w (css.getD i []) xs[i]) ∧ (Instr.buildSlice t len vs.toArray).run P w = .ok (.slice (some ⟨w.heap.size,0,none⟩) xs.length xs.length) (w.alloc (.cells css.flatten.toArray e)):=by
  unfold vElems at h;split at h
  · rename_i ti hti;have hk:=(yO hte hti).kind;split at h
    · rename_i e' hek;rw [hek] at hk;split at h
      · rename_i ei hei;have hei:=yO hte hei;split at h
        · rename_i α' R' hrd;split at h
          · rename_i h1 h2 h3;split at h
            · rename_i xs' hx;cases h;exact cX hk hei h1 h2 h3 (hei.rdn _ _ hrd) hx hr
            · split at h
              · rename_i xs' hx;cases h;exact cX hk hei h1 h2 h3 ((Rd.kd_n R').trans (hei.rdn _ _ hrd)) hx hr
              · split at h
                · split at h
                  · rename_i hb;split at h
                    · rename_i xs' hx;cases h;exact cX hk hei h1 h2 h3 (Nat.eq_of_beq_eq_true hb) hx hr
                    · cases h
                  · cases h
                · cases h
          · cases h
        · cases h
      · cases h
    · cases h
  · cases h
theorem gH (w : World) (o : Obj) : (w.alloc o).heap[w.heap.size]? = some o:=by
  show (w.heap.push o)[w.heap.size]? = _;simp
theorem kU (w : World) (o : Obj) : Below w.heap.size w (w.alloc o):=(Below.refl _ _).alloc (Nat.le_refl _) _
theorem slOk_new {α : Type} {R : Rd α} {xs : List α} {css : List (List Value)} {e : TypeId} (h1 : css.length = xs.length) (h2 : ∀ i (h : i < xs.length),R.is ok w (css.getD i []) xs[i]) (hlim : xs.length ≤ maxLen) :
    SlOk R.n (fun cs x=>R.is (grow ok w) (w.alloc (.cells css.flatten.toArray e)) cs x) (okU (grow ok w) (w.alloc (.cells css.flatten.toArray e)) 0) (w.alloc (.cells css.flatten.toArray e)) (.slice (some ⟨w.heap.size,0,none⟩) xs.length xs.length) xs:=by
  refine ⟨_,_,rfl,Nat.le_refl _,hlim,fun i hi=>⟨w.heap.size,0,css.getD i [],rfl,okU0 (.inr ⟨Nat.le_refl _,by decide⟩),by simp,⟨R.len (h2 i hi),fun j hj=>?_⟩,R.kept (iK (kU w _)) (h2 i hi)⟩⟩;have hfl : ∀ c ∈ css,c.length = R.n:=by
    intro c hc;obtain ⟨j,hj,rfl⟩:=List.mem_iff_getElem.1 hc;have:=R.len (h2 j (by omega))
    simpa [List.getD,hj] using this
  have:=uC css i j hfl (by omega) hj;rw [← this];simp only [World.cell?,gH,Option.isSome_none,Bool.false_eq_true,if_false,List.getElem?_toArray,Nat.zero_add]
def vFull (te : List (TypeId × TyI)) (t : TypeId) (len : Nat) (ps : List (Nat × A)) : Vr :=
  match vElems te t len ps with
  | some ⟨_,R,xs,_⟩=>.ok (.one (.full R xs))
  | none=>.bad
theorem small_max {n m : Nat} (hm : 0 < m) (h : n * m ≤ 16777216) : n ≤ maxLen:=by
  have : n * 1 ≤ n * m:=Nat.mul_le_mul_left _ hm;unfold maxLen;omega
theorem vFull_sound (hte : TEok P te) {t : TypeId} {len : Nat} {ps : List (Nat × A)} {vs : List (Nat × Value)} (h : (vFull te t len ps).obl) (hr : RepP ok ρ w ps vs) : (vFull te t len ps).Is P (Instr.buildSlice t len vs.toArray) ok ρ w:=by
  unfold vFull at h ⊢;split at h
  · rename_i α R xs e he;obtain ⟨_,_,hlim,css,h1,h2,h3⟩:=dY hte he hr;exact ⟨⟨_,_,h3,kU _ _,slOk_new h1 h2 (small_max R.n_pos hlim),_,rfl⟩,trivial⟩
  · exact h.elim
end
def okA (a : A) : Vr:=match a with
  | .one .any=>.ok (.one .any)
  | .one (.lit v)=>.ok (.one (.lit v))
  | .one (.slk k R xs)=>.ok (.one (.slk k R xs))
  | .one (.full R xs)=>.ok (.one (.full R xs))
  | .one (.adk k R x)=>.ok (.one (.adk k R x))
  | .one (.own i o)=>.ok (.one (.own i o))
  | .one (.vec i)=>.ok (.one (.vec i))
  | .one (.vel i k n)=>.ok (.one (.vel i k n))
  | .one (.ifc t c)=>.ok (.one (.ifc t c))
  | .one (.clo f c)=>.ok (.one (.clo f c))
  | .one (.clo2 f c d)=>.ok (.one (.clo2 f c d))
  | .one (.clo3 f c d e)=>.ok (.one (.clo3 f c d e))
  | .one (.ref c)=>.ok (.one (.ref c))
  | .one (.nself u i)=>.ok (.one (.nself u i))
  | .one (.fx i u)=>.ok (.one (.fx i u))
  | .one (.vof i k n o)=>.ok (.one (.vof i k n o))
  | .one (.mp i)=>.ok (.one (.mp i))
  | .agg cs=>.ok (.agg cs)
  | .tup cs=>.ok (.tup cs)
  | .cond b a=>.ok (.cond b a)
theorem okA_eq (a : A) : okA a = .ok a:=by
  cases a
  · rename_i c;cases c <;> rfl
  · rfl
  · rfl
  · rfl
def lks (lk : Operand → A) : List (Nat × Operand) → List (Nat × A)
  | []=>[]
  | (i,x) :: r=>(i,lk x) :: lks lk r
def lkO (lk : Operand → A) : Option Operand → Option A
  | none=>none
  | some x=>some (lk x)
def vFun (fn : Fn) (first caps : List A) : Vr :=
  match fn,first,caps with
  | .func f,[],[]=>.ok (.one (.lit (.func (.func f) #[] #[])))
  | .func _,[],[.one .any]=>.bad
  | .func f,[],[.one c]=>.ok (.one (.clo f c))
  | .func _,[],[.one .any,.one _]=>.bad
  | .func _,[],[.one _,.one .any]=>.bad
  | .func f,[],[.one c,.one d]=>.ok (.one (.clo2 f c d))
  | .func f,[],[.one c,.one d,.one e]=>.ok (.one (.clo3 f c d e))
  | _,_,_=>.bad
def mapL (lk : Operand → A) : List Operand → List A
  | []=>[]
  | x :: r=>lk x :: mapL lk r
def vBi (te : List (TypeId × TyI)) (ob : List (Nat × Ob)) (lk : Operand → A) (b : Builtin) (args : List Operand) (ts : List TypeId) : Vr :=
  match b,args,ts with
  | .len,[x],[t]=>vLen te ob t (lk x)
  | .min,[x,y],_=>vMin (lk x) (lk y)
  | .max,[x,y],_=>vMax (lk x) (lk y)
  | _,_,_=>.bad
def getM {α : Type} : List (Int × α) → Int → Option α
  | [],_=>none
  | e :: r,n=>if e.1 = n then some e.2 else getM r n
def setM {α : Type} : List (Int × α) → Int → α → List (Int × α)
  | [],n,y=>[(n,y)]
  | e :: r,n,y=>if e.1 = n then (n,y) :: r else e :: setM r n y
def sameB : Bool → Bool → Bool
  | true,true=>true
  | false,false=>true
  | _,_=>false
theorem sameB_eq : ∀ {a b : Bool},sameB a b = true → a = b
  | true,true,_=>rfl
  | false,false,_=>rfl
theorem bQ {α : Type} {g : Bool} {R : Rd α} {ok : Oks} {w : World} {n : Int} : ∀ {ms : List MapEntry} {es : List (Int × α)} (i : Nat),MEs g R ok w ms es →
    (getM es n = none ∧ Instr.findNow (.int .i64) (.int .i64 n) ms i = some none ∧ ∀ (m : MapEntry) (y : α),m.key = .int .i64 n → (∃ cs,mval g m.val cs ∧ R.is ok w cs y) → MEs g R ok w (ms ++ [m]) (setM es n y)) ∨
    (∃ (x : α) (cs : List Value) (v : Value) (j : Nat) (m0 : MapEntry),getM es n = some x ∧ Instr.findNow (.int .i64) (.int .i64 n) ms i = some (some (i + j,v)) ∧ mval g v cs ∧ R.is ok w cs x ∧ ms[j]? = some m0 ∧ m0.key = .int .i64 n ∧
      ∀ (f : MapEntry → MapEntry) (y : α),(∀ m,(f m).key = .int .i64 n ∧ ∃ cs,mval g (f m).val cs ∧ R.is ok w cs y) → MEs g R ok w (ms.modify j f) (setM es n y))
  | [],[],i,_=>.inl ⟨rfl,rfl,fun m y hk hv=>⟨⟨hk,hv⟩,trivial⟩⟩
  | [],_ :: _,_,h=>h.elim
  | _ :: _,[],_,h=>h.elim
  | m :: ms,e :: es,i,⟨⟨h1,cs,h2,h3⟩,h4⟩=>by
    have hs : Instr.sameNow (.int .i64) (.int .i64 n) m.key = some (n == e.1):=by rw [h1];simp [Instr.sameNow]
    by_cases hn : e.1 = n
    · right
      have hs' : Instr.sameNow (.int .i64) (.int .i64 n) m.key = some true:=by rw [hs,hn];simp
      refine ⟨e.2,cs,m.val,0,m,by simp [getM,hn],by simp [Instr.findNow,hs'],h2,h3,rfl,by rw [h1,hn],fun f y hf=>?_⟩;have e1 : (m :: ms).modify 0 f = f m :: ms:=by simp
      rw [e1];show MEs g R ok w (f m :: ms) (if e.1 = n then (n,y) :: es else e :: setM es n y);rw [if_pos hn];exact ⟨⟨(hf m).1,(hf m).2⟩,h4⟩
    · have hs' : Instr.sameNow (.int .i64) (.int .i64 n) m.key = some false:=by rw [hs];simp;exact fun e'=>hn e'.symm
      rcases bQ (n:=n) (i + 1) h4 with ⟨g1,g2,g3⟩|⟨x,cs',v,j,m0,g1,g2,g3,g4,g5,g6,g7⟩
      · left
        refine ⟨by simp [getM,hn,g1],by simp [Instr.findNow,hs',g2],fun m' y hk hv=>?_⟩;show MEs g R ok w (m :: (ms ++ [m'])) (if e.1 = n then (n,y) :: es else e :: setM es n y);rw [if_neg hn];exact ⟨⟨h1,cs,h2,h3⟩,g3 m' y hk hv⟩
      · right
        refine ⟨x,cs',v,j + 1,m0,by simp [getM,hn,g1],by simp [Instr.findNow,hs',g2];omega,g3,g4,by simpa using g5,g6,fun f y hf=>?_⟩;have e1 : (m :: ms).modify (j + 1) f = m :: ms.modify j f:=by simp
        rw [e1];show MEs g R ok w (m :: ms.modify j f) (if e.1 = n then (n,y) :: es else e :: setM es n y);rw [if_neg hn];exact ⟨⟨h1,cs,h2,h3⟩,g7 f y hf⟩
theorem mval_rep {α : Type} {g : Bool} {R : Rd α} {ok : Oks} {ρ : Nat → Option Value} {w : World} {v : Value} {cs : List Value} {x : α} (h : mval g v cs) (hx : R.is ok w cs x) : repV ok ρ w g (toL R x) v:=by
  cases g with
  | true=>exact ⟨cs,h,gN R hx⟩
  | false =>
    have h : cs = [v]:=h;rw [h] at hx;exact gN R hx
theorem mval_zero {P : Program} {t : TypeId} {i : TyI} (h : TyOk P t i) : mval i.k.agg i.zeroV i.zero:=by
  unfold TyI.zeroV;cases hk : i.k.agg with
  | true=>rfl
  | false =>
    have h1:=h.size1 hk;have h2:=h.zlen;rw [h1] at h2;obtain ⟨z,hz⟩:=List.length_eq_one_iff.1 h2;rw [hz];rfl
def vLook (te : List (TypeId × TyI)) (ob : List (Nat × Ob)) (t : TypeId) (x k : A) : Vr :=
  match find te t with
  | some ti=>match ti.k,x,k with
    | .map kt et,.one (.mp id),.one (.lit (.int .i64 n))=>match find te kt,find te et,getO ob id with
      | some ki,some ei,some (.map g R es)=>match ki.k,ofL R (ei.zero.map C.lit),sameB g ei.k.agg with
        | .int .i64,some (z,[]),true=>.ok (.tup [(g,toL R ((getM es n).getD z)),(false,[.lit (.bool (getM es n).isSome)])])
        | _,_,_=>.bad
      | _,_,_=>.bad
    | _,_,_=>.bad
  | none=>.bad
theorem gP {P : Program} {kt : TypeId} {w : World} (hk : P.underlying kt = some (.int .i64)) {v : Value} {ms : List MapEntry} {r : Option (Nat × Value)} (h : Instr.findNow (.int .i64) v ms 0 = some r) : (Instr.findKey kt v ms).run P w = .ok r w:=by
  unfold Instr.findKey;simp only [Sem.run_bind,run_underlying hk,Result.andThen_ok,h,Sem.run_pure]
theorem vLook_sound {P : Program} {te : List (TypeId × TyI)} {ok : Oks} {ρ : Nat → Option Value} {w : World} (hte : TEok P te) {ob : List (Nat × Ob)} (hob : zB ok ρ w ob) {t : TypeId} {x k : A} (h : (vLook te ob t x k).obl) {u kv : Value} (hx : x.rep ok ρ w u) (hk : k.rep ok ρ w kv) :
    (vLook te ob t x k).Is P (Instr.lookup t u kv true) ok ρ w:=by
  unfold vLook at h ⊢;split at h
  · rename_i ti hti;have hk1:=(yO hte hti).kind;split at h
    · rename_i kt et id n e;rw [e] at hk1;have ht : P.underlying t = some (.map kt et):=hk1;split at h
      · rename_i ki ei β g R es hki hei hg;have hk2:=(yO hte hki).kind;have hei:=yO hte hei;split at h
        · rename_i z e2 hz hgb;rw [e2] at hk2;have hkt : P.underlying kt = some (.int .i64):=hk2;have hgb:=sameB_eq hgb;obtain ⟨r,h1,arr,clock,h2,h3⟩:=uR hob hg;obtain ⟨h4,_⟩:=hx;have h4 : ρ id = some u:=h4;rw [h1] at h4;obtain rfl:=Option.some.inj h4;rw [show kv = _ from hk];have hck : (Instr.checkKey arr.isEmpty 10000 kt (.int .i64 n)).run P w = .ok () w:=MapKept.run_checkKey hkt (show MapKept.IsKey (.int .i64) (.int .i64 n) from by simp [MapKept.IsKey]) _ _;have hzr:=hei.zeroValue w;obtain ⟨us,rr,e3,hus,hrr⟩:=jZ (ok:=ok) (ρ:=ρ) (w:=w) R hz (uZ ei.zero);have hrr : rr = []:=hrr;rw [hrr,List.append_nil] at e3;rcases bQ (n:=n) 0 h3 with ⟨g1,g2,_⟩|⟨y,cs,v,j,m0,g1,g2,g3,g4,_,_,_⟩
          · rw [g1];refine .quiet (u:=.tuple #[ei.zeroV,.bool false]) ?_ ⟨[ei.zeroV,.bool false],rfl,ei.zeroV,_,rfl,mval_rep (cs:=ei.zero) (by rw [hgb];exact mval_zero hei) (by rw [e3];exact hus),.bool false,[],rfl,⟨_,_,rfl,rfl,rfl⟩,rfl⟩ trivial;simp only [Instr.lookup,Sem.run_bind,run_underlying ht,Result.andThen_ok,MapKept.run_getObj_map h2,Sem.run_pure,hck,gP hkt g2,hzr,if_true]
          · rw [g1];refine .quiet (u:=.tuple #[v,.bool true]) ?_ ⟨[v,.bool true],rfl,v,_,rfl,mval_rep g3 g4,.bool true,[],rfl,⟨_,_,rfl,rfl,rfl⟩,rfl⟩ trivial;simp only [Instr.lookup,Sem.run_bind,run_underlying ht,Result.andThen_ok,MapKept.run_getObj_map h2,Sem.run_pure,hck,gP hkt g2,if_true]
        · exact h.elim
      · exact h.elim
    · exact h.elim
  · exact h.elim
def opv (te : List (TypeId × TyI)) (ob : List (Nat × Ob)) (lk : Operand → A) (o : Op) : Vr :=
  match o with
  | .move x=>okA (lk x)
  | .assign x=>okA (lk x)
  | .pick c a b=>vPick (lk c) (lk a) (lk b)
  | .build t ps=>match sureP (lks lk ps.toList) with
    | true=>vBld te t (lks lk ps.toList)
    | false=>.bad
  | .buildSlice t n ps=>vFull te t n (lks lk ps.toList)
  | .load t x=>vLoad te ob t (lk x)
  | .nilCheck x=>vNil (lk x)
  | .binOp op t x y _=>vBin te op t (isK x || isK y) (lk x) (lk y)
  | .unOp op _ x=>vUn op (lk x)
  | .convert s t x=>vCnv te s t (lk x)
  | .makeInterface t x=>vIfc te t (lk x)
  | .makeFunc fn first caps=>vFun fn (mapL lk first.toList) (mapL lk caps.toList)
  | .slice t x lo hi none=>vSlice te t (lk x) (lkO lk lo) (lkO lk hi)
  | .slice t x none (some h) (some m)=>vCut3 te t (lk x) (lk h) (lk m)
  | .fieldAddr t x f=>vFld te t (lk x) f
  | .field t x f=>vField te t (lk x) f
  | .lookup t x k true=>vLook te ob t (lk x) (lk k)
  | .indexAddr t x i=>vIdxA te ob t (lk x) (lk i)
  | .index t x i=>vIdx te t (lk x) (lk i)
  | .typeAssert x _ t true=>vAss te (lk x) t
  | .extract x j=>vExt (lk x) j
  | .call { callee:=.builtin b,args,argTypes }=>vBi te ob lk b args.toList argTypes.toList
  | _=>.bad
section
variable {P : Program} {te : List (TypeId × TyI)} {ok : Oks} {ρ : Nat → Option Value} {w : World}
def Yld (P : Program) (o : Oper) (ev : Operand → Value) (ok : Oks) (ρ : Nat → Option Value) (w : World) (v : A) : Prop :=
  ∃ u w',(execOp ev o).run P w = .ok (.value u) w' ∧ Below w.heap.size w w' ∧ v.rep (grow ok w) ρ w' u
theorem Yld.of {o : Oper} {ev : Operand → Value} {s : Sem Value} {v : Vr} (he : execOp ev o = (do pure (.value (← s)))) (h : v.Is P s ok ρ w) : Yld P o ev ok ρ w v.val ∧ v.fact:=by
  obtain ⟨⟨u,w',h1,h2,h3⟩,h4⟩:=h;exact ⟨⟨u,w',by rw [he,Sem.run_bind,h1];rfl,h2,h3⟩,h4⟩
theorem lks_rep {lk : Operand → A} {ev : Operand → Value} : ∀ {ps : List (Nat × Operand)},(∀ p ∈ ps,(lk p.2).rep ok ρ w (ev p.2)) → RepP ok ρ w (lks lk ps) (ps.map fun p=>(p.1,ev p.2))
  | [],_=>rfl
  | p :: ps,h=>⟨ev p.2,_,rfl,h p (by simp),lks_rep fun q hq=>h q (by simp [hq])⟩
theorem lkO_rep {lk : Operand → A} {ev : Operand → Value} : ∀ {x : Option Operand},(∀ y ∈ x,(lk y).rep ok ρ w (ev y)) → repO ok ρ w (lkO lk x) (x.map ev)
  | none,_=>trivial
  | some x,h=>h x rfl
theorem vN (hte : TEok P te) {ob : List (Nat × Ob)} {lk : Operand → A} {o : Oper} (h : (opv te ob lk o.op).obl) {ev : Operand → Value}
    (hl : ∀ x ∈ o.op.operands.toList,(lk x).rep ok ρ w (ev x)) (hob : zB ok ρ w ob) : Yld P o ev ok ρ w (opv te ob lk o.op).val ∧ (opv te ob lk o.op).fact:=by
  have hev : ∀ {x : Operand} {v : Vr},v = okA (lk x) → (lk x).rep ok ρ w (ev x) → v.Is P (pure (ev x)) ok ρ w:=by
    intro x v hv hr;rw [hv,okA_eq];exact .quiet rfl hr trivial
  obtain ⟨dst,op,ty,pos,after,guard⟩:=o;simp only at h hl ⊢;unfold opv at h ⊢;split at h
  · exact Yld.of rfl (hev rfl (hl _ (by simp [Op.operands])))
  · exact Yld.of rfl (hev rfl (hl _ (by simp [Op.operands])))
  · rename_i c a b;have:=bA (P:=P) h (hl c (by simp [Op.operands])) (hl a (by simp [Op.operands])) (hl b (by simp [Op.operands]));refine Yld.of ?_ this;show (do pure (Next.value (if ← asBool (ev c) then ev a else ev b))) = _;simp only [bind_assoc]
    congr 1
    funext p
    cases p <;> rfl
  · rename_i t ps;split at h
    · rename_i hs;have hr:=lks_rep (ok:=ok) (ρ:=ρ) (w:=w) (lk:=lk) (ev:=ev) (ps:=ps.toList) (fun p hp=>hl p.2 (by
        simp only [Op.operands,List.toList_toArray];exact List.mem_map.2 ⟨p,hp,rfl⟩))
      refine Yld.of (s:=Instr.build t (ps.toList.map fun p=>(p.1,ev p.2)).toArray) ?_ (vBld_sound hte h hr (gO hs hr));show (do pure (Next.value (← Instr.build t (ps.map fun (i,x)=>(i,ev x))))) = _
      congr 2
      apply Array.toList_inj.1;simp
    · exact h.elim
  · rename_i t n ps;have hr:=lks_rep (ok:=ok) (ρ:=ρ) (w:=w) (lk:=lk) (ev:=ev) (ps:=ps.toList) (fun p hp=>hl p.2 (by
        simp only [Op.operands,List.toList_toArray];exact List.mem_map.2 ⟨p,hp,rfl⟩))
    refine Yld.of (s:=Instr.buildSlice t n (ps.toList.map fun p=>(p.1,ev p.2)).toArray) ?_ (vFull_sound hte h hr);show (do pure (Next.value (← Instr.buildSlice t n (ps.map fun (i,x)=>(i,ev x))))) = _
    congr 2
    apply Array.toList_inj.1;simp
  · exact Yld.of rfl (vLoad_sound hte h (hl _ (by simp [Op.operands])) hob)
  · rename_i x;have hx:=hl x (by simp [Op.operands]);unfold vNil at h ⊢;split at h
    · rename_i e;rw [e] at hx;obtain ⟨b,off,cs,hv,hr⟩:=id hx;exact Yld.of (s:=pure (ev x)) (by show (match ev x with|.pointer none|.nilIface|.nilFunc=>_|.func (.method _) _ _=>_|_=>_) = _;rw [hv];rfl) (.quiet rfl hx trivial)
    · rename_i e;rw [e] at hx;obtain ⟨b,_,hv⟩:=id hx;exact Yld.of (s:=pure (ev x)) (by show (match ev x with|.pointer none|.nilIface|.nilFunc=>_|.func (.method _) _ _=>_|_=>_) = _;rw [hv];rfl) (.quiet rfl hx trivial)
    · rename_i e;rw [e] at hx;obtain ⟨b,m,cap,_,hv⟩:=id hx;exact Yld.of (s:=pure (ev x)) (by show (match ev x with|.pointer none|.nilIface|.nilFunc=>_|.func (.method _) _ _=>_|_=>_) = _;rw [hv];rfl) (.quiet rfl hx trivial)
    · rename_i e;rw [e] at hx;obtain ⟨b,m,cap,_,hv⟩:=id hx;exact Yld.of (s:=pure (ev x)) (by show (match ev x with|.pointer none|.nilIface|.nilFunc=>_|.func (.method _) _ _=>_|_=>_) = _;rw [hv];rfl) (.quiet rfl hx trivial)
    · rename_i e;rw [e] at hx;obtain ⟨z,hv,_⟩:=id hx;exact Yld.of (s:=pure (ev x)) (by show (match ev x with|.pointer none|.nilIface|.nilFunc=>_|.func (.method _) _ _=>_|_=>_) = _;rw [hv];rfl) (.quiet rfl hx trivial)
    · rename_i e;rw [e] at hx;obtain ⟨z,hv,_⟩:=id hx;exact Yld.of (s:=pure (ev x)) (by show (match ev x with|.pointer none|.nilIface|.nilFunc=>_|.func (.method _) _ _=>_|_=>_) = _;rw [hv];rfl) (.quiet rfl hx trivial)
    · rename_i e;rw [e] at hx;obtain ⟨z,y,hv,_⟩:=id hx;exact Yld.of (s:=pure (ev x)) (by show (match ev x with|.pointer none|.nilIface|.nilFunc=>_|.func (.method _) _ _=>_|_=>_) = _;rw [hv];rfl) (.quiet rfl hx trivial)
    · rename_i e;rw [e] at hx;obtain ⟨z,y,q,hv,_⟩:=id hx;exact Yld.of (s:=pure (ev x)) (by show (match ev x with|.pointer none|.nilIface|.nilFunc=>_|.func (.method _) _ _=>_|_=>_) = _;rw [hv];rfl) (.quiet rfl hx trivial)
    · rename_i e;rw [e] at hx;obtain ⟨b,off,z,hv,_⟩:=id hx;exact Yld.of (s:=pure (ev x)) (by show (match ev x with|.pointer none|.nilIface|.nilFunc=>_|.func (.method _) _ _=>_|_=>_) = _;rw [hv];rfl) (.quiet rfl hx trivial)
    · rename_i e;rw [e] at hx;have hv : ev x = _:=hx;exact Yld.of (s:=pure (ev x)) (by show (match ev x with|.pointer none|.nilIface|.nilFunc=>_|.func (.method _) _ _=>_|_=>_) = _;rw [hv];rfl) (.quiet rfl hx trivial)
    · rename_i e;rw [e] at hx;have hv : ev x = _:=hx;exact Yld.of (s:=pure (ev x)) (by show (match ev x with|.pointer none|.nilIface|.nilFunc=>_|.func (.method _) _ _=>_|_=>_) = _;rw [hv];rfl) (.quiet rfl hx trivial)
    · exact h.elim
  · rename_i op' t x y yt;have:=vBin_sound (P:=P) (ox:=x) (oy:=y) hte h (fun e=>by simpa using e) (hl x (by simp [Op.operands])) (hl y (by simp [Op.operands]));refine Yld.of ?_ this;show (do let r ← (do eqGuard op' t x y (ev x) (ev y);binOp op' t (ev x) (ev y));pure (Next.value r)) = _;rfl
  · exact Yld.of rfl (vUn_sound h (hl _ (by simp [Op.operands])))
  · exact Yld.of rfl (vCnv_sound hte h (hl _ (by simp [Op.operands])))
  · exact Yld.of rfl (vIfc_sound hte h (hl _ (by simp [Op.operands])))
  · rename_i fn first caps
    have nil : ∀ {xs : List Operand},mapL lk xs = [] → xs = []:=fun {xs} h=>by cases xs;rfl;cases h
    unfold vFun at h ⊢;split at h
    · rename_i f e1 e2;have e1:=nil e1;have e2:=nil e2;have a1 : first = #[]:=by apply Array.toList_inj.1;rw [e1]
      have a2 : caps = #[]:=by apply Array.toList_inj.1;rw [e2]
      subst a1 a2;exact Yld.of (s:=pure (.func (.func f) #[] #[])) (by simp [execOp,Instr.makeFunc]) (.quiet rfl rfl trivial)
    · exact h.elim
    · rename_i f c hne e1 e2;have e1:=nil e1;have a1 : first = #[]:=by apply Array.toList_inj.1;rw [e1]
      have e3 : ∃ x,caps.toList = [x] ∧ lk x = .one c:=by
        cases hc : caps.toList with
        | nil=>rw [hc] at e2;cases e2
        | cons x r =>
          rw [hc] at e2;simp only [mapL,List.cons.injEq] at e2;have:=nil e2.2;subst this;exact ⟨x,rfl,e2.1⟩
      obtain ⟨x,e3,e4⟩:=e3;have a2 : caps = #[x]:=by apply Array.toList_inj.1;rw [e3]
      subst a1 a2;have hx:=hl x (by simp [Op.operands]);rw [e4] at hx;exact Yld.of (s:=pure (.func (.func f) #[] #[ev x])) (by simp [execOp,Instr.makeFunc]) (.quiet rfl ⟨_,rfl,hx⟩ trivial)
    · exact h.elim
    · exact h.elim
    · rename_i f c d hn1 hn2 e1 e2;have e1:=nil e1;have a1 : first = #[]:=by apply Array.toList_inj.1;rw [e1]
      have e3 : ∃ x y,caps.toList = [x,y] ∧ lk x = .one c ∧ lk y = .one d:=by
        cases hc : caps.toList with
        | nil=>rw [hc] at e2;cases e2
        | cons x r =>
          rw [hc] at e2;cases r with
          | nil=>simp only [mapL,List.cons.injEq] at e2;cases e2.2
          | cons y r =>
            simp only [mapL,List.cons.injEq] at e2;have:=nil e2.2.2;subst this;exact ⟨x,y,rfl,e2.1,e2.2.1⟩
      obtain ⟨x,y,e3,e4,e5⟩:=e3;have a2 : caps = #[x,y]:=by apply Array.toList_inj.1;rw [e3]
      subst a1 a2;have hx:=hl x (by simp [Op.operands]);have hy:=hl y (by simp [Op.operands]);rw [e4] at hx;rw [e5] at hy;exact Yld.of (s:=pure (.func (.func f) #[] #[ev x,ev y])) (by simp [execOp,Instr.makeFunc]) (.quiet rfl ⟨_,_,rfl,hx,hy⟩ trivial)
    · rename_i f c d k e1 e2;have e1:=nil e1;have a1 : first = #[]:=by apply Array.toList_inj.1;rw [e1]
      have e3 : ∃ x y z,caps.toList = [x,y,z] ∧ lk x = .one c ∧ lk y = .one d ∧ lk z = .one k:=by
        cases hc : caps.toList with
        | nil=>rw [hc] at e2;cases e2
        | cons x r =>
          rw [hc] at e2;cases r with
          | nil=>simp only [mapL,List.cons.injEq] at e2;cases e2.2
          | cons y r =>
            cases r with
            | nil=>simp only [mapL,List.cons.injEq] at e2;cases e2.2.2
            | cons z r =>
              simp only [mapL,List.cons.injEq] at e2;have:=nil e2.2.2.2;subst this;exact ⟨x,y,z,rfl,e2.1,e2.2.1,e2.2.2.1⟩
      obtain ⟨x,y,z,e3,e4,e5,e6⟩:=e3;have a2 : caps = #[x,y,z]:=by apply Array.toList_inj.1;rw [e3]
      subst a1 a2;have hx:=hl x (by simp [Op.operands]);have hy:=hl y (by simp [Op.operands]);have hz:=hl z (by simp [Op.operands]);rw [e4] at hx;rw [e5] at hy;rw [e6] at hz;exact Yld.of (s:=pure (.func (.func f) #[] #[ev x,ev y,ev z])) (by simp [execOp,Instr.makeFunc]) (.quiet rfl ⟨_,_,_,rfl,hx,hy,hz⟩ trivial)
    · exact h.elim
  · rename_i t x lo hi;refine Yld.of rfl (vSlice_sound hte h (hl x (by simp [Op.operands])) (lkO_rep fun y hy=>hl y (by
      cases lo <;> simp_all [Op.operands])) (lkO_rep fun y hy=>hl y (by
      cases hi <;> simp_all [Op.operands])))
  · exact Yld.of rfl (vCut3_sound hte h (hl _ (by simp [Op.operands])) (hl _ (by simp [Op.operands])) (hl _ (by simp [Op.operands])))
  · exact Yld.of rfl (vFld_sound hte h (hl _ (by simp [Op.operands])))
  · exact Yld.of rfl (vField_sound hte h (hl _ (by simp [Op.operands])))
  · exact Yld.of rfl (vLook_sound hte hob h (hl _ (by simp [Op.operands])) (hl _ (by simp [Op.operands])))
  · exact Yld.of rfl (vIdxA_sound hte h (hl _ (by simp [Op.operands])) (hl _ (by simp [Op.operands])) hob)
  · exact Yld.of rfl (vIdx_sound hte h (hl _ (by simp [Op.operands])) (hl _ (by simp [Op.operands])))
  · exact Yld.of rfl (vAss_sound hte h (hl _ (by simp [Op.operands])))
  · exact Yld.of rfl (vExt_sound h (hl _ (by simp [Op.operands])))
  · rename_i b args argTypes;unfold vBi at h ⊢;split at h
    · rename_i x t e1 e2;have a1 : args = #[x]:=by apply Array.toList_inj.1;rw [e1]
      have a2 : argTypes = #[t]:=by apply Array.toList_inj.1;rw [e2]
      subst a1 a2;exact Yld.of (s:=Builtin.len_ #[t] ty #[ev x]) (by simp [execOp,resolve,invoke,builtin]) (vLen_sound hte h (hl x (by simp [Op.operands,Call.operands])) hob)
    · rename_i x y e1;have a1 : args = #[x,y]:=by apply Array.toList_inj.1;rw [e1]
      subst a1;exact Yld.of (s:=Builtin.min_ argTypes ty #[ev x,ev y]) (by simp [execOp,resolve,invoke,builtin]) (vMin_sound h (hl x (by simp [Op.operands,Call.operands])) (hl y (by simp [Op.operands,Call.operands])))
    · rename_i x y e1;have a1 : args = #[x,y]:=by apply Array.toList_inj.1;rw [e1]
      subst a1;exact Yld.of (s:=Builtin.max_ argTypes ty #[ev x,ev y]) (by simp [execOp,resolve,invoke,builtin]) (vMax_sound h (hl x (by simp [Op.operands,Call.operands])) (hl y (by simp [Op.operands,Call.operands])))
    · exact h.elim
  · exact h.elim
end
abbrev Tm:=List (Nat × A)
abbrev Obs:=List (Nat × Ob)
def get : Tm → Nat → A
  | [],_=>.one .any
  | p :: r,i=>match Nat.beq p.1 i with
    | true=>p.2
    | false=>get r i
def look (tm : Tm) : Operand → A
  | .tmp t=>get tm t
  | .const v=>.one (.lit v)
  | .global g=>.one (.lit (.pointer (some ⟨g,0,none⟩)))
  | .func f=>.one (.lit (.func (.func f) #[] #[]))
def put (N : Nat) (d : Option Nat) (v : A) (tm : Tm) (K : Tm → Prop) : Prop :=
  match d with
  | none=>K tm
  | some d=>match Nat.ble (d + 1) N with
    | true=>K ((d,v) :: tm)
    | false=>False
structure Cx where
  ok0 : Oks
  nm : Nat → Option Value
  w0 : World
  N : Nat
  nx0 : Nat
  hids : List (Nat × Obj)
  fr : Bool
def blk : Option Value → Option Nat
  | some (.pointer (some a))=>some a.block
  | some (.slice (some a) _ _)=>some a.block
  | some (.map (some r))=>some r
  | _=>none
def okOf (cx : Cx) (ρ : Nat → Option Value) (ob : Obs) : Oks:=fun k b=>(cx.ok0 k b ∨ (cx.w0.heap.size ≤ b ∧ frK k) ∨ (frK k ∧ ∃ i,i < cx.nx0 ∧ blk (cx.nm i) = some b)) ∧ ∀ p ∈ ob,blk (ρ p.1) ≠ some b
def Cx.flag (cx : Cx) : Prop:=1000000 ≤ cx.nx0 ∧ cx.nm cx.nx0 = some (.agg #[])
def Cx.bag (cx : Cx) (b : Nat) : Prop:=cx.flag ∧ cx.ok0 7 b
def BagOk (cx : Cx) : Prop:=∀ b,cx.bag b → b < cx.w0.heap.size ∧ ∀ k,k ≠ 7 → ¬ cx.ok0 k b
theorem BagOk.low {cx : Cx} (h : cx.nx0 < 1000000) : BagOk cx:=fun _ hb=>absurd hb.1.1 (by omega)
theorem wE {cx : Cx} (h : cx.nm cx.nx0 = none) : ¬ cx.flag:=fun hf=>by have:=hf.2;rw [h] at this;cases this
theorem BagOk.none {cx : Cx} (h : cx.nm cx.nx0 = none) : BagOk cx:=fun _ hb=>absurd hb.1 (wE h)
def nGlob : Nat:=1
def cT (w : World) : Prop:=∃ m,w.cell? ⟨0,0,none⟩ = some (.int .i64 m)
def uG (w : World) : Prop:=cT w
theorem uG.max {w : World} (h : uG w) : cT w:=by
  unfold uG at h;exact h
theorem uG.kept {w w' : World} (h : uG w) (hk : ∀ g,g < nGlob → w'.heap[g]? = w.heap[g]?) : uG w':=by
  have e : ∀ g,g < nGlob → w'.cell? ⟨g,0,none⟩ = w.cell? ⟨g,0,none⟩:=fun g hg=>by simp only [World.cell?,hk g hg]
  unfold uG cT at h ⊢;rw [e 0 (by decide)];exact h
theorem cells_of_cell {w : World} {b : Nat} {v : Value} (h : w.cell? ⟨b,0,none⟩ = some v) : ∃ cs T f,w.heap[b]? = some (.cells cs T f):=by
  unfold World.cell? at h;cases ho : w.heap[b]? with
  | none=>simp [ho] at h
  | some o=>cases o <;> simp [ho] at h;exact ⟨_,_,_,rfl⟩
theorem uG.cells {w : World} (h : uG w) : ∀ g,g < nGlob → ∃ cs T f,w.heap[g]? = some (.cells cs T f):=by
  intro g hg;unfold nGlob at hg;unfold uG cT at h;obtain ⟨m,h⟩:=h;obtain rfl : g = 0:=by omega
  exact cells_of_cell h
def cA (ok : Oks) (w : World) : Prop:=(∀ g,g < nGlob → ok 0 g) ∧ nGlob ≤ w.heap.size ∧ uG w
def wK (w w' : World) (b : Nat) : Prop:=∀ (cs : Array Value) T f,w.heap[b]? = some (.cells cs T f) → ∃ cs' : Array Value,w'.heap[b]? = some (.cells cs' T f) ∧ cs'.size = cs.size ∧ ∀ (i : Nat) (v : Value),cs'[i]? = some v → cs[i]? = some v ∨ v.oneCell' = true
theorem wK.rfl' {w w' : World} {b : Nat} (h : w'.heap[b]? = w.heap[b]?) : wK w w' b:=fun cs _ _ e=>⟨cs,h.trans e,rfl,fun _ _ h=>.inl h⟩
theorem wK.trans {w w' w2 : World} {b : Nat} (h : wK w w' b) (k : wK w' w2 b) : wK w w2 b:=fun cs T f e=>by
  obtain ⟨cs',e',h1,h2⟩:=h cs T f e;obtain ⟨cs2,e2,h3,h4⟩:=k cs' T f e';exact ⟨cs2,e2,h3.trans h1,fun i v hv=>(h4 i v hv).elim (h2 i v) .inr⟩
structure Keep (cx : Cx) (w : World) : Prop where
  os : w.os = cx.w0.os
  tape : w.tape = cx.w0.tape
  output : w.output = cx.w0.output
  size : cx.w0.heap.size ≤ w.heap.size
  block : ∀ b,b < cx.w0.heap.size → ¬ (∃ i,i < cx.nx0 ∧ blk (cx.nm i) = some b) → ¬ cx.bag b → w.heap[b]? = cx.w0.heap[b]?
  shape : ∀ b,cx.bag b → wK cx.w0 w b
theorem Keep.below {cx : Cx} {w w' : World} (h : Keep cx w) (hg : BagOk cx) (hb : Below w.heap.size w w') : Keep cx w' :=
  ⟨hb.os.trans h.os,hb.tape.trans h.tape,hb.output.trans h.output,Nat.le_trans h.size hb.size,fun b hlt ho hg=>(hb.block b (Nat.lt_of_lt_of_le hlt h.size)).trans (h.block b hlt ho hg),fun b hbg=>(h.shape b hbg).trans (.rfl' (hb.block b (Nat.lt_of_lt_of_le (hg b hbg).1 h.size)))⟩
def Obj.noCells (o : Obj) : Prop:=(∀ cs T f,o ≠ .cells cs T f) ∧ ∀ es c,o ≠ .map es c
def Defs (M : Nat → Prop) : List Deferred → World → Prop
  | [],_=>True
  | d :: ds,w=>(∃ b,d = { target:=.collected b,args:=#[] } ∧ M b ∧ w.heap[b]? = some (Obj.deferred (some [])) ∧ ∀ e ∈ ds,e ≠ d) ∧ Defs M ds w
theorem Defs.imp {M M' : Nat → Prop} {w : World} : ∀ {ds : List Deferred},(∀ b,M b → w.heap[b]? = some (Obj.deferred (some [])) → { target:=.collected b,args:=#[] } ∈ ds → M' b) → Defs M ds w → Defs M' ds w
  | [],_,_=>trivial
  | d :: ds,hm,h=>by
    obtain ⟨⟨b,h1,h2,h3,h4⟩,h5⟩:=h;exact ⟨⟨b,h1,hm b h2 h3 (h1 ▸ List.mem_cons_self),h3,h4⟩,h5.imp fun b h1 h2 h3=>hm b h1 h2 (List.mem_cons_of_mem _ h3)⟩
def Cx.mark (cx : Cx) (b : Nat) : Prop:=cx.w0.heap.size ≤ b ∨ (b,Obj.deferred (some [])) ∈ cx.hids
def HidOk (hs : List (Nat × Obj)) (w : World) : Prop:=∀ q ∈ hs,w.heap[q.1]? = some q.2 ∧ Obj.noCells q.2
def uL (cx : Cx) (ds : List Deferred) (w : World) : Prop:=((cx.fr = true → Defs cx.mark ds w) ∧ (cx.fr = false → ds = [])) ∧ HidOk cx.hids w
theorem Defs.kept {M : Nat → Prop} {w w' : World} (hk : ∀ (b : Nat) (o : Obj),w.heap[b]? = some o → Obj.noCells o → w'.heap[b]? = w.heap[b]?) : ∀ {ds : List Deferred},Defs M ds w → Defs M ds w'
  | [],_=>trivial
  | _ :: _,h=>by
    obtain ⟨⟨b,h1,h2,h3,h4⟩,h5⟩:=h;exact ⟨⟨b,h1,h2,(hk b _ h3 ⟨fun _ _ _ e=>(by cases e),fun _ _ e=>(by cases e)⟩).trans h3,h4⟩,h5.kept hk⟩
theorem HidOk.kept {hs : List (Nat × Obj)} {w w' : World} (hk : ∀ (b : Nat) (o : Obj),w.heap[b]? = some o → Obj.noCells o → w'.heap[b]? = w.heap[b]?) (h : HidOk hs w) : HidOk hs w' :=
  fun q hq=>⟨(hk _ _ (h q hq).1 (h q hq).2).trans (h q hq).1,(h q hq).2⟩
theorem uL.kept {cx : Cx} {ds : List Deferred} {w w' : World} (h : uL cx ds w) (hk : ∀ (b : Nat) (o : Obj),w.heap[b]? = some o → Obj.noCells o → w'.heap[b]? = w.heap[b]?) : uL cx ds w' :=
  ⟨⟨fun e=>(h.1.1 e).kept hk,h.1.2⟩,h.2.kept hk⟩
theorem uL.none {cx : Cx} {w : World} (h : cx.hids = []) : uL cx [] w:=⟨⟨fun _=>trivial,fun _=>rfl⟩,by rw [h];exact fun q hq=>by cases hq⟩
structure StOk (cx : Cx) (tm : Tm) (ob : Obs) (nx : Nat) (ρ : Nat → Option Value) (a : Act) (w : World) : Prop where
  size : a.tmps.size = cx.N
  defers : uL cx a.defers w
  tms : ∀ i,(get tm i).rep (okOf cx ρ ob) ρ w (a.tmps.getD i undef)
  obs : zB (okOf cx ρ ob) ρ w ob
  nd : (ob.map (·.1)).Nodup
  fresh : ∀ p ∈ ob,p.1 < nx
  names : ∀ i,nx ≤ i → ρ i = none
  nx0 : cx.nx0 ≤ nx
  sep : ∀ p ∈ ob,∀ q ∈ ob,p.1 ≠ q.1 → ∀ b,blk (ρ p.1) = some b → blk (ρ q.1) ≠ some b
  low : ∀ p ∈ ob,∀ b,blk (ρ p.1) = some b → b < w.heap.size ∧ (cx.w0.heap.size ≤ b ∨ ∃ i,i < cx.nx0 ∧ blk (cx.nm i) = some b)
  keep : Keep cx w
  disj : ∀ i b,i < cx.nx0 → blk (cx.nm i) = some b → ∀ k,¬ cx.ok0 k b
  pin : ∀ i,i < cx.nx0 → ∀ p,cx.nm i = some (.pointer p) → ρ i = cx.nm i
  glob : cA cx.ok0 cx.w0
  bags : BagOk cx
section
variable {P : Program} {te : List (TypeId × TyI)} {cx : Cx} {tm : Tm} {ob : Obs} {nx : Nat} {ρ : Nat → Option Value} {a : Act} {w w' : World}
theorem StOk.bag_own (h : StOk cx tm ob nx ρ a w) {b : Nat} (hb : cx.bag b) {p : Nat × Ob} (hp : p ∈ ob) : blk (ρ p.1) ≠ some b:=fun e=>by
  rcases (h.low p hp b e).2 with h1|⟨i,hi,h1⟩
  · have:=(h.bags b hb).1;omega
  · exact h.disj i b hi h1 7 hb.2
theorem StOk.globAt (h : StOk cx tm ob nx ρ a w) : cA (okOf cx ρ ob) w:=by
  obtain ⟨h1,h2,h3⟩:=h.glob;have hno : ∀ g,g < nGlob → ¬ ∃ i,i < cx.nx0 ∧ blk (cx.nm i) = some g:=fun g hg ⟨i,hi,e⟩=>h.disj i g hi e 0 (h1 g hg)
  refine ⟨fun g hg=>⟨.inl (h1 g hg),fun p hp e=>?_⟩,Nat.le_trans h2 h.keep.size,h3.kept fun g hg=>h.keep.block g (Nat.lt_of_lt_of_le hg h2) (hno g hg) (fun hb=>(h.bags g hb).2 0 (by decide) (h1 g hg))⟩;rcases (h.low p hp g e).2 with h4|h4
  · omega
  · exact hno g hg h4
theorem Ob.cells {ok : Oks} {ρ : Nat → Option Value} {w : World} {id b : Nat} {o : Ob} (h : o.is ok ρ w id) (hb : blk (ρ id) = some b) : ∃ o,w.heap[b]? = some o ∧ ¬ Obj.noCells o:=by
  cases o with
  | box T cs =>
    obtain ⟨b',vs,h1,h2,_⟩:=h;rw [h1] at hb;cases hb;exact ⟨_,h2,fun hn=>hn.1 _ _ _ rfl⟩
  | vec E R xs =>
    obtain ⟨v,hv,css,_,_,h3⟩:=h;rw [hv] at hb;rcases h3.2 with ⟨h4,_⟩|⟨g,cap,cur,h4,_,h6,_⟩
    · rw [h4] at hb;cases hb
    · rw [h4] at hb;cases hb;exact ⟨_,h6,fun hn=>hn.1 _ _ _ rfl⟩
  | map g R es =>
    obtain ⟨r,h1,arr,clock,h2,_⟩:=h;rw [h1] at hb;cases hb;exact ⟨_,h2,fun hn=>hn.2 _ _ rfl⟩
theorem StOk.notDef (h : StOk cx tm ob nx ρ a w) {p : Nat × Ob} (hp : p ∈ ob) {b : Nat} {o : Obj} (hd : w.heap[b]? = some o) (hn : Obj.noCells o) : some b ≠ blk (ρ p.1):=fun e=>by
  obtain ⟨o',h1,h2⟩:=Ob.cells (h.obs p hp) e.symm;rw [hd] at h1;cases h1;exact h2 hn
theorem StOk.look (h : StOk cx tm ob nx ρ a w) (x : Operand) : (look tm x).rep (okOf cx ρ ob) ρ w (a.eval x):=by
  cases x with
  | tmp t=>exact h.tms t
  | const v=>rfl
  | global g=>rfl
  | func f=>rfl
theorem Ob.kept {ok ok' : Oks} {ρ : Nat → Option Value} (hk : xI ok ok' w w') {id : Nat} {o : Ob} (hb : ∀ b,blk (ρ id) = some b → w'.heap[b]? = w.heap[b]?) (h : o.is ok ρ w id) : o.is ok' ρ w' id:=by
  cases o with
  | box T cs =>
    obtain ⟨b,vs,h1,h2,h3⟩:=h;exact ⟨b,vs,h1,by rw [hb b (by rw [h1];rfl)];exact h2,h3.kept hk⟩
  | vec E R xs =>
    obtain ⟨v,hv,css,h1,h2,h3⟩:=h;refine ⟨v,hv,css,h1,fun i hi=>R.kept hk (h2 i hi),h3.1,?_⟩;rcases h3.2 with h4|⟨g,cap,cur,h4,h5,h6,h7⟩
    · exact .inl h4
    · exact .inr ⟨g,cap,cur,h4,h5,by rw [hb g (by rw [hv,h4];rfl)];exact h6,h7⟩
  | map g R es =>
    obtain ⟨r,h1,h2⟩:=h;exact ⟨r,h1,h2.imp (hb r (by rw [h1];rfl)) fun _ _ h=>R.kept hk h⟩
theorem StOk.below (h : StOk cx tm ob nx ρ a w) (hb : Below w.heap.size w w') : StOk cx tm ob nx ρ a w':=by
  have hk : xI (okOf cx ρ ob) (okOf cx ρ ob) w w':=fun _ b ho hlt=>⟨ho,hb.block b hlt⟩
  exact ⟨h.size,h.defers.kept (fun b _ e _=>hb.block b (Array.getElem?_eq_some_iff.1 e).1),fun i=>A.kept hk (h.tms i),fun p hp=>Ob.kept hk (fun b hbk=>hb.block b (h.low p hp b hbk).1) (h.obs p hp),h.nd,h.fresh,h.names,h.nx0,h.sep,
    fun p hp b hbk=>⟨Nat.lt_of_lt_of_le (h.low p hp b hbk).1 hb.size,(h.low p hp b hbk).2⟩,h.keep.below h.bags hb,h.disj,h.pin,h.glob,h.bags⟩
theorem StOk.act (h : StOk cx tm ob nx ρ a w) {tm' : Tm} {a' : Act} (hs : a'.tmps.size = a.tmps.size) (hd : a'.defers = a.defers) (ht : ∀ i,(get tm' i).rep (okOf cx ρ ob) ρ w (a'.tmps.getD i undef)) : StOk cx tm' ob nx ρ a' w :=
  ⟨hs.trans h.size,hd ▸ h.defers,ht,h.obs,h.nd,h.fresh,h.names,h.nx0,h.sep,h.low,h.keep,h.disj,h.pin,h.glob,h.bags⟩
theorem getD_set_ne' {l : Array Value} {i j : Nat} {v d : Value} (h : i ≠ j) : (l.setIfInBounds i v).getD j d = l.getD j d:=by
  simp only [Array.getD_eq_getD_getElem?];rw [Array.getElem?_setIfInBounds_ne h]
theorem eS {l : Array Value} {i : Nat} {v d : Value} (h : i < l.size) : (l.setIfInBounds i v).getD i d = v:=by
  simp [Array.getD_eq_getD_getElem?,h]
theorem StOk.put (h : StOk cx tm ob nx ρ a w) {d : Option Nat} {v : A} {u : Value} {K : Tm → Prop} (hp : put cx.N d v tm K) (hr : v.rep (okOf cx ρ ob) ρ w u) : ∃ tm',K tm' ∧ StOk cx tm' ob nx ρ (a.put d u) w:=by
  unfold Ab.put at hp;cases d with
  | none=>exact ⟨tm,hp,h⟩
  | some d =>
    simp only at hp;split at hp
    · rename_i hlt;have hlt : d < cx.N:=Nat.lt_of_succ_le (Nat.le_of_ble_eq_true hlt);refine ⟨_,hp,h.act (by simp [Act.put]) rfl fun i=>?_⟩;simp only [get,Act.put];split
      · rename_i e;have e:=Nat.eq_of_beq_eq_true e;subst e;rw [eS (by rw [h.size];exact hlt)];exact hr
      · rename_i e;rw [getD_set_ne' (fun e'=>by subst e';simp at e)];exact h.tms i
    · exact hp.elim
theorem vG {v : A} {u : Value} (h : StOk cx tm ob nx ρ a w) (_hb : Below w.heap.size w w') (hr : v.rep (grow (okOf cx ρ ob) w) ρ w' u) : v.rep (okOf cx ρ ob) ρ w' u:=by
  refine A.kept (w:=w') (fun k b ho _=>⟨?_,rfl⟩) hr;rcases ho with ho|ho
  · exact ho
  · exact ⟨.inr (.inl ⟨Nat.le_trans h.keep.size ho.1,ho.2⟩),fun p hp e=>by have:=(h.low p hp b e).1;have:=ho.1;omega⟩
end
abbrev FR (r : Option Nat) : Fence:={ Fence.wide with round:=r }
section
variable {P : Program} {r : Option Nat} {n : Nat}
theorem calls_fr {f : FuncId} {args : Array Value} {w : World} {R : Ending → World → Prop} (h : Calls P f args w R) : CallsIn (FR r) n P f args w R:=by
  cases r with
  | none=>exact callsIn_wide.2 h
  | some l=>exact CallsIn.inRound l (callsIn_wide.2 h)
theorem rows_fr {row : String} {args : Array Value} {w : World} {R : Value → World → Prop} (h : Rows P row args w R) : RowsIn (FR r) n P row args w R:=by
  intro c cs _;obtain ⟨v,w',h1,h2⟩:=h c cs;exact ⟨v,w',h1,(stepsIn_wide (P:=P)).2 h2⟩
theorem zM : (FR r).depth.isSome = true → 1 ≤ n:=fun h=>by cases h
theorem Oper.lift {o : Oper} {a : Act} {w : World} {next : Act → World → Prop} {Q : Exit → Act → World → Prop} (hd : ∀ c,o.op ≠ .defer c) (h : o.wp P a w next Q) : o.wpIn (FR r) n P a w next Q:=by
  refine ⟨fun _ _=>trivial,?_⟩;have e : o.semAt (FR r).round a.eval = execOp a.eval o:=by
    cases r with
    | none=>exact Oper.semAt_none _ _
    | some l=>exact Oper.semAt_some l _ o hd
  rw [e];unfold Oper.wp at h
  generalize (execOp a.eval o).run P w = z at h ⊢
  cases z with
  | ok x w' =>
    cases x <;> simp only [Oper.upon] at h <;> simp only [Oper.uponIn] <;>
      first
        | exact h
        | exact ⟨zM,calls_fr h⟩
        | exact ⟨zM,rows_fr h⟩
        | exact h.elim
  | halt x w'=>cases x <;> simp only [Oper.upon] at h <;> simp only [Oper.uponIn] <;> exact h
def notDef (op : Op) : Bool:=match op with
  | .defer _=>false
  | _=>true
def vT : List Oper → Bool
  | []=>true
  | o :: r=>notDef o.op && vT r
theorem notDef_ne {op : Op} (h : notDef op = true) : ∀ c,op ≠ .defer c:=fun c e=>by
  rw [e] at h;cases h
theorem noDefer_mem {l : List Oper} (h : vT l = true) {o : Oper} (ho : o ∈ l) : notDef o.op = true:=by
  induction l with
  | nil=>cases ho
  | cons p r ih =>
    rw [vT,Bool.and_eq_true] at h;rcases List.mem_cons.1 ho with e|ho
    · rw [e];exact h.1
    · exact ih h.2 ho
theorem wpOp_fr {ops : Array Oper} {Q : Exit → Act → World → Prop} (hn : vT ops.toList = true) (hQ : ¬ LetsOut Q) {i : Nat} {K K' : Act → World → Prop} (hK : ∀ a w,K a w → K' a w) {a : Act} {w : World} (h : wpOp P ops Q i K a w) : wpOpIn (FR r) n P ops Q i K' a w:=by
  unfold wpOp at h;unfold wpOpIn;split
  · rename_i e;rw [e] at h;exact hK _ _ h
  · rename_i o e;rw [e] at h;simp only at h;split
    · rename_i hw;rw [if_pos hw] at h;rcases h with h|h
      · refine Oper.lift (notDef_ne (noDefer_mem hn ?_)) (Oper.wp_mono hK h);exact Array.mem_toList_iff.2 (Array.mem_of_getElem? e)
      · exact absurd h.2 hQ
    · rename_i hw;rw [if_neg hw] at h;exact ⟨fun _ _=>trivial,hK _ _ h⟩
theorem wpAny_fr {md : Region.Mode} {ops : Array Oper} {Q : Exit → Act → World → Prop} (hn : vT ops.toList = true) (hQ : ¬ LetsOut Q) : ∀ (fuel : Nat) (listed : Array Bool) (a : Act) (w : World),wpAny P md ops Q fuel listed a w → wpAnyIn (FR r) n P md ops Q fuel listed a w
  | 0,_,_,_,h=>h
  | fuel + 1,_,_,_,h=>⟨h.1,fun i hi=>wpOp_fr hn hQ (fun a w=>wpAny_fr hn hQ fuel _ a w) (h.2 i hi)⟩
theorem region_fr {ops : Array Oper} {Q : Exit → Act → World → Prop} {id : Nat} {a : Act} {w : World} (hm : P.follows .mixedOrders = true) (hn : vT ops.toList = true) (hQ : ¬ LetsOut Q)
    (h : wpAny P .any ops Q ops.size (Array.replicate ops.size false) a { w with drawn:=w.drawn + 1 }) : (Code.region id ops true).wpIn (FR r) n P Q a w :=
  wpIn_region_any hm (wpAny_fr hn hQ _ _ _ _ h)
theorem kQ {ops : Array Oper} {Q : Exit → Act → World → Prop} {o : Oper} {rest : List Oper} {a : Act} {w : World} (hg : o.guard = none) (hd : ∀ c,o.op ≠ .defer c) (h : o.wp P a w (wpListIn (FR r) n P ops Q rest) Q) : wpListIn (FR r) n P ops Q (o :: rest) a w:=by
  unfold wpListIn;rw [if_pos (by simp [Region.wanted,hg])];exact Oper.lift hd h
end
def C.sub (id : Nat) (d : C) : C → C
  | .vec i=>match Nat.beq i id with
    | true=>d
    | false=>.vec i
  | .vel i k n=>match Nat.beq i id with
    | true=>.any
    | false=>.vel i k n
  | .own i o=>match Nat.beq i id with
    | true=>match o with
      | 0=>d
      | _ + 1=>.any
    | false=>.own i o
  | .ifc t c=>.ifc t (C.sub id d c)
  | .clo f c=>.clo f (C.sub id d c)
  | .clo2 f c e=>.clo2 f (C.sub id d c) (C.sub id d e)
  | .clo3 f c e g=>.clo3 f (C.sub id d c) (C.sub id d e) (C.sub id d g)
  | .ref c=>.ref (C.sub id d c)
  | .nself u i=>match Nat.beq i id with
    | true=>.any
    | false=>.nself u i
  | .fx i u=>match Nat.beq i id with
    | true=>.any
    | false=>.fx i u
  | .vof i k n o=>match Nat.beq i id with
    | true=>.any
    | false=>.vof i k n o
  | .mp i=>match Nat.beq i id with
    | true=>d
    | false=>.mp i
  | .any=>.any
  | .lit v=>.lit v
  | .slk k R xs=>.slk k R xs
  | .full R xs=>.full R xs
  | .adk k R x=>.adk k R x
def subL (id : Nat) (d : C) : List C → List C
  | []=>[]
  | c :: r=>C.sub id d c :: subL id d r
def subT (id : Nat) (d : C) : List (Bool × List C) → List (Bool × List C)
  | []=>[]
  | p :: r=>(p.1,subL id d p.2) :: subT id d r
def A.sub (id : Nat) (d : C) : A → A
  | .one c=>.one (C.sub id d c)
  | .agg cs=>.agg (subL id d cs)
  | .tup cs=>.tup (subT id d cs)
  | .cond b a=>.cond b (a.sub id d)
def vF (id : Nat) (d : C) : Tm → Tm
  | []=>[]
  | p :: r=>(p.1,p.2.sub id d) :: vF id d r
def Ob.sub (id : Nat) (d : C) : Ob → Ob
  | .box T cs=>.box T (subL id d cs)
  | .vec E R xs=>.vec E R xs
  | .map g R es=>.map g R es
def kG (id : Nat) (d : C) : Obs → Obs
  | []=>[]
  | p :: r=>(p.1,p.2.sub id d) :: kG id d r
def jF (id : Nat) : Obs → Obs
  | []=>[]
  | p :: r=>match Nat.beq p.1 id with
    | true=>jF id r
    | false=>p :: jF id r
def setO (id : Nat) (o : Ob) : Obs → Obs
  | []=>[]
  | p :: r=>match Nat.beq p.1 id with
    | true=>(p.1,o) :: r
    | false=>p :: setO id o r
section
variable {P : Program} {te : List (TypeId × TyI)} {cx : Cx} {tm : Tm} {ob : Obs} {nx : Nat} {ρ ρ' : Nat → Option Value} {a : Act} {w w' : World} {ok ok' : Oks}
theorem get_sub (id : Nat) (d : C) : ∀ (tm : Tm) (i : Nat),get (vF id d tm) i = (get tm i).sub id d
  | [],_=>rfl
  | p :: r,i=>by
    simp only [vF,get];split
    · rfl
    · exact get_sub id d r i
structure Sub (id : Nat) (d : C) (ok ok' : Oks) (ρ ρ' : Nat → Option Value) (w w' : World) : Prop where
  at_ : ∀ v,ρ id = some v → d.rep ok' ρ' w' v
  names : ∀ i v,i ≠ id → ρ i = some v → ρ' i = some v
  keeps : xI ok ok' w w'
theorem C.sub_rep {id : Nat} {d : C} (h : Sub id d ok ok' ρ ρ' w w') : ∀ {c : C} {v : Value},c.rep ok ρ w v → (C.sub id d c).rep ok' ρ' w' v
  | .any,_,_=>trivial
  | .lit _,_,hr=>hr
  | .slk k R xs,v,hr=>C.kept (c:=.slk k R xs) (ρ:=ρ') h.keeps hr
  | .full R xs,v,hr=>C.kept (c:=.full R xs) (ρ:=ρ') h.keeps hr
  | .adk k R x,v,hr=>C.kept (c:=.adk k R x) (ρ:=ρ') h.keeps hr
  | .own i o,v,hr=>by
    unfold C.sub;obtain ⟨b,h1,h2⟩:=hr;split
    · rename_i e;have e:=Nat.eq_of_beq_eq_true e;subst e;split
      · rw [h2];exact h.at_ _ h1
      · trivial
    · rename_i e;exact ⟨b,h.names _ _ (fun e'=>by subst e';simp at e) h1,h2⟩
  | .vec i,v,hr=>by
    unfold C.sub;split
    · rename_i e;have e:=Nat.eq_of_beq_eq_true e;subst e;exact h.at_ _ hr.1
    · rename_i e;exact ⟨h.names _ _ (fun e'=>by subst e';simp at e) hr.1,hr.2⟩
  | .mp i,v,hr=>by
    unfold C.sub;split
    · rename_i e;have e:=Nat.eq_of_beq_eq_true e;subst e;exact h.at_ _ hr.1
    · rename_i e;exact ⟨h.names _ _ (fun e'=>by subst e';simp at e) hr.1,hr.2⟩
  | .vel i k n,v,hr=>by
    unfold C.sub;split
    · trivial
    · rename_i e;obtain ⟨b,m,cap,h1,h2⟩:=hr;exact ⟨b,m,cap,h.names _ _ (fun e'=>by subst e';simp at e) h1,h2⟩
  | .ifc t c,v,hr=>by obtain ⟨u,hv,hr⟩:=hr;exact ⟨u,hv,C.sub_rep h hr⟩
  | .clo f c,v,hr=>by obtain ⟨u,hv,hr⟩:=hr;exact ⟨u,hv,C.sub_rep h hr⟩
  | .clo2 f c d,v,hr=>by obtain ⟨u,x,hv,hr,hr'⟩:=hr;exact ⟨u,x,hv,C.sub_rep h hr,C.sub_rep h hr'⟩
  | .clo3 f c d e,v,hr=>by obtain ⟨u,x,y,hv,hr,hr',hr''⟩:=hr;exact ⟨u,x,y,hv,C.sub_rep h hr,C.sub_rep h hr',C.sub_rep h hr''⟩
  | .ref c,v,hr=>by
    obtain ⟨b,off,u,hv,hb,hlt,hc,hr⟩:=hr;have hkb:=h.keeps 0 b hb hlt;exact ⟨b,off,u,hv,hkb.1,kL hkb.2 hlt,hc.of_block hkb.2,C.sub_rep h hr⟩
  | .nself u i,v,hr=>by
    unfold C.sub;split
    · trivial
    · rename_i e;exact ⟨fun e2=>by obtain ⟨b,h1,h2⟩:=hr.1 e2;exact ⟨b,h.names _ _ (fun e'=>by subst e';simp at e) h1,h2⟩,hr.2⟩
  | .fx i u,v,hr=>by
    unfold C.sub;split
    · trivial
    · rename_i e;exact h.names _ _ (fun e'=>by subst e';simp at e) hr
  | .vof i k n o,v,hr=>by
    unfold C.sub;split
    · trivial
    · rename_i e;obtain ⟨b,m,cap,h1,h2⟩:=hr;exact ⟨b,m,cap,h.names _ _ (fun e'=>by subst e';simp at e) h1,h2⟩
theorem eE {id : Nat} {d : C} (h : Sub id d ok ok' ρ ρ' w w') : ∀ {cs : List C} {vs : List Value},repL ok ρ w cs vs → repL ok' ρ' w' (subL id d cs) vs
  | [],_,hr=>hr
  | _ :: _,_,hr=>by
    obtain ⟨v,r,e,h1,h2⟩:=hr;exact ⟨v,r,e,C.sub_rep h h1,eE h h2⟩
theorem subV_rep {id : Nat} {d : C} (h : Sub id d ok ok' ρ ρ' w w') : ∀ {g : Bool} {cs : List C} {v : Value},repV ok ρ w g cs v → repV ok' ρ' w' g (subL id d cs) v
  | true,_,_,hr=>by obtain ⟨vs,e,hr⟩:=hr;exact ⟨vs,e,eE h hr⟩
  | false,_,_,hr=>eE h hr
theorem subT_rep {id : Nat} {d : C} (h : Sub id d ok ok' ρ ρ' w w') : ∀ {cs : List (Bool × List C)} {vs : List Value},repT ok ρ w cs vs → repT ok' ρ' w' (subT id d cs) vs
  | [],_,hr=>hr
  | _ :: _,_,hr=>by
    obtain ⟨v,r,e,h1,h2⟩:=hr;exact ⟨v,r,e,subV_rep h h1,subT_rep h h2⟩
theorem A.sub_rep {id : Nat} {d : C} (h : Sub id d ok ok' ρ ρ' w w') : ∀ {a : A} {v : Value},a.rep ok ρ w v → (a.sub id d).rep ok' ρ' w' v
  | .one _,_,hr=>C.sub_rep h hr
  | .agg _,_,hr=>subV_rep (g:=true) h hr
  | .tup _,_,hr=>by obtain ⟨vs,e,hr⟩:=hr;exact ⟨vs,e,subT_rep h hr⟩
  | .cond _ _,_,hr=>⟨fun hb=>A.sub_rep h (hr.1 hb),hr.2⟩
theorem Ob.sub_is {id : Nat} {d : C} (h : Sub id d ok ok' ρ ρ' w w') {i : Nat} (hi : i ≠ id) {o : Ob} (hb : ∀ b,blk (ρ i) = some b → w'.heap[b]? = w.heap[b]?) (ho : o.is ok ρ w i) : (o.sub id d).is ok' ρ' w' i:=by
  cases o with
  | box T cs =>
    obtain ⟨b,vs,h1,h2,h3⟩:=ho;exact ⟨b,vs,h.names _ _ hi h1,by rw [hb b (by rw [h1];rfl)];exact h2,eE h h3⟩
  | vec E R xs =>
    obtain ⟨v,hv,css,h1,h2,h3⟩:=ho;refine ⟨v,h.names _ _ hi hv,css,h1,fun i hi=>R.kept h.keeps (h2 i hi),h3.1,?_⟩;rcases h3.2 with h4|⟨g,cap,cur,h4,h5,h6,h7⟩
    · exact .inl h4
    · exact .inr ⟨g,cap,cur,h4,h5,by rw [hb g (by rw [hv,h4];rfl)];exact h6,h7⟩
  | map g R es =>
    obtain ⟨r,h1,h2⟩:=ho;exact ⟨r,h.names _ _ hi h1,h2.imp (hb r (by rw [h1];rfl)) fun _ _ hr=>R.kept h.keeps hr⟩
theorem yF : ∀ {ob : Obs} {id : Nat} {o : Ob},getO ob id = some o → (id,o) ∈ ob
  | [],_,_,h=>by cases h
  | p :: r,id,o,h=>by
    unfold getO at h;split at h
    · rename_i e;have e:=Nat.eq_of_beq_eq_true e;cases h;subst e;simp
    · exact List.mem_cons_of_mem _ (yF h)
theorem xN {id : Nat} : ∀ {ob : Obs} {p : Nat × Ob},p ∈ jF id ob ↔ p ∈ ob ∧ p.1 ≠ id
  | [],p=>by simp [jF]
  | q :: r,p=>by
    unfold jF;split
    · rename_i e;have e:=Nat.eq_of_beq_eq_true e;rw [xN (ob:=r)]
      constructor
      · rintro ⟨h1,h2⟩;exact ⟨by simp [h1],h2⟩
      · rintro ⟨h1,h2⟩
        rcases List.mem_cons.1 h1 with h1|h1
        · subst h1;exact absurd e h2
        · exact ⟨h1,h2⟩
    · rename_i e;rw [List.mem_cons,xN (ob:=r),List.mem_cons]
      constructor
      · rintro (h1|⟨h1,h2⟩)
        · subst h1;exact ⟨.inl rfl,fun e'=>by subst e';simp at e⟩
        · exact ⟨.inr h1,h2⟩
      · rintro ⟨h1|h1,h2⟩
        · exact .inl h1
        · exact .inr ⟨h1,h2⟩
theorem aN {id : Nat} : ∀ {ob : Obs},List.Sublist ((jF id ob).map (·.1)) (ob.map (·.1))
  | []=>List.Sublist.refl _
  | q :: r=>by
    unfold jF;split
    · exact List.Sublist.cons _ aN
    · exact List.Sublist.cons_cons _ aN
theorem uI {id : Nat} {d : C} : ∀ {ob : Obs} {p : Nat × Ob},p ∈ kG id d ob → ∃ q ∈ ob,p = (q.1,q.2.sub id d)
  | [],_,h=>by cases h
  | q :: r,p,h=>by
    rcases List.mem_cons.1 h with h|h
    · exact ⟨q,by simp,h⟩
    · obtain ⟨q',h1,h2⟩:=uI (ob:=r) h;exact ⟨q',by simp [h1],h2⟩
theorem wY {id : Nat} {d : C} : ∀ {ob : Obs},(kG id d ob).map (·.1) = ob.map (·.1)
  | []=>rfl
  | q :: r=>by simp [kG,wY (ob:=r)]
theorem wR {id : Nat} {o : Ob} : ∀ {ob : Obs},(setO id o ob).map (·.1) = ob.map (·.1)
  | []=>rfl
  | q :: r=>by
    unfold setO;split
    · rfl
    · simp [wR (ob:=r)]
theorem wA {id : Nat} {o : Ob} : ∀ {ob : Obs} {p : Nat × Ob},(ob.map (·.1)).Nodup → p ∈ setO id o ob → (p.1 = id ∧ p.2 = o) ∨ (p ∈ ob ∧ p.1 ≠ id)
  | [],_,_,h=>by cases h
  | q :: r,p,hn,h=>by
    simp only [List.map_cons,List.nodup_cons] at hn;unfold setO at h;split at h
    · rename_i e;have e:=Nat.eq_of_beq_eq_true e;rcases List.mem_cons.1 h with h|h
      · subst h;exact .inl ⟨e,rfl⟩
      · refine .inr ⟨by simp [h],fun e'=>hn.1 ?_⟩;rw [e,← e'];exact List.mem_map.2 ⟨p,h,rfl⟩
    · rename_i e;rcases List.mem_cons.1 h with h|h
      · subst h;exact .inr ⟨by simp,fun e'=>by subst e';simp at e⟩
      · rcases wA hn.2 h with h|h
        · exact .inl h
        · exact .inr ⟨by simp [h.1],h.2⟩
theorem StOk.erase (h : StOk cx tm ob nx ρ a w) (id : Nat) : StOk cx tm (jF id ob) nx ρ a w:=by
  have hk : xI (okOf cx ρ ob) (okOf cx ρ (jF id ob)) w w:=fun _ b ho _=>⟨⟨ho.1,fun p hp=>ho.2 p (xN.1 hp).1⟩,rfl⟩
  exact ⟨h.size,h.defers,fun i=>A.kept hk (h.tms i),fun p hp=>Ob.kept hk (fun _ _=>rfl) (h.obs p (xN.1 hp).1),h.nd.sublist aN,fun p hp=>h.fresh p (xN.1 hp).1,h.names,h.nx0,
    fun p hp q hq=>h.sep p (xN.1 hp).1 q (xN.1 hq).1,fun p hp=>h.low p (xN.1 hp).1,h.keep,h.disj,h.pin,h.glob,h.bags⟩
theorem StOk.say (h : StOk cx tm ob nx ρ a w) {id : Nat} {d : C} (hid : ∀ p ∈ ob,p.1 ≠ id) (hd : ∀ v,ρ id = some v → d.rep (okOf cx ρ ob) ρ w v) : StOk cx (vF id d tm) (kG id d ob) nx ρ a w:=by
  have hok : okOf cx ρ (kG id d ob) = okOf cx ρ ob:=by
    funext k b
    unfold okOf
    congr 1
    apply propext
    constructor
    · intro h1 p hp;have : (p.1,p.2.sub id d) ∈ kG id d ob:=by
        clear h1 hid h hd
        induction ob with
        | nil=>cases hp
        | cons q r ih =>
          rcases List.mem_cons.1 hp with hp|hp
          · subst hp;simp [kG]
          · simp only [kG,List.mem_cons];exact .inr (ih hp)
      exact h1 (p.1,p.2.sub id d) this
    · intro h1 p hp;obtain ⟨q,hq,rfl⟩:=uI hp;exact h1 q hq
  have hs : Sub id d (okOf cx ρ ob) (okOf cx ρ (kG id d ob)) ρ ρ w w:=⟨fun v hv=>by rw [hok];exact hd v hv,fun _ _ _ h=>h,fun _ b ho _=>⟨by rw [hok];exact ho,rfl⟩⟩;refine ⟨h.size,h.defers,fun i=>by rw [get_sub];exact A.sub_rep hs (h.tms i),?_,by rw [wY];exact h.nd,?_,h.names,h.nx0,?_,?_,h.keep,h.disj,h.pin,h.glob,h.bags⟩
  · intro p hp;obtain ⟨q,hq,rfl⟩:=uI hp;exact Ob.sub_is hs (hid q hq) (fun _ _=>rfl) (h.obs q hq)
  · intro p hp;obtain ⟨q,hq,rfl⟩:=uI hp;exact h.fresh q hq
  · intro p hp q hq;obtain ⟨p',hp',rfl⟩:=uI hp;obtain ⟨q',hq',rfl⟩:=uI hq;exact h.sep p' hp' q' hq'
  · intro p hp;obtain ⟨q,hq,rfl⟩:=uI hp;exact h.low q hq
theorem vec_sl (q : Nat) {α : Type} {E : TypeId} {R : Rd α} {xs : List α} {v : Value} (hv : uF ok w v E R xs) (hok : ∀ k b,ok k b → ok' k b) (hb : ∀ b,blk (some v) = some b → ok' q b) : SlOk R.n (fun cs x=>R.is ok' w cs x) (okU ok' w q) w v xs:=by
  obtain ⟨css,h1,h2,h3⟩:=hv;rcases h3.2 with ⟨rfl,h0⟩|⟨g,cap,cur,rfl,_,hg,hnc,hcm,hcs,htake⟩
  · have : xs = []:=List.length_eq_zero_iff.1 h0;subst this;exact slOk_nil
  · have hlt : g < w.heap.size:=(Array.getElem?_eq_some_iff.1 hg).1;have hk : xI ok ok' w w:=fun k b ho _=>⟨hok k b ho,rfl⟩
    refine ⟨some ⟨g,0,none⟩,cap,rfl,hnc,hcm,fun i hi=>⟨g,0,css.getD i [],rfl,⟨hb g rfl,fun _=>⟨_,_,hg⟩⟩,hlt,⟨R.len (h2 i hi),fun j hj=>?_⟩,R.kept hk (h2 i hi)⟩⟩;have hfl : ∀ c ∈ css,c.length = R.n:=by
      intro c hc;obtain ⟨j,hj,rfl⟩:=List.mem_iff_getElem.1 hc;have:=R.len (h2 j (by omega))
      simpa [List.getD,hj] using this
    have hlt2 : i * R.n + j < xs.length * R.n:=by
      have : (i + 1) * R.n ≤ xs.length * R.n:=Nat.mul_le_mul_right _ (by omega);rw [Nat.add_mul] at this;omega
    have e2 : w.cell? ⟨g,i * R.n + j,none⟩ = css.flatten[i * R.n + j]?:=h3.cellAt _ hlt2;rw [Nat.zero_add,e2];exact uC css i j hfl (by omega) hj
theorem StOk.freezek (q : Nat) (hq : frK q) (h : StOk cx tm ob nx ρ a w) {id : Nat} {α : Type} {E : TypeId} {R : Rd α} {xs : List α} (hg : getO ob id = some (.vec E R xs)) :
    StOk cx (vF id (.slk q R xs) tm) (kG id (.slk q R xs) (jF id ob)) nx ρ a w:=by
  refine (h.erase id).say (fun p hp=>(xN.1 hp).2) fun v hv=>?_
  obtain ⟨v',hv',hvec⟩ : ∃ v,ρ id = some v ∧ uF (okOf cx ρ ob) w v E R xs:=h.obs _ (yF hg);rw [hv] at hv';obtain rfl:=Option.some.inj hv';refine vec_sl q hvec (fun _ b ho=>⟨ho.1,fun p hp=>ho.2 p (xN.1 hp).1⟩) fun b hb=>⟨?_,fun p hp e=>?_⟩
  · rcases (h.low _ (yF hg) b (by rw [hv];exact hb)).2 with h1|h1
    · exact .inr (.inl ⟨h1,hq⟩)
    · exact .inr (.inr ⟨hq,h1⟩)
  · obtain ⟨hp1,hp2⟩:=xN.1 hp;exact h.sep p hp1 _ (yF hg) hp2 b e (by rw [hv];exact hb)
theorem StOk.freeze (h : StOk cx tm ob nx ρ a w) {id : Nat} {α : Type} {E : TypeId} {R : Rd α} {xs : List α} (hg : getO ob id = some (.vec E R xs)) :
    StOk cx (vF id (.sl R xs) tm) (kG id (.sl R xs) (jF id ob)) nx ρ a w:=h.freezek 0 (by decide) hg
def oneC : List C → Option C
  | [c]=>some (.ref c)
  | _=>none
def boxC (te : List (TypeId × TyI)) (T : TypeId) (cs : List C) : Option C :=
  match find te T with
  | some i=>match i.rd with
    | some ⟨_,R⟩=>match ofL R cs with
      | some (x,[])=>some (.addr R x)
      | _=>oneC cs
    | none=>oneC cs
  | none=>oneC cs
theorem oneC_rep {ok' : Oks} {cs : List C} {d : C} (h : oneC cs = some d) {b : Nat} {T : TypeId} {vs : List Value} (hb : ok' 0 b) (hlt : b < w.heap.size) (hh : w.heap[b]? = some (.cells (vs.toArray : Array Value) T (0,0))) (hr : repL ok' ρ w cs vs) :
    d.rep ok' ρ w (.pointer (some ⟨b,0,none⟩)):=by
  unfold oneC at h;split at h
  · cases h;obtain ⟨v,r,rfl,h1,h2⟩:=hr;rw [show r = [] from h2] at hh;refine ⟨b,0,v,rfl,hb,hlt,⟨rfl,fun j hj=>?_⟩,h1⟩;simp only [World.cell?,hh,Option.isSome_none,Bool.false_eq_true,if_false,List.getElem?_toArray,Nat.zero_add]
  · cases h
theorem boxC_rep {ok' : Oks} {T : TypeId} {cs : List C} {d : C} (h : boxC te T cs = some d) {b : Nat} {vs : List Value} (hb : ok' 0 b) (hlt : b < w.heap.size) (hh : w.heap[b]? = some (.cells (vs.toArray : Array Value) T (0,0))) (hr : repL ok' ρ w cs vs) :
    d.rep ok' ρ w (.pointer (some ⟨b,0,none⟩)):=by
  unfold boxC at h;split at h
  · split at h
    · rename_i R _;split at h
      · rename_i x hx;cases h;obtain ⟨us,r,e1,hus,hr'⟩:=jZ R hx hr;have hr0 : r = []:=hr';rw [hr0,List.append_nil] at e1;subst e1;refine ⟨b,0,vs,rfl,okU0 hb,hlt,⟨R.len hus,fun j _=>?_⟩,hus⟩;simp only [World.cell?,hh,Option.isSome_none,Bool.false_eq_true,if_false,List.getElem?_toArray,Nat.zero_add]
      · exact oneC_rep h hb hlt hh hr
    · exact oneC_rep h hb hlt hh hr
  · exact oneC_rep h hb hlt hh hr
theorem StOk.freezeBox (h : StOk cx tm ob nx ρ a w) {id : Nat} {T : TypeId} {cs : List C} {d : C} (hg : getO ob id = some (.box T cs)) (hd : boxC te T cs = some d) :
    StOk cx (vF id d tm) (kG id d (jF id ob)) nx ρ a w:=by
  refine (h.erase id).say (fun p hp=>(xN.1 hp).2) fun v hv=>?_
  obtain ⟨b,vs,hv',hh,hr⟩:=h.obs _ (yF hg);rw [hv] at hv';obtain rfl:=Option.some.inj hv';have hk : xI (okOf cx ρ ob) (okOf cx ρ (jF id ob)) w w:=fun _ b ho _=>⟨⟨ho.1,fun p hp=>ho.2 p (xN.1 hp).1⟩,rfl⟩
  refine boxC_rep hd (b:=b) ⟨?_,fun p hp e=>?_⟩ (Array.getElem?_eq_some_iff.1 hh).1 hh (hr.kept hk)
  · rcases (h.low _ (yF hg) b (by rw [hv];rfl)).2 with h1|h1
    · exact .inr (.inl ⟨h1,by decide⟩)
    · exact .inr (.inr ⟨by decide,h1⟩)
  · obtain ⟨hp1,hp2⟩:=xN.1 hp;exact h.sep p hp1 _ (yF hg) hp2 b e (by rw [hv];rfl)
end
def upd (ρ : Nat → Option Value) (id : Nat) (v : Value) : Nat → Option Value:=fun i=>if i = id then some v else ρ i
theorem xF {ρ : Nat → Option Value} {id : Nat} {v : Value} : upd ρ id v id = some v:=if_pos rfl
theorem kW {ρ : Nat → Option Value} {id i : Nat} {v : Value} (h : i ≠ id) : upd ρ id v i = ρ i:=if_neg h
section
variable {P : Program} {te : List (TypeId × TyI)} {cx : Cx} {tm : Tm} {ob : Obs} {nx : Nat} {ρ ρ' : Nat → Option Value} {a : Act} {w w' : World} {ok ok' : Oks}
theorem zH (h : StOk cx tm ob nx ρ a w) : ∀ p ∈ ob,p.1 ≠ nx:=fun p hp e=>by have:=h.fresh p hp;omega
theorem upd_names (h : StOk cx tm ob nx ρ a w) (v : Value) : Names ρ (upd ρ nx v):=by
  intro i u hi
  by_cases e : i = nx
  · subst e;rw [h.names i (Nat.le_refl _)] at hi;cases hi
  · rw [kW e];exact hi
theorem okOf_new (h : StOk cx tm ob nx ρ a w) {v : Value} {o : Ob} (hb : ∀ b,blk (some v) = some b → w.heap.size ≤ b) (hbw : Below w.heap.size w w') :
    xI (okOf cx ρ ob) (okOf cx (upd ρ nx v) ((nx,o) :: ob)) w w':=by
  intro _ b ho hlt;refine ⟨⟨ho.1,fun p hp e=>?_⟩,hbw.block b hlt⟩;rcases List.mem_cons.1 hp with hp|hp
  · subst hp;rw [xF] at e;have:=hb b e;omega
  · rw [kW (zH h p hp)] at e;exact ho.2 p hp e
theorem StOk.new (h : StOk cx tm ob nx ρ a w) {v : Value} {o : Ob} (hbw : Below w.heap.size w w') (hb : ∀ b,blk (some v) = some b → w.heap.size ≤ b ∧ b < w'.heap.size)
    (ho : o.is (okOf cx (upd ρ nx v) ((nx,o) :: ob)) (upd ρ nx v) w' nx) : StOk cx tm ((nx,o) :: ob) (nx + 1) (upd ρ nx v) a w':=by
  have hk:=okOf_new (o:=o) h (fun b e=>(hb b e).1) hbw;have hn:=upd_names h v;refine ⟨h.size,h.defers.kept (fun b _ e _=>hbw.block b (Array.getElem?_eq_some_iff.1 e).1),fun i=>A.kept hk (A.names hn (h.tms i)),?_,?_,?_,?_,Nat.le_succ_of_le h.nx0,?_,?_,h.keep.below h.bags hbw,h.disj,fun i hi p e=>by rw [kW (Nat.ne_of_lt (Nat.lt_of_lt_of_le hi h.nx0))];exact h.pin i hi p e,h.glob,h.bags⟩
  · intro p hp;rcases List.mem_cons.1 hp with hp|hp
    · subst hp;exact ho
    · have h1:=h.obs p hp;have hs : (∀ i v',i ≠ nx → ρ i = some v' → upd ρ nx v i = some v'):=fun i v' hi e=>by rw [kW hi];exact e
      have hold : ∀ b,blk (ρ p.1) = some b → w'.heap[b]? = w.heap[b]?:=fun b hb=>hbw.block b (h.low p hp b hb).1
      cases hpo : p.2 with
      | box T cs =>
        rw [hpo] at h1;obtain ⟨b,vs,h2,h3,h4⟩:=h1;exact ⟨b,vs,hn _ _ h2,by rw [hold b (by rw [h2];rfl)];exact h3,(h4.names hn).kept hk⟩
      | vec E R xs =>
        rw [hpo] at h1;have:=Ob.kept (o:=.vec E R xs) hk hold h1;obtain ⟨u,hu,hv⟩:=this;exact ⟨u,hn _ _ hu,hv⟩
      | map g R es =>
        rw [hpo] at h1;have:=Ob.kept (o:=.map g R es) hk hold h1;obtain ⟨u,hu,hv⟩:=this;exact ⟨u,hn _ _ hu,hv⟩
  · simp only [List.map_cons,List.nodup_cons];refine ⟨fun hm=>?_,h.nd⟩;obtain ⟨p,hp,e⟩:=List.mem_map.1 hm;exact zH h p hp e
  · intro p hp;rcases List.mem_cons.1 hp with hp|hp
    · subst hp;exact Nat.lt_succ_self _
    · exact Nat.lt_succ_of_lt (h.fresh p hp)
  · intro i hi;rw [kW (by omega)];exact h.names i (by omega)
  · intro p hp q hq hne b e1 e2;rcases List.mem_cons.1 hp with hp|hp
    · subst hp;rcases List.mem_cons.1 hq with hq|hq
      · subst hq;exact hne rfl
      · rw [xF] at e1;rw [kW (zH h q hq)] at e2;have:=(hb b e1).1;have:=(h.low q hq b e2).1;omega
    · rw [kW (zH h p hp)] at e1;rcases List.mem_cons.1 hq with hq|hq
      · subst hq;rw [xF] at e2;have:=(hb b e2).1;have:=(h.low p hp b e1).1;omega
      · rw [kW (zH h q hq)] at e2;exact h.sep p hp q hq hne b e1 e2
  · intro p hp b e;rcases List.mem_cons.1 hp with hp|hp
    · subst hp;rw [xF] at e;exact ⟨(hb b e).2,.inl (Nat.le_trans h.keep.size (hb b e).1)⟩
    · rw [kW (zH h p hp)] at e;exact ⟨Nat.lt_of_lt_of_le (h.low p hp b e).1 hbw.size,(h.low p hp b e).2⟩
structure Grew (w w' : World) (row : Option Nat) : Prop where
  os : w'.os = w.os
  tape : w'.tape = w.tape
  output : w'.output = w.output
  size : w.heap.size ≤ w'.heap.size
  block : ∀ k,k < w.heap.size → some k ≠ row → w'.heap[k]? = w.heap[k]?
theorem wT (h : StOk cx tm ob nx ρ a w) {id : Nat} {o o' : Ob} (hg : getO ob id = some o) {v' : Value} (hgr : Grew w w' (blk (ρ id))) (hb : ∀ b,blk (some v') = some b → blk (ρ id) = some b ∨ w.heap.size ≤ b) :
    xI (okOf cx ρ ob) (okOf cx (upd ρ id v') (setO id o' ob)) w w':=by
  intro _ b ho hlt;have hne : blk (ρ id) ≠ some b:=ho.2 _ (yF hg);refine ⟨⟨ho.1,fun p hp e=>?_⟩,hgr.block b hlt (fun e=>hne e.symm)⟩;rcases wA h.nd hp with ⟨hp,_⟩|⟨hp,hpn⟩
  · rw [hp,xF] at e;rcases hb b e with h1|h1
    · exact hne h1
    · omega
  · rw [kW hpn] at e;exact ho.2 p hp e
theorem wU {id : Nat} {o : Ob} : okOf cx ρ (setO id o ob) = okOf cx ρ ob:=by
  funext _ b
  unfold okOf
  congr 1
  apply propext;have hk:=wR (id:=id) (o:=o) (ob:=ob)
  constructor
  · intro h p hp;have : p.1 ∈ (setO id o ob).map (·.1):=by rw [hk];exact List.mem_map.2 ⟨p,hp,rfl⟩
    obtain ⟨q,hq,e⟩:=List.mem_map.1 this;rw [← e];exact h q hq
  · intro h p hp;have : p.1 ∈ ob.map (·.1):=by rw [← hk];exact List.mem_map.2 ⟨p,hp,rfl⟩
    obtain ⟨q,hq,e⟩:=List.mem_map.1 this;rw [← e];exact h q hq
theorem StOk.swap (h : StOk cx tm ob nx ρ a w) {id : Nat} {α : Type} {E : TypeId} {R : Rd α} {xs : List α} {o' : Ob} (hg : getO ob id = some (.vec E R xs)) {v' : Value} (hgr : Grew w w' (blk (ρ id))) (hb : ∀ b,blk (some v') = some b → blk (ρ id) = some b ∨ (w.heap.size ≤ b ∧ b < w'.heap.size))
    (ho : o'.is (okOf cx (upd ρ id v') (setO id o' ob)) (upd ρ id v') w' id) : StOk cx (vF id .any tm) (setO id o' (kG id .any ob)) nx (upd ρ id v') a w':=by
  have hmem:=yF hg;have hk:=wT (o':=o') h hg hgr (fun b e=>(hb b e).imp (fun h=>h) (·.1));have hkeys : (kG id .any ob).map (·.1) = ob.map (·.1):=wY;have hok : okOf cx (upd ρ id v') (setO id o' (kG id .any ob)) = okOf cx (upd ρ id v') (setO id o' ob):=by
    rw [wU,wU]
    funext _ b
    unfold okOf
    congr 1
    apply propext
    constructor
    · intro h1 p hp;have : p.1 ∈ (kG id .any ob).map (·.1):=by rw [hkeys];exact List.mem_map.2 ⟨p,hp,rfl⟩
      obtain ⟨q,hq,e⟩:=List.mem_map.1 this;rw [← e];exact h1 q hq
    · intro h1 p hp;have : p.1 ∈ ob.map (·.1):=by rw [← hkeys];exact List.mem_map.2 ⟨p,hp,rfl⟩
      obtain ⟨q,hq,e⟩:=List.mem_map.1 this;rw [← e];exact h1 q hq
  have hs : Sub id .any (okOf cx ρ ob) (okOf cx (upd ρ id v') (setO id o' ob)) ρ (upd ρ id v') w w':=⟨fun _ _=>trivial,fun i u hi e=>by rw [kW hi];exact e,hk⟩;have hnd : ((kG id .any ob).map (·.1)).Nodup:=by rw [hkeys];exact h.nd
  have mem : ∀ p ∈ setO id o' (kG id .any ob),(p.1 = id ∧ p.2 = o') ∨ ∃ q ∈ ob,q.1 ≠ id ∧ p = (q.1,q.2.sub id .any):=by
    intro p hp;rcases wA hnd hp with h1|⟨h1,h2⟩
    · exact .inl h1
    · obtain ⟨q,hq,rfl⟩:=uI h1;exact .inr ⟨q,hq,h2,rfl⟩
  refine ⟨h.size,h.defers.kept (fun b _ e hn=>hgr.block b (Array.getElem?_eq_some_iff.1 e).1 (h.notDef hmem e hn)),fun i=>by rw [get_sub,hok];exact A.sub_rep hs (h.tms i),?_,by rw [wR];exact hnd,?_,?_,h.nx0,?_,?_,?_,h.disj,fun i hi p e=>?pin,h.glob,h.bags⟩
  case pin =>
    by_cases hii : i = id
    · exfalso
      subst hii;have h1:=(h.pin i hi p e).trans e;obtain ⟨v,hv,css,_,_,h3⟩:=h.obs _ hmem;have h1 : some v = some (.pointer p):=hv.symm.trans h1;rcases h3.2 with ⟨h4,_⟩|⟨g,cap,cur,h4,_⟩ <;> (rw [h4] at h1;cases h1)
    · rw [kW hii];exact h.pin i hi p e
  · intro p hp;rw [hok];rcases mem p hp with ⟨h1,h2⟩|⟨q,hq,h2,rfl⟩
    · rw [h1,h2];exact ho
    · refine Ob.sub_is hs h2 (fun b hb'=>?_) (h.obs q hq);exact hgr.block b (h.low q hq b hb').1 (fun e=>h.sep q hq _ hmem h2 b hb' e.symm)
  · intro p hp;rcases mem p hp with ⟨h1,_⟩|⟨q,hq,_,rfl⟩
    · rw [h1];exact h.fresh _ hmem
    · exact h.fresh q hq
  · intro i hi;have : i ≠ id:=fun e=>by have:=h.fresh _ hmem;simp only at this;omega
    rw [kW this];exact h.names i hi
  · intro p hp q hq hne b e1 e2;rcases mem p hp with ⟨h1,_⟩|⟨p',hp',hpn,rfl⟩
    · rw [h1,xF] at e1;rcases mem q hq with ⟨h2,_⟩|⟨q',hq',hqn,rfl⟩
      · exact hne (h1.trans h2.symm)
      · rw [kW hqn] at e2;rcases hb b e1 with h3|h3
        · exact h.sep q' hq' _ hmem hqn b e2 h3
        · have:=(h.low q' hq' b e2).1;omega
    · rw [kW hpn] at e1;rcases mem q hq with ⟨h2,_⟩|⟨q',hq',hqn,rfl⟩
      · rw [h2,xF] at e2;rcases hb b e2 with h3|h3
        · exact h.sep p' hp' _ hmem hpn b e1 h3
        · have:=(h.low p' hp' b e1).1;omega
      · rw [kW hqn] at e2;exact h.sep p' hp' q' hq' hne b e1 e2
  · intro p hp b e;rcases mem p hp with ⟨h1,_⟩|⟨q,hq,hqn,rfl⟩
    · rw [h1,xF] at e;rcases hb b e with h3|h3
      · have:=h.low _ hmem b h3;exact ⟨Nat.lt_of_lt_of_le this.1 hgr.size,this.2⟩
      · exact ⟨h3.2,.inl (Nat.le_trans h.keep.size h3.1)⟩
    · rw [kW hqn] at e;exact ⟨Nat.lt_of_lt_of_le (h.low q hq b e).1 hgr.size,(h.low q hq b e).2⟩
  · refine ⟨hgr.os.trans h.keep.os,hgr.tape.trans h.keep.tape,hgr.output.trans h.keep.output,Nat.le_trans h.keep.size hgr.size,fun b hlt ho hbg=>?_,fun b hbg=>(h.keep.shape b hbg).trans (.rfl' (hgr.block b (Nat.lt_of_lt_of_le (h.bags b hbg).1 h.keep.size) fun e=>h.bag_own hbg hmem e.symm))⟩;rw [hgr.block b (Nat.lt_of_lt_of_le hlt h.keep.size),h.keep.block b hlt ho hbg];intro e;rcases (h.low _ hmem b e.symm).2 with h1|h1
    · omega
    · exact ho h1
theorem StOk.write (h : StOk cx tm ob nx ρ a w) {id : Nat} {o o' : Ob} (hg : getO ob id = some o) (hgr : Grew w w' (blk (ρ id))) (hsz : w'.heap.size = w.heap.size)
    (ho : o'.is (okOf cx ρ ob) ρ w' id) : StOk cx tm (setO id o' ob) nx ρ a w':=by
  have hmem:=yF hg;have hk : xI (okOf cx ρ ob) (okOf cx ρ ob) w w':=fun _ b hb hlt=>⟨hb,hgr.block b hlt (fun e=>hb.2 _ hmem e.symm)⟩
  refine ⟨h.size,h.defers.kept (fun b _ e hn=>hgr.block b (Array.getElem?_eq_some_iff.1 e).1 (h.notDef hmem e hn)),fun i=>by rw [wU];exact A.kept hk (h.tms i),?_,by rw [wR];exact h.nd,?_,h.names,h.nx0,?_,?_,?_,h.disj,h.pin,h.glob,h.bags⟩
  · intro p hp;rw [wU];rcases wA h.nd hp with ⟨h1,h2⟩|⟨h1,h2⟩
    · rw [h1,h2];exact ho
    · exact Ob.kept hk (fun b hb=>hgr.block b (h.low p h1 b hb).1 (fun e=>h.sep p h1 _ hmem h2 b hb e.symm)) (h.obs p h1)
  · intro p hp;rcases wA h.nd hp with ⟨h1,_⟩|⟨h1,_⟩
    · rw [h1];exact h.fresh _ hmem
    · exact h.fresh p h1
  · intro p hp q hq hne b e1 e2;have hin : ∀ r ∈ setO id o' ob,∃ r' ∈ ob,r'.1 = r.1:=by
      intro r hr;have : r.1 ∈ ob.map (·.1):=by rw [← wR (id:=id) (o:=o')];exact List.mem_map.2 ⟨r,hr,rfl⟩
      obtain ⟨r',h1,h2⟩:=List.mem_map.1 this;exact ⟨r',h1,h2⟩
    obtain ⟨p',hp',ep⟩:=hin p hp;obtain ⟨q',hq',eq⟩:=hin q hq;rw [← ep] at e1 hne;rw [← eq] at e2 hne;exact h.sep p' hp' q' hq' hne b e1 e2
  · intro p hp b e;rcases wA h.nd hp with ⟨h1,_⟩|⟨h1,_⟩
    · rw [h1] at e;have:=h.low _ hmem b e;rw [hsz];exact this
    · rw [hsz];exact h.low p h1 b e
  · refine ⟨hgr.os.trans h.keep.os,hgr.tape.trans h.keep.tape,hgr.output.trans h.keep.output,by rw [hsz];exact h.keep.size,fun b hlt ho hbg=>?_,fun b hbg=>(h.keep.shape b hbg).trans (.rfl' (hgr.block b (Nat.lt_of_lt_of_le (h.bags b hbg).1 h.keep.size) fun e=>h.bag_own hbg hmem e.symm))⟩;rw [hgr.block b (Nat.lt_of_lt_of_le hlt h.keep.size),h.keep.block b hlt ho hbg];intro e;rcases (h.low _ hmem b e.symm).2 with h1|h1
    · omega
    · exact ho h1
end
def yX (ok : Oks) (ρ : Nat → Option Value) (w : World) : List A → List Value → Prop
  | [],vs=>vs = []
  | a :: as,vs=>∃ v r,vs = v :: r ∧ a.rep ok ρ w v ∧ yX ok ρ w as r
def yI : Nat → Option Value:=fun _=>none
def FnOk (P : Program) (f : FuncId) : Prop := ∃ fn, P.funcs[f]? = some fn ∧ fn.body.isSome = true ∧ (fn.name == "runtime.NumGoroutine") = false
def C.ren (σ : Nat → Nat) : C → C
  | .own i o=>.own (σ i) o
  | .vec i=>.vec (σ i)
  | .vel i k n=>.vel (σ i) k n
  | .ifc t c=>.ifc t (c.ren σ)
  | .clo f c=>.clo f (c.ren σ)
  | .clo2 f c d=>.clo2 f (c.ren σ) (d.ren σ)
  | .clo3 f c d e=>.clo3 f (c.ren σ) (d.ren σ) (e.ren σ)
  | .ref c=>.ref (c.ren σ)
  | .nself u i=>.nself u (σ i)
  | .fx i u=>.fx (σ i) u
  | .vof i k n o=>.vof (σ i) k n o
  | .mp i=>.mp (σ i)
  | .any=>.any
  | .lit v=>.lit v
  | .slk k R xs=>.slk k R xs
  | .full R xs=>.full R xs
  | .adk k R x=>.adk k R x
def renL (σ : Nat → Nat) : List C → List C
  | []=>[]
  | c :: r=>c.ren σ :: renL σ r
def renT (σ : Nat → Nat) : List (Bool × List C) → List (Bool × List C)
  | []=>[]
  | p :: r=>(p.1,renL σ p.2) :: renT σ r
def A.ren (σ : Nat → Nat) : A → A
  | .one c=>.one (c.ren σ)
  | .agg cs=>.agg (renL σ cs)
  | .tup cs=>.tup (renT σ cs)
  | .cond b a=>.cond b (a.ren σ)
def renAs (σ : Nat → Nat) : List A → List A
  | []=>[]
  | a :: r=>a.ren σ :: renAs σ r
def Ob.ren (σ : Nat → Nat) : Ob → Ob
  | .box T cs=>.box T (renL σ cs)
  | .vec E R xs=>.vec E R xs
  | .map g R es=>.map g R es
def jA (σ : Nat → Nat) : Obs → Obs
  | []=>[]
  | p :: r=>(σ p.1,p.2.ren σ) :: jA σ r
def appO : Obs → Obs → Obs
  | [],y=>y
  | p :: x,y=>p :: appO x y
def lenN : List Nat → Nat
  | []=>0
  | _ :: r=>lenN r + 1
def sigO (nx : Nat) : List Nat → Nat → Nat
  | [],k=>nx + k
  | i :: _,0=>i
  | _ :: r,k + 1=>sigO nx r k
def memN : List Nat → Nat → Bool
  | [],_=>false
  | j :: r,i=>match Nat.beq j i with
    | true=>true
    | false=>memN r i
def ndN : List Nat → Bool
  | []=>true
  | i :: r=>match memN r i with
    | true=>false
    | false=>ndN r
def C.drp (bad : List Nat) : C → C
  | .vec i=>match memN bad i with
    | true=>.any
    | false=>.vec i
  | .vel i k n=>match memN bad i with
    | true=>.any
    | false=>.vel i k n
  | .ifc t c=>.ifc t (c.drp bad)
  | .clo f c=>.clo f (c.drp bad)
  | .clo2 f c d=>.clo2 f (c.drp bad) (d.drp bad)
  | .clo3 f c d e=>.clo3 f (c.drp bad) (d.drp bad) (e.drp bad)
  | .ref c=>.ref (c.drp bad)
  | .nself u i=>.nself u i
  | .fx i u=>match memN bad i with
    | true=>.any
    | false=>.fx i u
  | .vof i k n o=>match memN bad i with
    | true=>.any
    | false=>.vof i k n o
  | .mp i=>match memN bad i with
    | true=>.any
    | false=>.mp i
  | .own i o=>.own i o
  | .any=>.any
  | .lit v=>.lit v
  | .slk k R xs=>.slk k R xs
  | .full R xs=>.full R xs
  | .adk k R x=>.adk k R x
def drpL (bad : List Nat) : List C → List C
  | []=>[]
  | c :: r=>c.drp bad :: drpL bad r
def drpT (bad : List Nat) : List (Bool × List C) → List (Bool × List C)
  | []=>[]
  | p :: r=>(p.1,drpL bad p.2) :: drpT bad r
def A.drp (bad : List Nat) : A → A
  | .one c=>.one (c.drp bad)
  | .agg cs=>.agg (drpL bad cs)
  | .tup cs=>.tup (drpT bad cs)
  | .cond b a=>.cond b (a.drp bad)
def gW (bad : List Nat) : Tm → Tm
  | []=>[]
  | p :: r=>(p.1,p.2.drp bad) :: gW bad r
def Ob.drp (bad : List Nat) : Ob → Ob
  | .box T cs=>.box T (drpL bad cs)
  | .vec E R xs=>.vec E R xs
  | .map g R es=>.map g R es
def vD (L bad : List Nat) : Obs → Obs
  | []=>[]
  | p :: r=>match memN L p.1 with
    | true=>vD L bad r
    | false=>(p.1,p.2.drp bad) :: vD L bad r
def Ob.vary : Ob → Bool
  | .box _ _=>false
  | _=>true
def uK : List Nat → Obs → List Nat
  | i :: L,p :: r=>match p.2 with
    | .vec _ _ _=>i :: uK L r
    | .box _ _=>uK L r
    | .map _ _ _=>i :: uK L r
  | _,_=>[]
def gT (ob : Obs) (σ : Nat → Nat) : Nat → List Nat → Obs → Prop
  | _,[],[]=>True
  | k,i :: L,p :: r=>(p.1 = k ∧ getO ob i = some (p.2.ren σ)) ∧ gT ob σ (k + 1) L r
  | _,_,_=>False
def yB (P : Program) (f : FuncId) (as : List A) (ob : Obs) (m : Nat) (r : A) (ob' : Obs) (m' : Nat) : Prop :=
  FnOk P f ∧ ∀ (cx : Cx) (ρ : Nat → Option Value) (w : World) (vs : List Value),cx.N = 0 ∧ cx.fr = true ∧ cx.hids = [] → cx.nx0 = m → cx.w0 = w → StOk cx [] ob m ρ ⟨#[],[]⟩ w → yX (okOf cx ρ ob) ρ w as vs →
    Calls P f vs.toArray w fun e w'=>∃ u ρ',e = .returned u ∧ StOk cx [] ob' m' ρ' ⟨#[],[]⟩ w' ∧ r.rep (okOf cx ρ' ob') ρ' w' u
def ACallX (P : Program) (f : FuncId) (as : List A) (ob : Obs) (m : Nat) (r : A) (ob' : Obs) (m' : Nat) (ps : List Nat) : Prop :=
  FnOk P f ∧ ∀ (cx : Cx) (ρ : Nat → Option Value) (w : World) (vs : List Value),cx.N = 0 ∧ cx.fr = true ∧ cx.hids = [] → cx.nx0 = m → cx.w0 = w → StOk cx [] ob m ρ ⟨#[],[]⟩ w → yX (okOf cx ρ ob) ρ w as vs →
    Calls P f vs.toArray w fun e w'=>∃ u ρ',e = .returned u ∧ StOk cx [] ob' m' ρ' ⟨#[],[]⟩ w' ∧ r.rep (okOf cx ρ' ob') ρ' w' u ∧ ∀ k,memN ps k = true → ρ' k = ρ k
theorem yB.x {P : Program} {f : FuncId} {as : List A} {ob : Obs} {m : Nat} {r : A} {ob' : Obs} {m' : Nat} (h : yB P f as ob m r ob' m') : ACallX P f as ob m r ob' m' [] :=
  ⟨h.1,fun cx ρ w vs h1 h2 h3 h4 h5=>(h.2 cx ρ w vs h1 h2 h3 h4 h5).mono fun _ _ ⟨u,ρ',e,h6,h7⟩=>⟨u,ρ',e,h6,h7,fun _ h=>by cases h⟩⟩
def badX (ps : List Nat) : Nat → List Nat → Obs → List Nat
  | k,i :: L,p :: r=>match p.2 with
    | .vec _ _ _=>match memN ps k with
      | true=>badX ps (k + 1) L r
      | false=>i :: badX ps (k + 1) L r
    | .box _ _=>badX ps (k + 1) L r
    | .map _ _ _=>match memN ps k with
      | true=>badX ps (k + 1) L r
      | false=>i :: badX ps (k + 1) L r
  | _,_,_=>[]
section
variable {P : Program} {te : List (TypeId × TyI)} {cx : Cx} {tm : Tm} {ob : Obs} {nx : Nat} {ρ ρ' : Nat → Option Value} {a : Act} {w w' : World} {ok ok' : Oks} {σ : Nat → Nat}
theorem C.ren_rep : ∀ {c : C} {v : Value},(c.ren σ).rep ok ρ w v ↔ c.rep ok (fun i=>ρ (σ i)) w v
  | .any,_=>Iff.rfl
  | .lit _,_=>Iff.rfl
  | .slk _ _ _,_=>Iff.rfl
  | .full _ _,_=>Iff.rfl
  | .adk _ _ _,_=>Iff.rfl
  | .own _ _,_=>Iff.rfl
  | .vec _,_=>Iff.rfl
  | .mp _,_=>Iff.rfl
  | .vel _ _ _,_=>Iff.rfl
  | .nself _ _,_=>Iff.rfl
  | .fx _ _,_=>Iff.rfl
  | .vof _ _ _ _,_=>Iff.rfl
  | .ifc _ c,_=>by constructor <;> (rintro ⟨u,hv,h⟩;first|exact ⟨u,hv,C.ren_rep.1 h⟩|exact ⟨u,hv,C.ren_rep.2 h⟩)
  | .clo _ c,_=>by constructor <;> (rintro ⟨u,hv,h⟩;first|exact ⟨u,hv,C.ren_rep.1 h⟩|exact ⟨u,hv,C.ren_rep.2 h⟩)
  | .clo2 _ c d,_=>by constructor <;> (rintro ⟨u,x,hv,h,h'⟩;first|exact ⟨u,x,hv,C.ren_rep.1 h,C.ren_rep.1 h'⟩|exact ⟨u,x,hv,C.ren_rep.2 h,C.ren_rep.2 h'⟩)
  | .clo3 _ c d e,_=>by constructor <;> (rintro ⟨u,x,y,hv,h,h',h''⟩;first|exact ⟨u,x,y,hv,C.ren_rep.1 h,C.ren_rep.1 h',C.ren_rep.1 h''⟩|exact ⟨u,x,y,hv,C.ren_rep.2 h,C.ren_rep.2 h',C.ren_rep.2 h''⟩)
  | .ref c,_=>by constructor <;> (rintro ⟨b,off,u,hv,h1,h2,h3,h⟩;first|exact ⟨b,off,u,hv,h1,h2,h3,C.ren_rep.1 h⟩|exact ⟨b,off,u,hv,h1,h2,h3,C.ren_rep.2 h⟩)
theorem gC : ∀ {cs : List C} {vs : List Value},repL ok ρ w (renL σ cs) vs ↔ repL ok (fun i=>ρ (σ i)) w cs vs
  | [],_=>Iff.rfl
  | _ :: _,_=>by
    constructor
    · rintro ⟨v,r,e,h1,h2⟩;exact ⟨v,r,e,C.ren_rep.1 h1,gC.1 h2⟩
    · rintro ⟨v,r,e,h1,h2⟩;exact ⟨v,r,e,C.ren_rep.2 h1,gC.2 h2⟩
theorem renV_rep : ∀ {g : Bool} {cs : List C} {v : Value},repV ok ρ w g (renL σ cs) v ↔ repV ok (fun i=>ρ (σ i)) w g cs v
  | true,_,_=>by
    constructor
    · rintro ⟨vs,e,h⟩;exact ⟨vs,e,gC.1 h⟩
    · rintro ⟨vs,e,h⟩;exact ⟨vs,e,gC.2 h⟩
  | false,_,_=>gC
theorem eM : ∀ {cs : List (Bool × List C)} {vs : List Value},repT ok ρ w (renT σ cs) vs ↔ repT ok (fun i=>ρ (σ i)) w cs vs
  | [],_=>Iff.rfl
  | _ :: _,_=>by
    constructor
    · rintro ⟨v,r,e,h1,h2⟩;exact ⟨v,r,e,renV_rep.1 h1,eM.1 h2⟩
    · rintro ⟨v,r,e,h1,h2⟩;exact ⟨v,r,e,renV_rep.2 h1,eM.2 h2⟩
theorem A.ren_rep : ∀ {x : A} {v : Value},(x.ren σ).rep ok ρ w v ↔ x.rep ok (fun i=>ρ (σ i)) w v
  | .one _,_=>C.ren_rep
  | .agg _,_=>renV_rep (g:=true)
  | .tup _,_=>by
    constructor
    · rintro ⟨vs,e,h⟩;exact ⟨vs,e,eM.1 h⟩
    · rintro ⟨vs,e,h⟩;exact ⟨vs,e,eM.2 h⟩
  | .cond _ _,_=>by
    constructor
    · rintro ⟨h1,h2⟩;exact ⟨fun hb=>A.ren_rep.1 (h1 hb),h2⟩
    · rintro ⟨h1,h2⟩;exact ⟨fun hb=>A.ren_rep.2 (h1 hb),h2⟩
theorem fT : ∀ {as : List A} {vs : List Value},yX ok ρ w (renAs σ as) vs ↔ yX ok (fun i=>ρ (σ i)) w as vs
  | [],_=>Iff.rfl
  | _ :: _,_=>by
    constructor
    · rintro ⟨v,r,e,h1,h2⟩;exact ⟨v,r,e,A.ren_rep.1 h1,fT.1 h2⟩
    · rintro ⟨v,r,e,h1,h2⟩;exact ⟨v,r,e,A.ren_rep.2 h1,fT.2 h2⟩
theorem yX.kept (hk : xI ok ok' w w') : ∀ {as : List A} {vs : List Value},yX ok ρ w as vs → yX ok' ρ w' as vs
  | [],_,h=>h
  | _ :: _,_,h=>by
    obtain ⟨v,r,e,h1,h2⟩:=h;exact ⟨v,r,e,A.kept hk h1,yX.kept hk h2⟩
theorem Ob.ren_is {o : Ob} {k : Nat} : (o.ren σ).is ok ρ w (σ k) ↔ o.is ok (fun i=>ρ (σ i)) w k:=by
  cases o with
  | box T cs =>
    constructor
    · rintro ⟨b,vs,h1,h2,h3⟩;exact ⟨b,vs,h1,h2,gC.1 h3⟩
    · rintro ⟨b,vs,h1,h2,h3⟩;exact ⟨b,vs,h1,h2,gC.2 h3⟩
  | vec E R xs=>exact Iff.rfl
  | map g R es=>exact Iff.rfl
structure Drp (bad : List Nat) (ok ok' : Oks) (ρ ρ' : Nat → Option Value) (w w' : World) : Prop where
  ptr : ∀ i p,ρ i = some (.pointer p) → ρ' i = some (.pointer p)
  oth : ∀ i v,memN bad i = false → ρ i = some v → ρ' i = some v
  keeps : xI ok ok' w w'
theorem C.drp_rep {bad : List Nat} (h : Drp bad ok ok' ρ ρ' w w') : ∀ {c : C} {v : Value},c.rep ok ρ w v → (c.drp bad).rep ok' ρ' w' v
  | .any,_,_=>trivial
  | .lit _,_,hr=>hr
  | .slk k R xs,v,hr=>C.kept (c:=.slk k R xs) (ρ:=ρ') h.keeps hr
  | .full R xs,v,hr=>C.kept (c:=.full R xs) (ρ:=ρ') h.keeps hr
  | .adk k R x,v,hr=>C.kept (c:=.adk k R x) (ρ:=ρ') h.keeps hr
  | .own i o,v,hr=>by obtain ⟨b,h1,h2⟩:=hr;exact ⟨b,h.ptr _ _ h1,h2⟩
  | .vec i,v,hr=>by
    unfold C.drp;split
    · trivial
    · rename_i e;exact ⟨h.oth _ _ e hr.1,hr.2⟩
  | .mp i,v,hr=>by
    unfold C.drp;split
    · trivial
    · rename_i e;exact ⟨h.oth _ _ e hr.1,hr.2⟩
  | .vel i k n,v,hr=>by
    unfold C.drp;split
    · trivial
    · rename_i e;obtain ⟨b,m,cap,h1,h2⟩:=hr;exact ⟨b,m,cap,h.oth _ _ e h1,h2⟩
  | .ifc t c,v,hr=>by obtain ⟨u,hv,hr⟩:=hr;exact ⟨u,hv,C.drp_rep h hr⟩
  | .clo f c,v,hr=>by obtain ⟨u,hv,hr⟩:=hr;exact ⟨u,hv,C.drp_rep h hr⟩
  | .clo2 f c d,v,hr=>by obtain ⟨u,x,hv,hr,hr'⟩:=hr;exact ⟨u,x,hv,C.drp_rep h hr,C.drp_rep h hr'⟩
  | .clo3 f c d e,v,hr=>by obtain ⟨u,x,y,hv,hr,hr',hr''⟩:=hr;exact ⟨u,x,y,hv,C.drp_rep h hr,C.drp_rep h hr',C.drp_rep h hr''⟩
  | .ref c,v,hr=>by
    obtain ⟨b,off,u,hv,hb,hlt,hc,hr⟩:=hr;have hkb:=h.keeps 0 b hb hlt;exact ⟨b,off,u,hv,hkb.1,kL hkb.2 hlt,hc.of_block hkb.2,C.drp_rep h hr⟩
  | .nself u i,v,hr=>⟨fun e2=>by obtain ⟨b,h1,h2⟩:=hr.1 e2;exact ⟨b,h.ptr _ _ h1,h2⟩,hr.2⟩
  | .fx i u,v,hr=>by
    unfold C.drp;split
    · trivial
    · rename_i e;exact h.oth _ _ e hr
  | .vof i k n o,v,hr=>by
    unfold C.drp;split
    · trivial
    · rename_i e;obtain ⟨b,m,cap,h1,h2⟩:=hr;exact ⟨b,m,cap,h.oth _ _ e h1,h2⟩
theorem eW {bad : List Nat} (h : Drp bad ok ok' ρ ρ' w w') : ∀ {cs : List C} {vs : List Value},repL ok ρ w cs vs → repL ok' ρ' w' (drpL bad cs) vs
  | [],_,hr=>hr
  | _ :: _,_,hr=>by
    obtain ⟨v,r,e,h1,h2⟩:=hr;exact ⟨v,r,e,C.drp_rep h h1,eW h h2⟩
theorem drpV_rep {bad : List Nat} (h : Drp bad ok ok' ρ ρ' w w') : ∀ {g : Bool} {cs : List C} {v : Value},repV ok ρ w g cs v → repV ok' ρ' w' g (drpL bad cs) v
  | true,_,_,hr=>by obtain ⟨vs,e,hr⟩:=hr;exact ⟨vs,e,eW h hr⟩
  | false,_,_,hr=>eW h hr
theorem drpT_rep {bad : List Nat} (h : Drp bad ok ok' ρ ρ' w w') : ∀ {cs : List (Bool × List C)} {vs : List Value},repT ok ρ w cs vs → repT ok' ρ' w' (drpT bad cs) vs
  | [],_,hr=>hr
  | _ :: _,_,hr=>by
    obtain ⟨v,r,e,h1,h2⟩:=hr;exact ⟨v,r,e,drpV_rep h h1,drpT_rep h h2⟩
theorem A.drp_rep {bad : List Nat} (h : Drp bad ok ok' ρ ρ' w w') : ∀ {x : A} {v : Value},x.rep ok ρ w v → (x.drp bad).rep ok' ρ' w' v
  | .one _,_,hr=>C.drp_rep h hr
  | .agg _,_,hr=>drpV_rep (g:=true) h hr
  | .tup _,_,hr=>by obtain ⟨vs,e,hr⟩:=hr;exact ⟨vs,e,drpT_rep h hr⟩
  | .cond _ _,_,hr=>⟨fun hb=>A.drp_rep h (hr.1 hb),hr.2⟩
theorem get_drp (bad : List Nat) : ∀ (tm : Tm) (i : Nat),get (gW bad tm) i = (get tm i).drp bad
  | [],_=>rfl
  | p :: r,i=>by
    simp only [gW,get];split
    · rfl
    · exact get_drp bad r i
theorem Ob.drp_is {bad : List Nat} (h : Drp bad ok ok' ρ ρ' w w') {i : Nat} (hi : ρ' i = ρ i) {o : Ob} (hb : ∀ b,blk (ρ i) = some b → w'.heap[b]? = w.heap[b]?) (ho : o.is ok ρ w i) : (o.drp bad).is ok' ρ' w' i:=by
  cases o with
  | box T cs =>
    obtain ⟨b,vs,h1,h2,h3⟩:=ho;exact ⟨b,vs,hi.trans h1,by rw [hb b (by rw [h1];rfl)];exact h2,eW h h3⟩
  | vec E R xs =>
    obtain ⟨v,hv,css,h1,h2,h3⟩:=ho;refine ⟨v,hi.trans hv,css,h1,fun i hi=>R.kept h.keeps (h2 i hi),h3.1,?_⟩;rcases h3.2 with h4|⟨g,cap,cur,h4,h5,h6,h7⟩
    · exact .inl h4
    · exact .inr ⟨g,cap,cur,h4,h5,by rw [hb g (by rw [hv,h4];rfl)];exact h6,h7⟩
  | map g R es =>
    obtain ⟨r,h1,h2⟩:=ho;exact ⟨r,hi.trans h1,h2.imp (hb r (by rw [h1];rfl)) fun _ _ hr=>R.kept h.keeps hr⟩
theorem lenN_eq : ∀ L : List Nat,lenN L = L.length
  | []=>rfl
  | _ :: r=>by rw [lenN,lenN_eq r];rfl
theorem memN_iff : ∀ {L : List Nat} {i : Nat},memN L i = true ↔ i ∈ L
  | [],i=>by simp [memN]
  | j :: r,i=>by
    unfold memN;split
    · rename_i e;have e:=Nat.eq_of_beq_eq_true e;simp [e]
    · rename_i e;have e : i ≠ j:=fun e'=>by subst e';simp at e
      rw [memN_iff (L:=r)];simp [e]
theorem vO {L : List Nat} {i : Nat} : memN L i = false ↔ i ∉ L:=by
  rw [← memN_iff];simp
theorem ndN_nd : ∀ {L : List Nat},ndN L = true → L.Nodup
  | [],_=>List.nodup_nil
  | i :: r,h=>by
    unfold ndN at h;split at h
    · cases h
    · rename_i e;exact List.nodup_cons.2 ⟨vO.1 e,ndN_nd h⟩
theorem xM : ∀ {L : List Nat} {k i : Nat},L[k]? = some i → sigO nx L k = i
  | [],_,_,h=>by simp at h
  | _ :: _,0,_,h=>by simpa [sigO] using h
  | _ :: r,k + 1,_,h=>xM (L:=r) (k:=k) (by simpa using h)
theorem kZ : ∀ {L : List Nat} {k : Nat},L.length ≤ k → sigO nx L k = nx + (k - L.length)
  | [],_,_=>rfl
  | _ :: _,0,h=>by simp at h
  | _ :: r,k + 1,h=>by
    simp only [List.length_cons] at h ⊢;rw [sigO,kZ (L:=r) (by omega)];omega
theorem sigO_inj {L : List Nat} (hnd : L.Nodup) (hlt : ∀ i ∈ L,i < nx) {j k : Nat} (h : sigO nx L j = sigO nx L k) : j = k:=by
  rcases Nat.lt_or_ge j L.length with hj|hj <;> rcases Nat.lt_or_ge k L.length with hk|hk
  · rw [xM (List.getElem?_eq_getElem hj),xM (List.getElem?_eq_getElem hk)] at h;exact (List.getElem?_inj hj hnd).1 (by rw [List.getElem?_eq_getElem hj,List.getElem?_eq_getElem hk,h])
  · rw [xM (List.getElem?_eq_getElem hj),kZ hk] at h;have:=hlt _ (List.getElem_mem hj);omega
  · rw [kZ hj,xM (List.getElem?_eq_getElem hk)] at h;have:=hlt _ (List.getElem_mem hk);omega
  · rw [kZ hj,kZ hk] at h;omega
theorem bM : ∀ {k : Nat} {L : List Nat} {obc : Obs},gT ob σ k L obc → ∀ p ∈ obc,k ≤ p.1 ∧ ∃ i,L[p.1 - k]? = some i ∧ getO ob i = some (p.2.ren σ)
  | _,[],[],_,_,hp=>by cases hp
  | k,i :: L,q :: r,h,p,hp=>by
    obtain ⟨⟨h1,h2⟩,h3⟩:=h;rcases List.mem_cons.1 hp with hp|hp
    · subst hp;exact ⟨by omega,i,by rw [h1,Nat.sub_self];rfl,h2⟩
    · obtain ⟨h4,j,h5,h6⟩:=bM h3 p hp;refine ⟨by omega,j,?_,h6⟩;rw [show p.1 - k = (p.1 - (k + 1)) + 1 by omega]
      simpa using h5
theorem lent_of : ∀ {k : Nat} {L : List Nat} {obc : Obs},gT ob σ k L obc → ∀ j i,L[j]? = some i → ∃ o,(k + j,o) ∈ obc ∧ getO ob i = some (o.ren σ)
  | _,[],[],_,_,_,h=>by simp at h
  | k,i :: L,q :: r,h,j,i',hj=>by
    obtain ⟨⟨h1,h2⟩,h3⟩:=h;cases j with
    | zero =>
      simp only [List.getElem?_cons_zero,Option.some.injEq] at hj;subst hj;exact ⟨q.2,by rw [Nat.add_zero,← h1];simp,h2⟩
    | succ j =>
      obtain ⟨o,h4,h5⟩:=lent_of h3 j i' (by simpa using hj);exact ⟨o,by rw [show k + (j + 1) = k + 1 + j by omega];exact List.mem_cons_of_mem _ h4,h5⟩
theorem lent_nd : ∀ {k : Nat} {L : List Nat} {obc : Obs},gT ob σ k L obc → (obc.map (·.1)).Nodup
  | _,[],[],_=>List.nodup_nil
  | k,i :: L,q :: r,h=>by
    obtain ⟨⟨h1,h2⟩,h3⟩:=h;refine List.nodup_cons.2 ⟨fun hm=>?_,lent_nd h3⟩;obtain ⟨p,hp,e⟩:=List.mem_map.1 hm;have:=(bM h3 p hp).1;simp only at e;omega
theorem bad_of : ∀ {k : Nat} {L : List Nat} {obc : Obs},gT ob σ k L obc → ∀ j i (o : Ob),o.vary = true → L[j]? = some i → (k + j,o) ∈ obc → i ∈ uK L obc
  | _,[],[],_,_,_,_,_,h,_=>by simp at h
  | k,i :: L,q :: r,h,j,i',o,hv,hj,hm=>by
    obtain ⟨⟨h1,h2⟩,h3⟩:=h;have hr : ∀ p ∈ r,k + 1 ≤ p.1:=fun p hp=>(bM h3 p hp).1
    cases j with
    | zero =>
      simp only [List.getElem?_cons_zero,Option.some.injEq] at hj;subst hj;rcases List.mem_cons.1 hm with hm|hm
      · subst hm;cases o with
        | box _ _=>cases hv
        | vec _ _ _=>simp [uK]
        | map _ _ _=>simp [uK]
      · have:=hr _ hm;simp only at this;omega
    | succ j =>
      rcases List.mem_cons.1 hm with hm|hm
      · subst hm;simp only at h1;omega
      · have:=bad_of h3 j i' o hv (by simpa using hj) (by rw [show k + 1 + j = k + (j + 1) by omega];exact hm);unfold uK;split
        · exact List.mem_cons_of_mem _ this
        · exact this
        · exact List.mem_cons_of_mem _ this
theorem cK {L bad : List Nat} : ∀ {ob : Obs} {p : Nat × Ob},p ∈ vD L bad ob → ∃ q ∈ ob,q.1 ∉ L ∧ p = (q.1,q.2.drp bad)
  | [],_,h=>by cases h
  | q :: r,p,h=>by
    unfold vD at h;split at h
    · obtain ⟨q',h1,h2⟩:=cK h;exact ⟨q',List.mem_cons_of_mem _ h1,h2⟩
    · rename_i e;rcases List.mem_cons.1 h with h|h
      · exact ⟨q,by simp,vO.1 e,h⟩
      · obtain ⟨q',h1,h2⟩:=cK h;exact ⟨q',List.mem_cons_of_mem _ h1,h2⟩
theorem iC {L bad : List Nat} : ∀ {ob : Obs},List.Sublist ((vD L bad ob).map (·.1)) (ob.map (·.1))
  | []=>.slnil
  | q :: r=>by
    unfold vD;split
    · exact .cons _ iC
    · exact .cons_cons _ iC
theorem appO_eq : ∀ (x y : Obs),appO x y = x ++ y
  | [],_=>rfl
  | p :: x,y=>by rw [appO,appO_eq x y];rfl
theorem kB : ∀ {ob : Obs} {p : Nat × Ob},p ∈ jA σ ob → ∃ q ∈ ob,p = (σ q.1,q.2.ren σ)
  | [],_,h=>by cases h
  | q :: r,p,h=>by
    rcases List.mem_cons.1 h with h|h
    · exact ⟨q,by simp,h⟩
    · obtain ⟨q',h1,h2⟩:=kB h;exact ⟨q',List.mem_cons_of_mem _ h1,h2⟩
theorem aE : ∀ {ob : Obs},(jA σ ob).map (·.1) = (ob.map (·.1)).map σ
  | []=>rfl
  | q :: r=>by simp only [jA,List.map_cons,aE (ob:=r)]
open Classical in
noncomputable def backN (nx : Nat) (L : List Nat) (ρ ρ' : Nat → Option Value) : Nat → Option Value:=fun i=>if h : ∃ k,sigO nx L k = i then ρ' h.choose else ρ i
theorem backN_in {L : List Nat} (hnd : L.Nodup) (hlt : ∀ i ∈ L,i < nx) (k : Nat) : backN nx L ρ ρ' (sigO nx L k) = ρ' k:=by
  have h : ∃ j,sigO nx L j = sigO nx L k:=⟨k,rfl⟩;unfold backN;rw [dif_pos h,sigO_inj hnd hlt h.choose_spec]
theorem backN_out {L : List Nat} {i : Nat} (hi : i < nx) (hL : i ∉ L) : backN nx L ρ ρ' i = ρ i:=by
  unfold backN;rw [dif_neg]
  rintro ⟨k,hk⟩
  rcases Nat.lt_or_ge k L.length with h|h
  · rw [xM (List.getElem?_eq_getElem h)] at hk;exact hL (hk ▸ List.getElem_mem h)
  · rw [kZ h] at hk;omega
theorem bad_ofX {ps : List Nat} : ∀ {k : Nat} {L : List Nat} {obc : Obs},gT ob σ k L obc → ∀ j i (o : Ob),o.vary = true → L[j]? = some i → (k + j,o) ∈ obc → i ∈ badX ps k L obc ∨ memN ps (k + j) = true
  | _,[],[],_,_,_,_,_,h,_=>by simp at h
  | k,i :: L,q :: r,h,j,i',o,hv,hj,hm=>by
    obtain ⟨⟨h1,h2⟩,h3⟩:=h;have hr : ∀ p ∈ r,k + 1 ≤ p.1:=fun p hp=>(bM h3 p hp).1
    cases j with
    | zero =>
      simp only [List.getElem?_cons_zero,Option.some.injEq] at hj;subst hj;rcases List.mem_cons.1 hm with hm|hm
      · subst hm;cases o with
        | box _ _=>cases hv
        | vec _ _ _ =>
          simp only [badX,Nat.add_zero];split
          · rename_i e;exact .inr e
          · exact .inl List.mem_cons_self
        | map _ _ _ =>
          simp only [badX,Nat.add_zero];split
          · rename_i e;exact .inr e
          · exact .inl List.mem_cons_self
      · have:=hr _ hm;simp only at this;omega
    | succ j =>
      rcases List.mem_cons.1 hm with hm|hm
      · subst hm;simp only at h1;omega
      · have:=bad_ofX (ps:=ps) h3 j i' o hv (by simpa using hj) (by rw [show k + 1 + j = k + (j + 1) by omega];exact hm);rw [show k + 1 + j = k + (j + 1) by omega] at this;refine this.imp (fun this=>?_) id;unfold badX;split
        · split
          · exact this
          · exact List.mem_cons_of_mem _ this
        · exact this
        · split
          · exact this
          · exact List.mem_cons_of_mem _ this
def Ob.no1 : Ob → Bool
  | .box _ cs=>no1L cs
  | .vec _ R _=>R.no1
  | .map _ R _=>R.no1
def no1Ob : Obs → Bool
  | []=>true
  | p :: r=>match p.2.no1 with
    | true=>no1Ob r
    | false=>false
theorem no1Ob_mem : ∀ {ob : Obs} {p : Nat × Ob},no1Ob ob = true → p ∈ ob → p.2.no1 = true
  | [],_,_,h=>by cases h
  | q :: r,p,hn,h=>by
    unfold no1Ob at hn;split at hn
    · rename_i e;rcases List.mem_cons.1 h with h|h
      · subst h;exact e
      · exact no1Ob_mem hn h
    · cases hn
theorem Ob.back {id : Nat} (hk : Back ok ok') : ∀ {o : Ob},o.no1 = true → o.is ok ρ w id → o.is ok' ρ w id
  | .box _ _,hn,h=>by
    obtain ⟨b,vs,h1,h2,h3⟩:=h;exact ⟨b,vs,h1,h2,h3.back hk hn⟩
  | .vec _ R _,hn,h=>by
    obtain ⟨v,hv,css,h1,h2,h3⟩:=h;exact ⟨v,hv,css,h1,fun i hi=>R.back hk hn (h2 i hi),h3⟩
  | .map _ R _,hn,h=>by
    obtain ⟨r,h1,h2⟩:=h;exact ⟨r,h1,h2.imp rfl fun _ _ h=>R.back hk hn h⟩
def vM (ok : Oks) (bor : Nat → Prop) : Oks:=fun k b=>ok k b ∨ (k = 1 ∧ bor b)
theorem lend_gen {g : FuncId} {L bad ps : List Nat} {as : List A} {obc obc' : Obs} {r : A} {m' : Nat} {vs : List Value} (bor : Nat → Prop) (hs : StOk cx tm ob nx ρ a w) (hc : ACallX P g as obc (lenN L) r obc' m' ps)
    (hargs : yX (vM (okOf cx ρ ob) bor) ρ w (renAs (sigO nx L) as) vs) (hl : gT ob (sigO nx L) 0 L obc) (hd : ndN L = true)
    (hbor : ∀ b,bor b → ∃ p ∈ ob,p.1 ∉ L ∧ blk (ρ p.1) = some b) (hno1 : (∀ b,¬ bor b) ∨ (no1Ob obc' = true ∧ r.no1 = true))
    (hbad : ∀ j i (o : Ob),o.vary = true → L[j]? = some i → (j,o) ∈ obc → i ∈ bad ∨ memN ps j = true) :
    Calls P g vs.toArray w fun e w'=>∃ u ρ',e = .returned u ∧ StOk cx (gW bad tm) (appO (jA (sigO nx L) obc') (vD L bad ob)) (nx + (m' - lenN L)) ρ' a w' ∧
      (r.ren (sigO nx L)).rep (okOf cx ρ' (appO (jA (sigO nx L) obc') (vD L bad ob))) ρ' w' u:=by
  have hnd:=ndN_nd hd;have hin : ∀ i ∈ L,∃ o,(i,o) ∈ ob:=by
    intro i hi;obtain ⟨j,hj⟩:=List.getElem?_of_mem hi;obtain ⟨o,_,h⟩:=lent_of hl j i hj;exact ⟨_,yF h⟩
  have hlt : ∀ i ∈ L,i < nx:=fun i hi=>by
    obtain ⟨o,ho⟩:=hin i hi;exact hs.fresh _ ho
  obtain ⟨_,hc⟩:=hc;rw [lenN_eq] at hc ⊢
  let ρc : Nat → Option Value:=fun k=>ρ (sigO nx L k)
  let cx' : Cx:=⟨vM (okOf cx ρ ob) bor,ρc,w,0,L.length,[],true⟩
  let cxp : Cx:=⟨okOf cx ρ ob,ρc,w,0,L.length,[],true⟩
  have hnone : ρ (sigO nx L L.length) = none:=by rw [kZ (Nat.le_refl _)];exact hs.names _ (by omega)
  have hcl : ∀ p ∈ obc,p.1 < L.length ∧ ∃ i,L[p.1]? = some i ∧ i = sigO nx L p.1 ∧ getO ob i = some (p.2.ren (sigO nx L)):=by
    intro p hp;obtain ⟨_,i,h1,h2⟩:=bM hl p hp;rw [Nat.sub_zero] at h1;exact ⟨(List.getElem?_eq_some_iff.1 h1).1,i,h1,(xM h1).symm,h2⟩
  have hmemc : ∀ p ∈ obc,(sigO nx L p.1,p.2.ren (sigO nx L)) ∈ ob:=by
    intro p hp;obtain ⟨_,i,_,e,h2⟩:=hcl p hp;rw [← e];exact yF h2
  have hmemL : ∀ k,k < L.length → ∃ o,(sigO nx L k,o) ∈ ob:=by
    intro k hk;rw [xM (List.getElem?_eq_getElem hk)];exact hin _ (List.getElem_mem hk)
  have hborL : ∀ b,bor b → ∀ k,k < L.length → blk (ρ (sigO nx L k)) ≠ some b:=by
    intro b hb k hk e;obtain ⟨p,hp,hpL,e2⟩:=hbor b hb;obtain ⟨o,ho⟩:=hmemL k hk;refine hs.sep p hp _ ho (fun e3=>hpL ?_) b e2 e;rw [show p.1 = _ from e3,xM (List.getElem?_eq_getElem hk)];exact List.getElem_mem hk
  have hk1 : xI (okOf cx ρ ob) (okOf cx' ρc obc) w w:=fun _ b hb _=>⟨⟨.inl (.inl hb),fun p hp=>hb.2 _ (hmemc p hp)⟩,rfl⟩
  have hk0 : xI (vM (okOf cx ρ ob) bor) (okOf cx' ρc obc) w w:=fun _ b hb _=>⟨⟨.inl hb,fun p hp=>hb.elim (fun hb=>hb.2 _ (hmemc p hp)) fun hb=>hborL b hb.2 _ (hcl p hp).1⟩,rfl⟩
  have hs' : StOk cx' [] obc L.length ρc ⟨#[],[]⟩ w:=by
    refine ⟨rfl,uL.none rfl,fun _=>trivial,fun p hp=>?_,lent_nd hl,fun p hp=>(hcl p hp).1,fun i hi=>?_,Nat.le_refl _,fun p hp q hq hne b e1 e2=>?_,fun p hp b e=>⟨?_,.inr ⟨p.1,(hcl p hp).1,e⟩⟩,⟨rfl,rfl,rfl,Nat.le_refl _,fun _ _ _ _=>rfl,fun _ _=>.rfl' rfl⟩,fun i b hi e kk=>?_,fun _ _ _ _=>rfl,⟨fun g hg=>.inl (hs.globAt.1 g hg),hs.globAt.2⟩,.none hnone⟩
    · have h1:=hs.obs _ (hmemc p hp);exact Ob.kept hk1 (fun _ _=>rfl) (Ob.ren_is.1 h1)
    · exact hs.names _ (by rw [kZ hi];omega)
    · exact hs.sep _ (hmemc p hp) _ (hmemc q hq) (fun e=>hne (sigO_inj hnd hlt e)) b e1 e2
    · exact (hs.low _ (hmemc p hp) b e).1
    · intro hb;rcases hb with hb|hb
      · obtain ⟨o,ho⟩:=hmemL i hi;exact hb.2 _ ho e
      · exact hborL b hb.2 i hi e
  refine (hc cx' ρc w vs ⟨rfl,rfl,rfl⟩ rfl rfl hs' ((fT.1 hargs).kept hk0)).mono ?_
  rintro e w' ⟨u,ρ',rfl,hs2,hr,hps⟩
  let ρ2:=backN nx L ρ ρ'
  have hin2 : ∀ k,ρ2 (sigO nx L k) = ρ' k:=backN_in hnd hlt;have hout : ∀ i,i < nx → i ∉ L → ρ2 i = ρ i:=fun i h1 h2=>backN_out h1 h2
  have hren : (fun i=>ρ2 (sigO nx L i)) = ρ':=funext hin2
  let ob2 : Obs:=appO (jA (sigO nx L) obc') (vD L bad ob)
  have hmem2 : ∀ p ∈ ob2,(∃ q ∈ obc',p = (sigO nx L q.1,q.2.ren (sigO nx L))) ∨ (∃ q ∈ ob,q.1 ∉ L ∧ p = (q.1,q.2.drp bad)):=by
    intro p hp;have hp : p ∈ jA (sigO nx L) obc' ++ vD L bad ob:=by rw [← appO_eq];exact hp
    rcases List.mem_append.1 hp with h|h
    · exact .inl (kB h)
    · exact .inr (cK h)
  have hlow2 : ∀ q ∈ obc',∀ b,blk (ρ' q.1) = some b → w.heap.size ≤ b ∨ ∃ k,k < L.length ∧ blk (ρ (sigO nx L k)) = some b:=fun q hq b e=>(hs2.low q hq b e).2
  have hlentb : ∀ k b,k < L.length → blk (ρ (sigO nx L k)) = some b → ∃ o,(sigO nx L k,o) ∈ ob ∧ b < w.heap.size:=by
    intro k b hk e;obtain ⟨o,ho⟩:=hmemL k hk;exact ⟨o,ho,(hs.low _ ho b e).1⟩
  have hblock : ∀ b,b < w.heap.size → (∀ k,k < L.length → blk (ρ (sigO nx L k)) ≠ some b) → w'.heap[b]? = w.heap[b]?:=fun b hb h=>hs2.keep.block b hb (fun ⟨i,h1,h2⟩=>h i h1 h2) (fun hg=>wE (cx:=cx') hnone hg.1)
  have hk2 : xI (okOf cx ρ ob) (okOf cx ρ2 ob2) w w':=by
    intro _ b hb hlt';have hno : ∀ k,k < L.length → blk (ρ (sigO nx L k)) ≠ some b:=fun k hk e=>by
      obtain ⟨o,ho⟩:=hmemL k hk;exact hb.2 _ ho e
    refine ⟨⟨hb.1,fun p hp e=>?_⟩,hblock b hlt' hno⟩;rcases hmem2 p hp with ⟨q,hq,rfl⟩|⟨q,hq,hqL,rfl⟩
    · rw [hin2] at e;rcases hlow2 q hq b e with h|⟨_,h⟩
      · omega
      · exact hno _ h.1 h.2
    · rw [hout _ (hs.fresh q hq) hqL] at e;exact hb.2 q hq e
  have hpass : (∀ p ∈ obc',p.2.is (okOf cxp ρ' obc') ρ' w' p.1) ∧ r.rep (okOf cxp ρ' obc') ρ' w' u:=by
    have hbk : Back (okOf cx' ρ' obc') (okOf cxp ρ' obc'):=fun k b hk1 hb=>⟨hb.1.imp (fun h=>h.elim id fun h=>absurd h.1 hk1) id,hb.2⟩
    rcases hno1 with h0|⟨h1,h2⟩
    · have hkk : xI (okOf cx' ρ' obc') (okOf cxp ρ' obc') w' w':=fun k b hb _=>⟨⟨hb.1.imp (fun h=>h.elim id fun h=>absurd h.2 (h0 b)) id,hb.2⟩,rfl⟩
      exact ⟨fun p hp=>Ob.kept hkk (fun _ _=>rfl) (hs2.obs p hp),A.kept hkk hr⟩
    · exact ⟨fun p hp=>Ob.back hbk (no1Ob_mem h1 hp) (hs2.obs p hp),A.back hbk h2 hr⟩
  have hk3 : xI (okOf cxp ρ' obc') (okOf cx ρ2 ob2) w' w':=by
    intro kc b hb _;have h1 : okOf cx ρ ob kc b ∨ (w.heap.size ≤ b ∧ frK kc) ∨ (frK kc ∧ ∃ i,i < L.length ∧ blk (ρ (sigO nx L i)) = some b):=hb.1;refine ⟨⟨?_,fun p hp e=>?_⟩,rfl⟩
    · rcases h1 with h1|h1|⟨h7,i,hi,h1⟩
      · exact h1.1
      · exact .inr (.inl ⟨Nat.le_trans hs.keep.size h1.1,h1.2⟩)
      · obtain ⟨o,ho⟩:=hmemL i hi;rcases (hs.low _ ho b h1).2 with h2|h2
        · exact .inr (.inl ⟨h2,h7⟩)
        · exact .inr (.inr ⟨h7,h2⟩)
    · rcases hmem2 p hp with ⟨q,hq,rfl⟩|⟨q,hq,hqL,rfl⟩
      · rw [hin2] at e;exact hb.2 q hq e
      · rw [hout _ (hs.fresh q hq) hqL] at e;rcases h1 with h1|h1|⟨_,i,hi,h1⟩
        · exact h1.2 q hq e
        · have:=(hs.low q hq b e).1;have:=h1.1;omega
        · obtain ⟨o,ho⟩:=hmemL i hi;refine hs.sep q hq _ ho (fun e2=>hqL ?_) b e h1;rw [show q.1 = _ from e2,xM (List.getElem?_eq_getElem hi)];exact List.getElem_mem hi
  have hdrp : Drp bad (okOf cx ρ ob) (okOf cx ρ2 ob2) ρ ρ2 w w':=by
    refine ⟨fun i p e=>?_,fun i v hb e=>?_,hk2⟩
    · have hi : i < nx:=Nat.lt_of_not_ge fun h=>by rw [hs.names i h] at e;cases e
      by_cases hL : i ∈ L
      · obtain ⟨k,hk⟩:=List.getElem?_of_mem hL;have hkl:=(List.getElem?_eq_some_iff.1 hk).1;rw [← xM (nx:=nx) hk] at e ⊢;rw [hin2];exact (hs2.pin k hkl p e).trans e
      · rw [hout i hi hL];exact e
    · have hi : i < nx:=Nat.lt_of_not_ge fun h=>by rw [hs.names i h] at e;cases e
      by_cases hL : i ∈ L
      · obtain ⟨k,hk⟩:=List.getElem?_of_mem hL;have hkl:=(List.getElem?_eq_some_iff.1 hk).1;obtain ⟨o,ho,hgo⟩:=lent_of hl k i hk;rw [Nat.zero_add] at ho;cases o with
        | box T cs =>
          obtain ⟨b,us,h1,_⟩:=hs.obs _ (yF hgo);have h1 : ρ i = some (.pointer (some ⟨b,0,none⟩)):=h1;rw [← xM (nx:=nx) hk] at e h1 ⊢;rw [hin2];exact (hs2.pin k hkl _ h1).trans e
        | vec E R xs =>
          rcases hbad k i _ rfl hk ho with h1|h1
          · exact absurd h1 (vO.1 hb)
          · rw [← xM (nx:=nx) hk] at e ⊢;rw [hin2,hps k h1];exact e
        | map g R es =>
          rcases hbad k i _ rfl hk ho with h1|h1
          · exact absurd h1 (vO.1 hb)
          · rw [← xM (nx:=nx) hk] at e ⊢;rw [hin2,hps k h1];exact e
      · rw [hout i hi hL];exact e
  refine ⟨u,ρ2,rfl,⟨hs.size,hs.defers.kept (fun b _ e hn=>hblock b (Array.getElem?_eq_some_iff.1 e).1 fun k hk e'=>by
    obtain ⟨o,ho⟩:=hmemL k hk;exact hs.notDef ho e hn e'.symm),fun i=>by rw [get_drp];exact A.drp_rep hdrp (hs.tms i),?_,?_,?_,?_,Nat.le_trans hs.nx0 (Nat.le_add_right _ _),?_,?_,?_,hs.disj,?_,hs.glob,hs.bags⟩,A.ren_rep.2 (by rw [hren];exact A.kept hk3 hpass.2)⟩
  · intro p hp;rcases hmem2 p hp with ⟨q,hq,rfl⟩|⟨q,hq,hqL,rfl⟩
    · refine Ob.ren_is.2 ?_;rw [hren];exact Ob.kept hk3 (fun _ _=>rfl) (hpass.1 q hq)
    · refine Ob.drp_is hdrp (hout _ (hs.fresh q hq) hqL) (fun b e=>?_) (hs.obs q hq);refine hblock b (hs.low q hq b e).1 fun k hk e'=>?_
      obtain ⟨o,ho⟩:=hmemL k hk;refine hs.sep q hq _ ho (fun e2=>?_) b e e';exact hqL (by rw [show q.1 = _ from e2,xM (List.getElem?_eq_getElem hk)];exact List.getElem_mem hk)
  · rw [appO_eq,List.map_append,aE];refine List.nodup_append.2 ⟨?_,hs.nd.sublist iC,?_⟩
    · exact List.Pairwise.map _ (fun _ _ h e=>h (sigO_inj hnd hlt e)) hs2.nd
    · rintro i hi j hj rfl
      obtain ⟨k,_,hk⟩:=List.mem_map.1 hi;obtain ⟨p,hp,hp1⟩:=List.mem_map.1 hj;obtain ⟨q,hq,hqL,rfl⟩:=cK hp;simp only at hp1;have hqn:=hs.fresh q hq;rcases Nat.lt_or_ge k L.length with h|h
      · rw [xM (List.getElem?_eq_getElem h)] at hk;exact hqL (by rw [hp1,← hk];exact List.getElem_mem h)
      · rw [kZ h] at hk;omega
  · intro p hp;have hm : L.length ≤ m':=hs2.nx0;rcases hmem2 p hp with ⟨q,hq,rfl⟩|⟨q,hq,hqL,rfl⟩
    · have h1:=hs2.fresh q hq;simp only;rcases Nat.lt_or_ge q.1 L.length with h|h
      · rw [xM (List.getElem?_eq_getElem h)];have:=hlt _ (List.getElem_mem h);omega
      · rw [kZ h];omega
    · have:=hs.fresh q hq;simp only;omega
  · intro i hi;have hm : L.length ≤ m':=hs2.nx0;have e : i = sigO nx L (L.length + (i - nx)):=by rw [kZ (by omega)];omega
    rw [show ρ2 i = _ from congrArg ρ2 e,hin2];exact hs2.names _ (by omega)
  · intro p hp q hq hne b e1 e2;rcases hmem2 p hp with ⟨p',hp',rfl⟩|⟨p',hp',hpL,rfl⟩ <;> rcases hmem2 q hq with ⟨q',hq',rfl⟩|⟨q',hq',hqL,rfl⟩
    · rw [hin2] at e1 e2;exact hs2.sep p' hp' q' hq' (fun e=>hne (by simp only [e])) b e1 e2
    · rw [hin2] at e1;rw [hout _ (hs.fresh q' hq') hqL] at e2;have hb:=(hs.low q' hq' b e2).1;rcases hlow2 p' hp' b e1 with h|⟨_,h⟩
      · omega
      · obtain ⟨o,ho⟩:=hmemL _ h.1;refine hs.sep q' hq' _ ho (fun e=>?_) b e2 h.2;exact hqL (by rw [show q'.1 = _ from e,xM (List.getElem?_eq_getElem h.1)];exact List.getElem_mem h.1)
    · rw [hin2] at e2;rw [hout _ (hs.fresh p' hp') hpL] at e1;have hb:=(hs.low p' hp' b e1).1;rcases hlow2 q' hq' b e2 with h|⟨_,h⟩
      · omega
      · obtain ⟨o,ho⟩:=hmemL _ h.1;refine hs.sep p' hp' _ ho (fun e=>?_) b e1 h.2;exact hpL (by rw [show p'.1 = _ from e,xM (List.getElem?_eq_getElem h.1)];exact List.getElem_mem h.1)
    · rw [hout _ (hs.fresh p' hp') hpL] at e1;rw [hout _ (hs.fresh q' hq') hqL] at e2;exact hs.sep p' hp' q' hq' hne b e1 e2
  · intro p hp b e;rcases hmem2 p hp with ⟨q,hq,rfl⟩|⟨q,hq,hqL,rfl⟩
    · rw [hin2] at e;refine ⟨(hs2.low q hq b e).1,?_⟩;rcases hlow2 q hq b e with h|⟨_,h⟩
      · exact .inl (Nat.le_trans hs.keep.size h)
      · obtain ⟨o,ho⟩:=hmemL _ h.1;exact (hs.low _ ho b h.2).2
    · rw [hout _ (hs.fresh q hq) hqL] at e;have:=hs.low q hq b e;exact ⟨Nat.lt_of_lt_of_le this.1 hs2.keep.size,this.2⟩
  · refine ⟨hs2.keep.os.trans hs.keep.os,hs2.keep.tape.trans hs.keep.tape,hs2.keep.output.trans hs.keep.output,Nat.le_trans hs.keep.size hs2.keep.size,fun b hb ho hbg=>?_,fun b hbg=>(hs.keep.shape b hbg).trans (.rfl' (hblock b (Nat.lt_of_lt_of_le (hs.bags b hbg).1 hs.keep.size) fun k hk e=>by obtain ⟨o,ho'⟩:=hmemL k hk;exact hs.bag_own hbg ho' e))⟩;rw [hblock b (Nat.lt_of_lt_of_le hb hs.keep.size) fun k hk e=>?_,hs.keep.block b hb ho hbg];obtain ⟨o,ho'⟩:=hmemL k hk;rcases (hs.low _ ho' b e).2 with h|h
    · omega
    · exact ho h
  · intro i hi p e;have h1:=(hs.pin i hi p e).trans e;exact (hdrp.ptr i p h1).trans e.symm
theorem borOk_no {ok : Oks} : vM ok (fun _=>False) = ok:=by
  funext k b
  apply propext;exact ⟨fun h=>h.elim id fun h=>h.2.elim,.inl⟩
theorem dI {g : FuncId} {L : List Nat} {as : List A} {obc obc' : Obs} {r : A} {m' : Nat} {vs : List Value} (hs : StOk cx tm ob nx ρ a w) (hc : yB P g as obc (lenN L) r obc' m')
    (hargs : yX (okOf cx ρ ob) ρ w (renAs (sigO nx L) as) vs) (hl : gT ob (sigO nx L) 0 L obc) (hd : ndN L = true) :
    Calls P g vs.toArray w fun e w'=>∃ u ρ',e = .returned u ∧ StOk cx (gW (uK L obc) tm) (appO (jA (sigO nx L) obc') (vD L (uK L obc) ob)) (nx + (m' - lenN L)) ρ' a w' ∧
      (r.ren (sigO nx L)).rep (okOf cx ρ' (appO (jA (sigO nx L) obc') (vD L (uK L obc) ob))) ρ' w' u :=
  lend_gen (fun _=>False) hs hc.x (by rw [borOk_no];exact hargs) hl hd (fun _ h=>h.elim) (.inl fun _ h=>h) fun j i o hv h1 h2=>.inl (bad_of hl j i o hv h1 (by rw [Nat.zero_add];exact h2))
end
def C.closed : C → Bool
  | .own _ _=>false
  | .vec _=>false
  | .vel _ _ _=>false
  | .ifc _ c=>c.closed
  | .clo _ c=>c.closed
  | .clo2 _ c d=>match c.closed with
    | true=>d.closed
    | false=>false
  | .clo3 _ c d e=>match c.closed with
    | true=>match d.closed with
      | true=>e.closed
      | false=>false
    | false=>false
  | .ref c=>c.closed
  | .nself _ _=>false
  | .fx _ _=>false
  | .vof _ _ _ _=>false
  | .mp _=>false
  | _=>true
def vU : List C → Bool
  | []=>true
  | c :: r=>match c.closed with
    | true=>vU r
    | false=>false
def closedT : List (Bool × List C) → Bool
  | []=>true
  | p :: r=>match vU p.2 with
    | true=>closedT r
    | false=>false
def A.closed : A → Bool
  | .one c=>c.closed
  | .agg cs=>vU cs
  | .tup cs=>closedT cs
  | .cond _ a=>a.closed
def kH : List A → Bool
  | []=>true
  | a :: r=>match a.closed with
    | true=>kH r
    | false=>false
def qX (P : Program) (f : FuncId) (args : List A) (r : A) : Prop :=
  FnOk P f ∧ ∀ (ok : Oks) (w : World) (vs : List Value),cA ok w → yX ok yI w args vs → Calls P f vs.toArray w fun e w'=>∃ u,e = .returned u ∧ Below w.heap.size w w' ∧ r.rep (grow ok w) yI w' u
section
variable {ok : Oks} {ρ ρ' : Nat → Option Value} {w : World}
theorem C.closed_rep : ∀ {c : C} {v : Value},c.closed = true → c.rep ok ρ w v → c.rep ok ρ' w v
  | .any,_,_,_=>trivial
  | .lit _,_,_,h=>h
  | .slk _ _ _,_,_,h=>h
  | .full _ _,_,_,h=>h
  | .adk _ _ _,_,_,h=>h
  | .own _ _,_,hc,_=>by cases hc
  | .vec _,_,hc,_=>by cases hc
  | .vel _ _ _,_,hc,_=>by cases hc
  | .ifc _ c,_,hc,h=>by obtain ⟨u,hv,h⟩:=h;exact ⟨u,hv,C.closed_rep (c:=c) hc h⟩
  | .clo _ c,_,hc,h=>by obtain ⟨u,hv,h⟩:=h;exact ⟨u,hv,C.closed_rep (c:=c) hc h⟩
  | .clo2 _ c d,_,hc,h=>by
    obtain ⟨u,x,hv,h,h'⟩:=h;unfold C.closed at hc;split at hc
    · rename_i e;exact ⟨u,x,hv,C.closed_rep (c:=c) e h,C.closed_rep (c:=d) hc h'⟩
    · cases hc
  | .clo3 _ c d k,_,hc,h=>by
    obtain ⟨u,x,y,hv,h,h',h''⟩:=h;unfold C.closed at hc;split at hc
    · rename_i e;split at hc
      · rename_i e2;exact ⟨u,x,y,hv,C.closed_rep (c:=c) e h,C.closed_rep (c:=d) e2 h',C.closed_rep (c:=k) hc h''⟩
      · cases hc
    · cases hc
  | .ref c,_,hc,h=>by obtain ⟨b,off,u,hv,h1,h2,h3,h⟩:=h;exact ⟨b,off,u,hv,h1,h2,h3,C.closed_rep (c:=c) hc h⟩
  | .nself _ _,_,hc,_=>by cases hc
  | .fx _ _,_,hc,_=>by cases hc
  | .vof _ _ _ _,_,hc,_=>by cases hc
  | .mp _,_,hc,_=>by cases hc
theorem bU : ∀ {cs : List C} {vs : List Value},vU cs = true → repL ok ρ w cs vs → repL ok ρ' w cs vs
  | [],_,_,h=>h
  | c :: r,_,hc,h=>by
    unfold vU at hc;split at hc
    · rename_i h1;obtain ⟨v,r,e,h2,h3⟩:=h;exact ⟨v,r,e,C.closed_rep h1 h2,bU hc h3⟩
    · cases hc
theorem iO : ∀ {g : Bool} {cs : List C} {v : Value},vU cs = true → repV ok ρ w g cs v → repV ok ρ' w g cs v
  | true,_,_,hc,h=>by obtain ⟨vs,e,h⟩:=h;exact ⟨vs,e,bU hc h⟩
  | false,_,_,hc,h=>bU hc h
theorem iP : ∀ {cs : List (Bool × List C)} {vs : List Value},closedT cs = true → repT ok ρ w cs vs → repT ok ρ' w cs vs
  | [],_,_,h=>h
  | c :: r,_,hc,h=>by
    unfold closedT at hc;split at hc
    · rename_i h1;obtain ⟨v,r,e,h2,h3⟩:=h;exact ⟨v,r,e,iO h1 h2,iP hc h3⟩
    · cases hc
theorem A.closed_rep : ∀ {a : A} {v : Value},a.closed = true → a.rep ok ρ w v → a.rep ok ρ' w v
  | .one _,_,hc,h=>C.closed_rep hc h
  | .agg _,_,hc,h=>iO (g:=true) hc h
  | .tup _,_,hc,h=>by obtain ⟨vs,e,h⟩:=h;exact ⟨vs,e,iP hc h⟩
  | .cond _ a,_,hc,h=>⟨fun hb=>A.closed_rep (a:=a) hc (h.1 hb),h.2⟩
theorem kS : ∀ {as : List A} {vs : List Value},kH as = true → yX ok ρ w as vs → yX ok ρ' w as vs
  | [],_,_,h=>h
  | a :: r,_,hc,h=>by
    unfold kH at hc;split at hc
    · rename_i h1;obtain ⟨v,r,e,h2,h3⟩:=h;exact ⟨v,r,e,A.closed_rep h1 h2,kS hc h3⟩
    · cases hc
end
def tgt : A → Option (FuncId × List A)
  | .one (.lit (.func (.func f) ⟨[]⟩ ⟨[]⟩))=>some (f,[])
  | .one (.clo f c)=>some (f,[.one c])
  | .one (.clo2 f c d)=>some (f,[.one c,.one d])
  | .one (.clo3 f c d e)=>some (f,[.one c,.one d,.one e])
  | _=>none
def appA : List A → List A → List A
  | [],ys=>ys
  | x :: xs,ys=>x :: appA xs ys
def C.ids : C → List Nat
  | .vec i=>[i]
  | .ifc _ c=>c.ids
  | .clo _ (.own i 0)=>[i]
  | .clo _ c=>c.ids
  | .clo2 _ (.own i 0) (.own j 0)=>[i,j]
  | .clo3 _ (.own i 0) (.own j 0) (.own k 0)=>[i,j,k]
  | .ref c=>c.ids
  | _=>[]
def idsL : List C → List Nat
  | []=>[]
  | c :: r=>match c.ids with
    | []=>idsL r
    | i :: _=>i :: idsL r
def A.ids : A → List Nat
  | .one c=>c.ids
  | .agg cs=>idsL cs
  | _=>[]
def idsA : List A → List Nat
  | []=>[]
  | a :: r=>match a.ids with
    | []=>idsA r
    | i :: is=>i :: appN is (idsA r)
where appN : List Nat → List Nat → List Nat
  | [],ys=>ys
  | x :: xs,ys=>x :: appN xs ys
def frz (te : List (TypeId × TyI)) (nx0 : Nat) : List Nat → Tm → Obs → (Tm → Obs → Prop) → Prop
  | [],tm,ob,K=>K tm ob
  | i :: r,tm,ob,K=>match getO ob i with
    | some (.vec _ R xs)=>frz te nx0 r (vF i (.sl R xs) tm) (kG i (.sl R xs) (jF i ob)) K
    | some (.box T cs)=>match boxC te T cs with
      | some d=>frz te nx0 r (vF i d tm) (kG i d (jF i ob)) K
      | none=>False
    | some (.map _ _ _)=>False
    | none=>frz te nx0 r tm ob K
def inOb (ob : Obs) (i : Nat) : List Nat:=match getO ob i with
  | some (.box _ cs)=>idsL cs
  | _=>[]
def deepF (f : List Nat → List Nat) (ob : Obs) : List Nat → List Nat
  | []=>[]
  | i :: r=>idsA.appN (f (inOb ob i)) (i :: deepF f ob r)
def deep (ob : Obs) : Nat → List Nat → List Nat
  | 0,is=>is
  | n + 1,is=>deepF (deep ob n) ob is
def rdOf {α : Type} (R : Rd α) (cs : List C) : Option ((Rd α × α) × List C):=match ofL R cs with
  | some (x,r)=>some ((R,x),r)
  | none=>none
def borL (ob : Obs) (L : List Nat) : {α : Type} → Rd α → List C → Option ((Rd α × α) × List C)
  | _,.slk k R,cs=>match cs with
    | .vec id :: r=>match memN L id with
      | true=>none
      | false=>match getO ob id with
        | some (.vec _ S xs)=>match Rd.same R S with
          | some h=>some ((.slk 1 R,Rd.move h.down xs),r)
          | none=>none
        | _=>none
    | .slk l S xs :: r=>match Rd.same R S with
      | some h=>some ((.slk l R,Rd.move h.down xs),r)
      | none=>none
    | cs=>rdOf (.slk k R) cs
  | _,.st R S,cs=>match borL ob L R cs with
    | some ((R',x),r)=>match borL ob L S r with
      | some ((S',y),r')=>some ((.st R' S',(x,y)),r')
      | none=>none
    | none=>none
  | _,.str,cs=>rdOf .str cs
  | _,.int k,cs=>rdOf (.int k) cs
  | _,.bool,cs=>rdOf .bool cs
  | _,.raw,cs=>rdOf .raw cs
  | _,.unk,cs=>rdOf .unk cs
  | _,.ptk k R,cs=>rdOf (.ptk k R) cs
  | _,.ifc t R,cs=>rdOf (.ifc t R) cs
def borB (te : List (TypeId × TyI)) (ob : Obs) (L : List Nat) (T : TypeId) (cs : List C) : Option C :=
  match find te T with
  | some i=>match i.rd with
    | some ⟨_,R⟩=>match borL ob L R cs with
      | some ((R',x),[])=>some (.adk 1 R' x)
      | _=>none
    | none=>none
  | none=>none
def C.bor (te : List (TypeId × TyI)) (ob : Obs) (L : List Nat) : C → C
  | .vec i=>match memN L i with
    | true=>.vec i
    | false=>match getO ob i with
      | some (.vec _ R xs)=>.slk 1 R xs
      | _=>.vec i
  | .own i o=>match memN L i with
    | true=>.own i o
    | false=>match o with
      | 0=>match getO ob i with
        | some (.box T cs)=>match borB te ob L T cs with
          | some d=>d
          | none=>.own i 0
        | _=>.own i 0
      | o + 1=>.own i (o + 1)
  | .ifc t c=>.ifc t (c.bor te ob L)
  | .clo f c=>.clo f (c.bor te ob L)
  | .clo2 f c d=>.clo2 f (c.bor te ob L) (d.bor te ob L)
  | .clo3 f c d e=>.clo3 f (c.bor te ob L) (d.bor te ob L) (e.bor te ob L)
  | .any=>.any
  | .lit v=>.lit v
  | .slk k R xs=>.slk k R xs
  | .full R xs=>.full R xs
  | .adk k R x=>.adk k R x
  | .vel i k n=>.vel i k n
  | .ref c=>.ref c
  | .nself u i=>.nself u i
  | .fx i u=>.fx i u
  | .vof i k n o=>.vof i k n o
  | .mp i=>.mp i
def borCs (te : List (TypeId × TyI)) (ob : Obs) (L : List Nat) : List C → List C
  | []=>[]
  | c :: r=>c.bor te ob L :: borCs te ob L r
def A.bor (te : List (TypeId × TyI)) (ob : Obs) (L : List Nat) : A → A
  | .one c=>.one (c.bor te ob L)
  | .agg cs=>.agg (borCs te ob L cs)
  | .tup cs=>.tup cs
  | .cond b a=>.cond b a
def zU (te : List (TypeId × TyI)) (ob : Obs) (L : List Nat) : List A → List A
  | []=>[]
  | a :: r=>a.bor te ob L :: zU te ob L r
theorem C.bor_closed {te : List (TypeId × TyI)} {ob : Obs} {L : List Nat} : ∀ {c : C},c.closed = true → c.bor te ob L = c
  | .vec _,h=>by cases h
  | .own _ _,h=>by cases h
  | .ifc t c,h=>by show C.ifc t (c.bor te ob L) = _;rw [C.bor_closed (c:=c) h]
  | .clo f c,h=>by show C.clo f (c.bor te ob L) = _;rw [C.bor_closed (c:=c) h]
  | .clo2 f c d,h=>by
    unfold C.closed at h;split at h
    · rename_i e;show C.clo2 f (c.bor te ob L) (d.bor te ob L) = _;rw [C.bor_closed (c:=c) e,C.bor_closed (c:=d) h]
    · cases h
  | .clo3 f c d k,h=>by
    unfold C.closed at h;split at h
    · rename_i e;split at h
      · rename_i e2;show C.clo3 f (c.bor te ob L) (d.bor te ob L) (k.bor te ob L) = _;rw [C.bor_closed (c:=c) e,C.bor_closed (c:=d) e2,C.bor_closed (c:=k) h]
      · cases h
    · cases h
  | .any,_=>rfl
  | .lit _,_=>rfl
  | .slk _ _ _,_=>rfl
  | .full _ _,_=>rfl
  | .adk _ _ _,_=>rfl
  | .vel _ _ _,_=>rfl
  | .ref _,_=>rfl
  | .nself _ _,_=>rfl
  | .fx _ _,_=>rfl
  | .vof _ _ _ _,_=>rfl
  | .mp _,h=>by cases h
theorem fH {te : List (TypeId × TyI)} {ob : Obs} {L : List Nat} : ∀ {cs : List C},vU cs = true → borCs te ob L cs = cs
  | [],_=>rfl
  | c :: r,h=>by
    unfold vU at h;split at h
    · rename_i e;show c.bor te ob L :: borCs te ob L r = _;rw [C.bor_closed e,fH h]
    · cases h
theorem A.bor_closed {te : List (TypeId × TyI)} {ob : Obs} {L : List Nat} : ∀ {a : A},a.closed = true → a.bor te ob L = a
  | .one c,h=>by show A.one (c.bor te ob L) = _;rw [C.bor_closed h]
  | .agg cs,h=>by show A.agg (borCs te ob L cs) = _;rw [fH h]
  | .tup _,_=>rfl
  | .cond _ _,_=>rfl
theorem aQ {te : List (TypeId × TyI)} {ob : Obs} {L : List Nat} : ∀ {as : List A},kH as = true → zU te ob L as = as
  | [],_=>rfl
  | a :: r,h=>by
    unfold kH at h;split at h
    · rename_i e;show a.bor te ob L :: zU te ob L r = _;rw [A.bor_closed e,aQ h]
    · cases h
def Bor (ob : Obs) (ρ : Nat → Option Value) (L : List Nat) : Nat → Prop:=fun b=>∃ p ∈ ob,p.1 ∉ L ∧ blk (ρ p.1) = some b
section
variable {te : List (TypeId × TyI)} {ok : Oks} {ρ : Nat → Option Value} {w : World} {ob : Obs} {L : List Nat}
theorem kT {bor : Nat → Prop} : xI ok (vM ok bor) w w:=fun _ _ h _=>⟨.inl h,rfl⟩
theorem bor_vec (hob : zB ok ρ w ob) {i : Nat} (hL : memN L i = false) {α : Type} {E : TypeId} {R : Rd α} {xs : List α} (hg : getO ob i = some (.vec E R xs)) {v : Value} (hv : ρ i = some v) : SlOk R.n (fun cs x=>R.is (vM ok (Bor ob ρ L)) w cs x) (okU (vM ok (Bor ob ρ L)) w 1) w v xs:=by
  obtain ⟨v',hv',hvec⟩ : ∃ v,ρ i = some v ∧ uF ok w v E R xs:=uR hob hg;rw [hv] at hv';obtain rfl:=Option.some.inj hv';exact vec_sl 1 hvec (fun k b h=>.inl h) fun b hb=>.inr ⟨rfl,_,yF hg,vO.1 hL,by rw [hv];exact hb⟩
theorem rdOf_of {α : Type} {R R' : Rd α} {cs : List C} {x : α} {r : List C} (h : rdOf R cs = some ((R',x),r)) : ofL R cs = some (x,r) ∧ R' = R:=by
  unfold rdOf at h;split at h
  · rename_i e;cases h;exact ⟨e,rfl⟩
  · cases h
theorem vZ {bor : Nat → Prop} {α : Type} {R R' : Rd α} {cs : List C} {x : α} {cr : List C} {vs : List Value} (h : rdOf R cs = some ((R',x),cr)) (hr : repL ok ρ w cs vs) : ∃ us r,vs = us ++ r ∧ R'.is (vM ok bor) w us x ∧ repL ok ρ w cr r:=by
  obtain ⟨h1,rfl⟩:=rdOf_of h;obtain ⟨us,r,e,h2,h3⟩:=jZ _ h1 hr;exact ⟨us,r,e,Rd.kept _ kT h2,h3⟩
theorem borL_rep (hob : zB ok ρ w ob) : ∀ {α : Type} (R : Rd α) {R' : Rd α} {cs : List C} {vs : List Value} {x : α} {cr : List C},borL ob L R cs = some ((R',x),cr) → repL ok ρ w cs vs →
    ∃ us r,vs = us ++ r ∧ R'.is (vM ok (Bor ob ρ L)) w us x ∧ repL ok ρ w cr r
  | _,.slk k R,R',cs,vs,x,cr,h,hr=>by
    unfold borL at h;split at h
    · split at h
      · cases h
      · rename_i hL;split at h
        · rename_i hg;split at h
          · rename_i hh _;obtain ⟨v,r,e,⟨h1,_⟩,h2⟩:=hr;cases h;cases hh.down;exact ⟨[v],r,e,⟨v,rfl,bor_vec hob hL hg h1⟩,h2⟩
          · cases h
        · cases h
    · split at h
      · rename_i hh _;obtain ⟨v,r,e,h1,h2⟩:=hr;cases h;cases hh.down;exact ⟨[v],r,e,⟨v,rfl,SlOk.kept (kT.u _) (fun _ _ h=>Rd.kept _ kT h) h1⟩,h2⟩
      · cases h
    · exact vZ h hr
  | _,.st R S,_,cs,vs,x,cr,h,hr=>by
    unfold borL at h;split at h
    · rename_i e1;split at h
      · rename_i e2;cases h;obtain ⟨us,r,e,h1,h3⟩:=borL_rep hob R e1 hr;obtain ⟨us',r',e',h1',h3'⟩:=borL_rep hob S e2 h3;exact ⟨us ++ us',r',by rw [e,e',List.append_assoc],⟨us,us',rfl,h1,h1'⟩,h3'⟩
      · cases h
    · cases h
  | _,.str,_,cs,vs,x,cr,h,hr=>by
    exact vZ h hr
  | _,.int _,_,cs,vs,x,cr,h,hr=>by
    exact vZ h hr
  | _,.bool,_,cs,vs,x,cr,h,hr=>by
    exact vZ h hr
  | _,.raw,_,cs,vs,x,cr,h,hr=>by
    exact vZ h hr
  | _,.unk,_,cs,vs,x,cr,h,hr=>by
    exact vZ h hr
  | _,.ptk _ _,_,cs,vs,x,cr,h,hr=>by
    exact vZ h hr
  | _,.ifc _ _,_,cs,vs,x,cr,h,hr=>by
    exact vZ h hr
theorem borB_rep (hob : zB ok ρ w ob) {T : TypeId} {cs : List C} {d : C} (h : borB te ob L T cs = some d) {i : Nat} (hL : memN L i = false) (hg : getO ob i = some (.box T cs)) {v : Value} (hv : ρ i = some v) : d.rep (vM ok (Bor ob ρ L)) ρ w v:=by
  obtain ⟨b,vs,h1,h2,h3⟩:=uR hob hg;rw [hv] at h1;obtain rfl:=Option.some.inj h1;unfold borB at h;split at h
  · split at h
    · rename_i R _;split at h
      · rename_i e;cases h;obtain ⟨us,r,e1,hus,hr'⟩:=borL_rep hob R e h3;rw [show r = [] from hr',List.append_nil] at e1;subst e1;refine ⟨b,0,vs,rfl,okU1 (.inr ⟨rfl,_,yF hg,vO.1 hL,by rw [hv];rfl⟩),(Array.getElem?_eq_some_iff.1 h2).1,⟨Rd.len _ hus,fun j _=>?_⟩,hus⟩;simp only [World.cell?,h2,Option.isSome_none,Bool.false_eq_true,if_false,List.getElem?_toArray,Nat.zero_add]
      · cases h
    · cases h
  · cases h
theorem C.bor_rep (hob : zB ok ρ w ob) : ∀ {c : C} {v : Value},c.rep ok ρ w v → (c.bor te ob L).rep (vM ok (Bor ob ρ L)) ρ w v
  | .vec i,v,h=>by
    unfold C.bor;split
    · exact h
    · rename_i hL;split
      · rename_i hg;exact bor_vec hob hL hg h.1
      · exact h
  | .own i o,v,h=>by
    unfold C.bor;split
    · exact h
    · rename_i hL;split
      · split
        · rename_i hg;split
          · rename_i hd;obtain ⟨b,h1,rfl⟩:=h;exact borB_rep hob hd hL hg h1
          · exact h
        · exact h
      · exact h
  | .ifc t c,v,h=>by obtain ⟨u,hv,h⟩:=h;exact ⟨u,hv,C.bor_rep hob h⟩
  | .clo f c,v,h=>by obtain ⟨u,hv,h⟩:=h;exact ⟨u,hv,C.bor_rep hob h⟩
  | .clo2 f c d,v,h=>by obtain ⟨u,x,hv,h,h'⟩:=h;exact ⟨u,x,hv,C.bor_rep hob h,C.bor_rep hob h'⟩
  | .clo3 f c d e,v,h=>by obtain ⟨u,x,y,hv,h,h',h''⟩:=h;exact ⟨u,x,y,hv,C.bor_rep hob h,C.bor_rep hob h',C.bor_rep hob h''⟩
  | .any,_,h=>trivial
  | .lit _,_,h=>h
  | .slk k R xs,_,h=>C.kept (c:=.slk k R xs) (ρ:=ρ) kT h
  | .full R xs,_,h=>C.kept (c:=.full R xs) (ρ:=ρ) kT h
  | .adk k R x,_,h=>C.kept (c:=.adk k R x) (ρ:=ρ) kT h
  | .vel i k n,_,h=>h
  | .ref c,_,h=>C.kept (c:=.ref c) (ρ:=ρ) kT h
  | .nself _ _,_,h=>h
  | .fx _ _,_,h=>h
  | .vof _ _ _ _,_,h=>h
  | .mp _,_,h=>h
theorem borCs_rep (hob : zB ok ρ w ob) : ∀ {cs : List C} {vs : List Value},repL ok ρ w cs vs → repL (vM ok (Bor ob ρ L)) ρ w (borCs te ob L cs) vs
  | [],_,h=>h
  | _ :: _,_,h=>by
    obtain ⟨v,r,e,h1,h2⟩:=h;exact ⟨v,r,e,C.bor_rep hob h1,borCs_rep hob h2⟩
theorem A.bor_rep (hob : zB ok ρ w ob) : ∀ {a : A} {v : Value},a.rep ok ρ w v → (a.bor te ob L).rep (vM ok (Bor ob ρ L)) ρ w v
  | .one _,_,h=>C.bor_rep hob h
  | .agg _,_,h=>by obtain ⟨vs,e,h⟩:=h;exact ⟨vs,e,borCs_rep hob h⟩
  | .tup cs,_,h=>A.kept (a:=.tup cs) (ρ:=ρ) kT h
  | .cond b a,_,h=>A.kept (a:=.cond b a) (ρ:=ρ) kT h
theorem cQ (hob : zB ok ρ w ob) : ∀ {as : List A} {vs : List Value},yX ok ρ w as vs → yX (vM ok (Bor ob ρ L)) ρ w (zU te ob L as) vs
  | [],_,h=>h
  | _ :: _,_,h=>by
    obtain ⟨v,r,e,h1,h2⟩:=h;exact ⟨v,r,e,A.bor_rep hob h1,cQ hob h2⟩
end
def vW : List C → Bool
  | []=>true
  | c :: r=>match c.sure with
    | true=>vW r
    | false=>false
def sndL : List (Nat × A) → List A
  | []=>[]
  | p :: r=>p.2 :: sndL r
def vrK (v : Vr) (K : A → Prop) : Prop :=
  match v with
  | .ok v=>K v
  | .need p v=>p ∧ K v
  | .know p v=>p → K v
  | .bad=>False
def litL : List Value → List C
  | []=>[]
  | v :: r=>.lit v :: litL r
def sure1 (r : A) (K : Prop) : Prop:=match r.no1 with
  | true=>K
  | false=>False
def sureA (as : List A) (r : A) (K : Prop) : Prop:=match kH as with
  | true=>K
  | false=>sure1 r K
def callK (P : Program) (te : List (TypeId × TyI)) (ob : Obs) (lk : Operand → A) (f : Operand) (args : List Operand) (K : A → Prop) : Prop :=
  match tgt (lk f) with
  | some (g,caps)=>kH (zU te ob [] (appA (mapL lk args) caps)) = true ∧ ∃ r,qX P g (zU te ob [] (appA (mapL lk args) caps)) r ∧ sureA (appA (mapL lk args) caps) r (K r)
  | none=>False
def lendK (P : Program) (te : List (TypeId × TyI)) (nx0 : Nat) (f : Operand) (args : List Operand) (tm : Tm) (ob : Obs) (nx : Nat) (K : A → Tm → Obs → Nat → Prop) : Prop :=
  ∃ F,frz te nx0 F tm ob fun tm ob=>match tgt (look tm f) with
  | some (g,caps)=>∃ (L : List Nat) (as : List A) (obc : Obs) (r : A) (obc' : Obs) (m' : Nat),yB P g as obc (lenN L) r obc' m' ∧ renAs (sigO nx L) as = appA (mapL (look tm) args) caps ∧ gT ob (sigO nx L) 0 L obc ∧ ndN L = true ∧
      K (r.ren (sigO nx L)) (gW (uK L obc) tm) (appO (jA (sigO nx L) obc') (vD L (uK L obc) ob)) (nx + (m' - lenN L))
  | none=>False
def lendX (P : Program) (te : List (TypeId × TyI)) (f : Operand) (args : List Operand) (tm : Tm) (ob : Obs) (nx : Nat) (K : A → Tm → Obs → Nat → Prop) : Prop :=
  match tgt (look tm f) with
  | some (g,caps)=>∃ (L ps : List Nat) (as : List A) (obc : Obs) (r : A) (obc' : Obs) (m' : Nat),ACallX P g as obc (lenN L) r obc' m' ps ∧ renAs (sigO nx L) as = zU te ob L (appA (mapL (look tm) args) caps) ∧ gT ob (sigO nx L) 0 L obc ∧
      (match ndN L,no1Ob obc',r.no1 with|true,true,true=>true|_,_,_=>false) = true ∧
      K (r.ren (sigO nx L)) (gW (badX ps 0 L obc) tm) (appO (jA (sigO nx L) obc') (vD L (badX ps 0 L obc) ob)) (nx + (m' - lenN L))
  | none=>False
def srcOf (ob : Obs) (x : A) : Option (Sigma fun α : Type=>Rd α × List α) :=
  match x with
  | .one (.slk _ R xs)=>some ⟨_,R,xs⟩
  | .one (.full R xs)=>some ⟨_,R,xs⟩
  | .one (.vec id)=>match getO ob id with
    | some (.vec _ R xs)=>some ⟨_,R,xs⟩
    | _=>none
  | _=>none
def isNil : A → Bool
  | .one (.lit (.slice none 0 0))=>true
  | _=>false
def aggA : A → Bool
  | .agg _=>true
  | _=>false
def aEff (te : List (TypeId × TyI)) (N nx0 : Nat) (o : Oper) (tm : Tm) (ob : Obs) (nx : Nat) (K : Tm → Obs → Nat → Prop) : Prop :=
  match o.op with
  | .alloc t=>match find te t with
    | some i=>put N o.dst (.one (.own nx 0)) tm fun tm=>K tm ((nx,.box t (litL i.zero)) :: ob) (nx + 1)
    | none=>False
  | .box t x=>match find te t,wH (look tm x) with
    | some i,some cs=>match Nat.beq (lenC cs) i.size,vW cs with
      | true,true=>put N o.dst (.one (.own nx 0)) tm fun tm=>K tm ((nx,.box t cs) :: ob) (nx + 1)
      | _,_=>False
    | _,_=>False
  | .store t d x=>match find te t,look tm d with
    | some i,.one (.own id off)=>match getO ob id,wH (look tm x) with
      | some (.box T cs),some ns=>match Nat.beq (lenC ns) i.size,Nat.ble (off + lenC ns) (lenC cs),vW ns with
        | true,true,true=>put N o.dst (.one .any) tm fun tm=>K tm (setO id (.box T (setC off ns cs)) ob) nx
        | _,_,_=>False
      | _,_=>False
    | some i,.one (.vel id k n)=>frz te nx0 (look tm x).ids tm ob fun tm ob=>match getO ob id,wH (look tm x) with
      | some (.vec E R xs),some ns=>match Nat.beq (lenC ns) i.size,Nat.beq n R.n,vW ns,ofL R ns with
        | true,true,true,some (y,[])=>k < xs.length ∧ put N o.dst (.one .any) tm fun tm=>K tm (setO id (.vec E R (xs.set k y)) ob) nx
        | _,_,_,_=>False
      | _,_=>False
    | some i,.one (.vof id k n off)=>frz te nx0 (look tm x).ids tm ob fun tm ob=>match getO ob id,wH (look tm x) with
      | some (.vec E R xs),some ns=>match Nat.beq (lenC ns) i.size,Nat.beq n R.n,Nat.ble (off + lenC ns) R.n,vW ns,ofL R (setC off ns (toL R (xs.getD k R.dflt))) with
        | true,true,true,true,some (y,[])=>k < xs.length ∧ put N o.dst (.one .any) tm fun tm=>K tm (setO id (.vec E R (xs.set k y)) ob) nx
        | _,_,_,_,_=>False
      | _,_=>False
    | _,_=>False
  | .buildSlice t n ps=>frz te nx0 (idsA (sndL (lks (look tm) ps.toList))) tm ob fun tm ob=>match vElems te t n (lks (look tm) ps.toList) with
    | some ⟨_,R,xs,e⟩=>put N o.dst (.one (.vec nx)) tm fun tm=>K tm ((nx,.vec e R xs) :: ob) (nx + 1)
    | none=>False
  | .makeSlice t l c=>match find te t with
    | some ti=>match ti.k with
      | .slice e=>match find te e with
        | some ei=>match ei.rd with
          | some ⟨_,R⟩=>match look tm l,look tm c,ei.zero,ofL R (litL ei.zero) with
            | .one (.lit (.int _ n)),.one (.lit (.int _ m)),[_],some (y,[])=>match Nat.ble ei.bytes 1000 with
              | true=>(0 ≤ n ∧ m = n ∧ n ≤ 1000000) ∧ put N o.dst (.one (.vec nx)) tm fun tm=>K tm ((nx,.vec e R (List.replicate n.toNat y)) :: ob) (nx + 1)
              | false=>False
            | _,_,_,_=>False
          | none=>False
        | none=>False
      | _=>False
    | none=>False
  | .makeMap t none=>match find te t with
    | some ti=>match ti.k with
      | .map _ et=>match find te et with
        | some ei=>match ei.rd with
          | some ⟨_,R⟩=>put N o.dst (.one (.mp nx)) tm fun tm=>K tm ((nx,.map ei.k.agg R []) :: ob) (nx + 1)
          | none=>False
        | none=>False
      | _=>False
    | none=>False
  | .mapUpdate t m k x=>match find te t with
    | some ti=>match ti.k with
      | .map kt _=>match find te kt with
        | some ki=>match ki.k with
          | .int .i64=>frz te nx0 (look tm x).ids tm ob fun tm ob=>match look tm m,look tm k with
            | .one (.mp id),.one (.lit (.int .i64 n))=>match getO ob id,wH (look tm x) with
              | some (.map g R es),some ns=>match sameB g (aggA (look tm x)),vW ns,ofL R ns with
                | true,true,some (y,[])=>put N o.dst (.one .any) tm fun tm=>K tm (setO id (.map g R (setM es n y)) ob) nx
                | _,_,_=>False
              | _,_=>False
            | _,_=>False
          | _=>False
        | none=>False
      | _=>False
    | none=>False
  | _=>False
def aApp (te : List (TypeId × TyI)) (N : Nat) (dst : Option Nat) (s x : Operand) (t : TypeId) (tm : Tm) (ob : Obs) (nx : Nat) (K : Tm → Obs → Nat → Prop) : Prop :=
  match find te t with
  | some ti=>match ti.k with
    | .slice e=>match find te e with
      | some ei=>match Nat.ble 1 ei.bytes with
       | false=>False
       | true=>match isNil (look tm s) with
        | true=>match ei.rd with
          | some ⟨_,R⟩=>match isNil (look tm x) with
            | true=>put N dst (.one (.vec nx)) tm fun tm=>K tm ((nx,.vec e R []) :: ob) (nx + 1)
            | false=>match srcOf ob (look tm x) with
              | some ⟨_,S,ys⟩=>match Rd.same R S with
                | some h=>ys.length * ei.bytes ≤ 140737488355328 ∧ put N dst (.one (.vec nx)) tm fun tm=>K tm ((nx,.vec e R (Rd.move h.down ys)) :: ob) (nx + 1)
                | none=>False
              | none=>False
          | none=>False
        | false=>match look tm s with
          | .one (.vec id)=>match getO ob id with
            | some (.vec E R xs)=>match Nat.beq E e,Nat.beq R.n ei.size with
              | true,true=>match isNil (look tm x) with
                | true=>put N dst (.one (.vec id)) tm fun tm=>K tm ob nx
                | false=>match srcOf ob (look tm x) with
                  | some ⟨_,S,ys⟩=>match Rd.same R S with
                    | some h=>(xs.length + ys.length) * ei.bytes ≤ 140737488355328 ∧ put N dst (.one (.vec id)) (vF id .any tm) fun tm=>K tm (setO id (.vec e R (xs ++ Rd.move h.down ys)) (kG id .any ob)) nx
                    | none=>False
                  | none=>False
              | _,_=>False
            | _=>False
          | .one (.full S0 zs)=>match Nat.beq S0.n ei.size,srcOf ob (look tm x) with
            | true,some ⟨_,S,ys⟩=>match Rd.same S0 S with
              | some h=>(0 < ys.length ∧ (zs.length + ys.length) * ei.bytes ≤ 140737488355328) ∧ put N dst (.one (.vec nx)) tm fun tm=>K tm ((nx,.vec e S0 (zs ++ Rd.move h.down ys)) :: ob) (nx + 1)
              | none=>False
            | _,_=>False
          | _=>False
      | none=>False
    | _=>False
  | none=>False
def xX (s : ByteArray) : List Int:=s.data.toList.map fun b=>(b.toNat : Int)
def aAppS (te : List (TypeId × TyI)) (N : Nat) (dst : Option Nat) (s x : Operand) (t t' : TypeId) (tm : Tm) (ob : Obs) (nx : Nat) (K : Tm → Obs → Nat → Prop) : Prop :=
  match find te t,find te t' with
  | some ti,some ui=>match ti.k,ui.k with
    | .slice e,.str=>match find te e with
      | some ei=>match ei.k,ei.bytes,ei.zero with
        | .int .u8,1,[.int .u8 (.ofNat 0)]=>match look tm s,look tm x with
          | .one (.vec id),.one (.lit (.string b))=>match getO ob id with
            | some (.vec E R xs)=>match Nat.beq E e,Rd.same (.int .u8) R with
              | true,some h=>xs.length + b.size ≤ 140737488355328 ∧ put N dst (.one (.vec id)) (vF id .any tm) fun tm=>K tm (setO id (.vec e (.int .u8) (Rd.move h.down xs ++ xX b)) (kG id .any ob)) nx
              | _,_=>False
            | _=>False
          | _,_=>False
        | _,_,_=>False
      | none=>False
    | _,_=>False
  | _,_=>False
def aop (P : Program) (te : List (TypeId × TyI)) (N nx0 : Nat) (o : Oper) (tm : Tm) (ob : Obs) (nx : Nat) (K : Tm → Obs → Nat → Prop) : Prop :=
  match o.op with
  | .call { callee:=.builtin .append,args,argTypes }=>match args.toList,argTypes.toList with
    | [s,x],[t,t']=>match Nat.beq t t' with
      | true=>aApp te N o.dst s x t tm ob nx K
      | false=>aAppS te N o.dst s x t t' tm ob nx K
    | _,_=>False
  | .call { callee:=.value f,args,argTypes:=_ }=>(frz te nx0 (deep ob 3 (idsA (mapL (look tm) args.toList))) tm ob fun tm ob =>
      callK P te ob (look tm) f args.toList fun r=>put N o.dst r tm fun tm=>K tm ob nx) ∨
      lendK P te nx0 f args.toList tm ob nx (fun r tm ob nx=>put N o.dst r tm fun tm=>K tm ob nx) ∨
      callK P te ob (look tm) f args.toList (fun r=>put N o.dst r tm fun tm=>K tm ob nx) ∨
      lendX P te f args.toList tm ob nx fun r tm ob nx=>put N o.dst r tm fun tm=>K tm ob nx
  | .alloc _=>aEff te N nx0 o tm ob nx K
  | .box _ _=>aEff te N nx0 o tm ob nx K
  | .store _ _ _=>aEff te N nx0 o tm ob nx K
  | .buildSlice _ _ _=>aEff te N nx0 o tm ob nx K
  | .makeSlice _ _ _=>aEff te N nx0 o tm ob nx K
  | .makeMap _ none=>aEff te N nx0 o tm ob nx K
  | .mapUpdate _ _ _ _=>aEff te N nx0 o tm ob nx K
  | op=>vrK (opv te ob (look tm) op) fun v=>put N o.dst v tm fun tm=>K tm ob nx
def uD (tm : Tm) (x : Operand) : A:=(look tm x).bare
def vV (tm : Tm) : List Operand → Prop
  | []=>True
  | x :: r=>match look tm x with
    | .cond b a=>(b = true ∧ a.were) ∧ vV tm r
    | _=>vV tm r
def aopG (P : Program) (te : List (TypeId × TyI)) (N : Nat) (o : Oper) (q : Bool) (tm : Tm) (ob : Obs) (K : Tm → Prop) : Prop :=
  match o.op with
  | .call { callee:=.value f,args,argTypes:=_ }=>match tgt (uD tm f) with
    | some (g,caps)=>kH (zU te ob [] (appA (mapL (uD tm) args.toList) caps)) = true ∧ ∃ r,(q = true → vV tm (f :: args.toList) ∧ qX P g (zU te ob [] (appA (mapL (uD tm) args.toList) caps)) r) ∧ sureA (appA (mapL (uD tm) args.toList) caps) r (put N o.dst (.cond q r) tm K)
    | none=>False
  | .pick c x y=>match vPick (uD tm c) (look tm x) (look tm y) with
    | .ok v=>(q = true → vV tm [c]) ∧ put N o.dst (.cond q v) tm K
    | .need p v=>(q = true → vV tm [c] ∧ p) ∧ put N o.dst (.cond q v) tm K
    | _=>False
  | op=>match opv te ob (uD tm) op with
    | .ok v=>(q = true → vV tm op.operands.toList) ∧ put N o.dst (.cond q v) tm K
    | .need p v=>(q = true → vV tm op.operands.toList ∧ p) ∧ put N o.dst (.cond q v) tm K
    | .know _ v=>(q = true → vV tm op.operands.toList) ∧ put N o.dst (.cond q v) tm K
    | .bad=>False
def dstAt : List Oper → Nat → Option Nat
  | [],_=>none
  | o :: _,0=>o.dst
  | _ :: r,n + 1=>dstAt r n
def gq (want b : Bool) : Bool:=match want with
  | true=>b
  | false=>!b
def cR (tm : Tm) : List Operand → Tm
  | []=>tm
  | .tmp t :: r=>(t,(get tm t).bare) :: cR tm r
  | _ :: r=>cR tm r
def aopQ (P : Program) (te : List (TypeId × TyI)) (N nx0 : Nat) (o : Oper) (q : Bool) (tm : Tm) (ob : Obs) (nx : Nat) (K : Tm → Obs → Nat → Prop) : Prop :=
  match o.op with
  | .call { callee:=.value _,args:=_,argTypes:=_ }=>aopG P te N o q tm ob (fun tm=>K tm ob nx) ∨ (q = true ∧ vV tm o.op.operands.toList ∧ aop P te N nx0 o (cR tm o.op.operands.toList) ob nx K)
  | .call { callee:=.builtin .append,args:=_,argTypes:=_ }=>q = true ∧ vV tm o.op.operands.toList ∧ aop P te N nx0 o (cR tm o.op.operands.toList) ob nx K
  | _=>aopG P te N o q tm ob fun tm=>K tm ob nx
def awp (P : Program) (te : List (TypeId × TyI)) (N nx0 : Nat) (all : List Oper) : List Oper → Tm → Obs → Nat → (Tm → Obs → Nat → Prop) → Prop
  | [],tm,ob,nx,K=>K tm ob nx
  | o :: rest,tm,ob,nx,K=>match o.guard with
    | none=>aop P te N nx0 o tm ob nx fun tm ob nx=>awp P te N nx0 all rest tm ob nx K
    | some (j,want)=>match dstAt all j with
      | some d=>match Nat.ble (d + 1) N,get tm d with
        | true,.one (.lit (.bool b))=>aopQ P te N nx0 o (gq want b) tm ob nx fun tm ob nx=>awp P te N nx0 all rest tm ob nx K
        | true,.cond p (.one (.lit (.bool b)))=>aopQ P te N nx0 o (p && gq want b) tm ob nx fun tm ob nx=>awp P te N nx0 all rest tm ob nx K
        | _,_=>False
      | none=>False
end Ab
end Go.Proofs.YtmaekcmknibmeaaGreatDoor
