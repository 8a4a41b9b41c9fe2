/-
  The texts of this proof, joined: abstract values, the library, the functions of the program and what they compute (part 3). No condition.
-/
import Derived.Lib.UnsafeStr
import Derived.ChangeArms
import Derived.Deep.Slices
import Derived.WideShapes
import Derived.Handed
import Derived.SizedLaws
import Derived.ProofKit
import Derived.Below
import Derived.ChangeSame
import Derived.OpenShut
import Derived.Carry
import Derived.Test.YtojipboabgebfaaGreatDoorK1
import Derived.Test.YtojipboabgebfaaGreatDoorK2
namespace Go.Proofs.YtojipboabgebfaaGreatDoor
open Go.RowKit
namespace Ab
def Rd.only3 : {α : Type} → Rd α → Bool
  | _,.unk=>true
  | _,.str=>true
  | _,.int _=>true
  | _,.bool=>true
  | _,.raw=>true
  | _,.slk k R=>match Nat.beq k 3 with
    | true=>R.only3
    | false=>false
  | _,.ptk _ _=>false
  | _,.ifc _ R=>R.only3
  | _,.st R S=>match R.only3 with
    | true=>S.only3
    | false=>false
def Rd.to7 : {α : Type} → Rd α → Rd α
  | _,.unk=>.unk
  | _,.str=>.str
  | _,.int k=>.int k
  | _,.bool=>.bool
  | _,.raw=>.raw
  | _,.slk _ R=>.slk 7 R.to7
  | _,.ptk k R=>.ptk k R
  | _,.ifc t R=>.ifc t R.to7
  | _,.st R S=>.st R.to7 S.to7
def C.only3 : C → Bool
  | .any=>true
  | .lit _=>true
  | .slk k R _=>match Nat.beq k 3 with
    | true=>R.only3
    | false=>false
  | .vec _=>true
  | .own _ _=>true
  | .ifc _ c=>c.only3
  | _=>false
def C.to7 : C → C
  | .slk _ R xs=>.slk 7 R.to7 xs
  | .ifc t c=>.ifc t c.to7
  | .any=>.any
  | .lit v=>.lit v
  | .vec i=>.vec i
  | .own i o=>.own i o
  | _=>.any
def only3L : List C → Bool
  | []=>true
  | c :: r=>match c.only3 with
    | true=>only3L r
    | false=>false
def to7L : List C → List C
  | []=>[]
  | c :: r=>c.to7 :: to7L r
def only3T : List (Bool × List C) → Bool
  | []=>true
  | p :: r=>match only3L p.2 with
    | true=>only3T r
    | false=>false
def to7T : List (Bool × List C) → List (Bool × List C)
  | []=>[]
  | p :: r=>(p.1,to7L p.2) :: to7T r
def A.only3 : A → Bool
  | .one c=>c.only3
  | .agg cs=>only3L cs
  | .tup cs=>only3T cs
  | .cond _ _=>false
def A.to7 : A → A
  | .one c=>.one c.to7
  | .agg cs=>.agg (to7L cs)
  | .tup cs=>.tup (to7T cs)
  | .cond b a=>.cond b a
def Ob.only3 : Ob → Bool
  | .box _ cs=>only3L cs
  | .vec _ R _=>R.only3
  | .map _ _ _=>false
def Ob.to7 : Ob → Ob
  | .box T cs=>.box T (to7L cs)
  | .vec E R xs=>.vec E R.to7 xs
  | .map g R es=>.map g R es
def only3Ob : Obs → Bool
  | []=>true
  | p :: r=>match p.2.only3 with
    | true=>only3Ob r
    | false=>false
def to7Ob : Obs → Obs
  | []=>[]
  | p :: r=>(p.1,p.2.to7) :: to7Ob r
section
variable {ok ok' : Oks} {ρ : Nat → Option Value} {w : World}
theorem Rd.to7_n : ∀ {α : Type} (R : Rd α),R.to7.n = R.n
  | _,.unk=>rfl
  | _,.str=>rfl
  | _,.int _=>rfl
  | _,.bool=>rfl
  | _,.raw=>rfl
  | _,.slk _ _=>rfl
  | _,.ptk _ _=>rfl
  | _,.ifc _ _=>rfl
  | _,.st R S=>by simp only [Rd.to7,Rd.n,Rd.to7_n R,Rd.to7_n S]
theorem Rd.to7_is (hk : ∀ b,ok 3 b → b < w.heap.size → ok' 7 b) : ∀ {α : Type} (R : Rd α) {cs : List Value} {x : α},R.only3 = true → R.is ok w cs x → R.to7.is ok' w cs x
  | _,.str,_,_,_,h=>h
  | _,.int _,_,_,_,h=>h
  | _,.bool,_,_,_,h=>h
  | _,.raw,_,_,_,h=>h
  | _,.unk,_,_,_,h=>h
  | _,.slk k R,_,_,ho,h=>by
    unfold Rd.only3 at ho;split at ho
    · rename_i e;have e:=Nat.eq_of_beq_eq_true e;subst e;obtain ⟨v,e1,a,cap,h1,h2,h3,h4⟩:=h;refine ⟨v,e1,a,cap,h1,h2,h3,fun i hi=>?_⟩;obtain ⟨b,off,cs,h5,h6,h7,h8,h9⟩:=h4 i hi;exact ⟨b,off,cs,h5,⟨hk b h6.1 h7,fun _=>h6.2 (.inl rfl)⟩,h7,by rw [Rd.to7_n];exact h8,Rd.to7_is hk R ho h9⟩
    · cases ho
  | _,.ptk _ _,_,_,ho,_=>by cases ho
  | _,.ifc _ R,_,_,ho,h=>by
    obtain ⟨u,e,h⟩:=h;exact ⟨u,e,Rd.to7_is hk R ho h⟩
  | _,.st R S,_,_,ho,h=>by
    unfold Rd.only3 at ho;split at ho
    · rename_i e;obtain ⟨c,d,e1,h1,h2⟩:=h;exact ⟨c,d,e1,Rd.to7_is hk R e h1,Rd.to7_is hk S ho h2⟩
    · cases ho
theorem C.to7_rep (hk : ∀ b,ok 3 b → b < w.heap.size → ok' 7 b) : ∀ {c : C} {v : Value},c.only3 = true → c.rep ok ρ w v → c.to7.rep ok' ρ w v
  | .any,_,_,_=>trivial
  | .lit _,_,_,h=>h
  | .slk k R _,_,ho,h=>by
    unfold C.only3 at ho;split at ho
    · rename_i e;have e:=Nat.eq_of_beq_eq_true e;subst e;obtain ⟨a,cap,h1,h2,h3,h4⟩:=h;refine ⟨a,cap,h1,h2,h3,fun i hi=>?_⟩;obtain ⟨b,off,cs,h5,h6,h7,h8,h9⟩:=h4 i hi;exact ⟨b,off,cs,h5,⟨hk b h6.1 h7,fun _=>h6.2 (.inl rfl)⟩,h7,by rw [Rd.to7_n];exact h8,Rd.to7_is hk R ho h9⟩
    · cases ho
  | .vec _,_,_,h=>h
  | .own _ _,_,_,h=>h
  | .ifc _ c,_,ho,h=>by
    obtain ⟨u,hv,h⟩:=h;exact ⟨u,hv,C.to7_rep hk (c:=c) ho h⟩
  | .full _ _,_,ho,_=>by cases ho
  | .adk _ _ _,_,ho,_=>by cases ho
  | .vel _ _ _,_,ho,_=>by cases ho
  | .clo _ _,_,ho,_=>by cases ho
  | .clo2 _ _ _,_,ho,_=>by cases ho
  | .ref _,_,ho,_=>by cases ho
  | .nself _ _,_,ho,_=>by cases ho
  | .fx _ _,_,ho,_=>by cases ho
  | .vof _ _ _ _,_,ho,_=>by cases ho
  | .mp _,_,ho,_=>by cases ho
theorem repL.to7 (hk : ∀ b,ok 3 b → b < w.heap.size → ok' 7 b) : ∀ {cs : List C} {vs : List Value},only3L cs = true → repL ok ρ w cs vs → repL ok' ρ w (to7L cs) vs
  | [],_,_,h=>h
  | _ :: _,_,ho,h=>by
    unfold only3L at ho;split at ho
    · rename_i e;obtain ⟨v,r,e1,h1,h2⟩:=h;exact ⟨v,r,e1,C.to7_rep hk e h1,repL.to7 hk ho h2⟩
    · cases ho
theorem repV.to7 (hk : ∀ b,ok 3 b → b < w.heap.size → ok' 7 b) : ∀ {g : Bool} {cs : List C} {v : Value},only3L cs = true → repV ok ρ w g cs v → repV ok' ρ w g (to7L cs) v
  | true,_,_,ho,h=>by obtain ⟨vs,e,h⟩:=h;exact ⟨vs,e,h.to7 hk ho⟩
  | false,_,_,ho,h=>repL.to7 hk ho h
theorem repT.to7 (hk : ∀ b,ok 3 b → b < w.heap.size → ok' 7 b) : ∀ {cs : List (Bool × List C)} {vs : List Value},only3T cs = true → repT ok ρ w cs vs → repT ok' ρ w (to7T cs) vs
  | [],_,_,h=>h
  | _ :: _,_,ho,h=>by
    unfold only3T at ho;split at ho
    · rename_i e;obtain ⟨v,r,e1,h1,h2⟩:=h;exact ⟨v,r,e1,h1.to7 hk e,h2.to7 hk ho⟩
    · cases ho
theorem A.to7_rep (hk : ∀ b,ok 3 b → b < w.heap.size → ok' 7 b) : ∀ {a : A} {v : Value},a.only3 = true → a.rep ok ρ w v → a.to7.rep ok' ρ w v
  | .one _,_,ho,h=>C.to7_rep hk ho h
  | .agg _,_,ho,h=>repV.to7 hk ho h
  | .tup _,_,ho,h=>by obtain ⟨vs,e,h⟩:=h;exact ⟨vs,e,h.to7 hk ho⟩
  | .cond _ _,_,ho,_=>by cases ho
theorem Ob.to7_is (hk : ∀ b,ok 3 b → b < w.heap.size → ok' 7 b) {id : Nat} {o : Ob} (ho : o.only3 = true) (h : o.is ok ρ w id) : o.to7.is ok' ρ w id:=by
  cases o with
  | box T cs =>
    obtain ⟨b,vs,h1,h2,h3⟩:=h;exact ⟨b,vs,h1,h2,h3.to7 hk ho⟩
  | vec E R xs =>
    obtain ⟨v,hv,css,h1,h2,h3⟩:=h;exact ⟨v,hv,css,h1,fun i hi=>Rd.to7_is hk R ho (h2 i hi),by rw [Rd.to7_n];exact h3⟩
  | map g R es=>cases ho
theorem mem_to7 : ∀ {ob : Obs} {p : Nat × Ob},p ∈ to7Ob ob → ∃ q ∈ ob,p = (q.1,q.2.to7)
  | [],_,h=>by cases h
  | q :: r,p,h=>by
    rcases List.mem_cons.1 h with h|h
    · exact ⟨q,by simp,h⟩
    · obtain ⟨q',h1,h2⟩:=mem_to7 h;exact ⟨q',List.mem_cons_of_mem _ h1,h2⟩
theorem to7_keys : ∀ {ob : Obs},(to7Ob ob).map (·.1) = ob.map (·.1)
  | []=>rfl
  | q :: r=>by simp only [to7Ob,List.map_cons,to7_keys (ob:=r)]
theorem only3Ob_mem : ∀ {ob : Obs} {p : Nat × Ob},only3Ob ob = true → p ∈ ob → p.2.only3 = true
  | [],_,_,h=>by cases h
  | q :: r,p,h,hp=>by
    unfold only3Ob at h;split at h
    · rename_i h1;rcases List.mem_cons.1 hp with hp|hp
      · subst hp;exact h1
      · exact only3Ob_mem h hp
    · cases h
end
def noqTm (q : Nat) : Tm → Bool
  | []=>true
  | p :: r=>match p.2.noq q with
    | true=>noqTm q r
    | false=>false
def Ob.noq (q : Nat) : Ob → Bool
  | .box _ cs=>noqL q cs
  | .vec _ R _=>R.noq q
  | .map _ R _=>R.noq q
def noqOb (q : Nat) : Obs → Bool
  | []=>true
  | p :: r=>match p.2.noq q with
    | true=>noqOb q r
    | false=>false
def noqAs (q : Nat) : List A → Bool
  | []=>true
  | a :: r=>match a.noq q with
    | true=>noqAs q r
    | false=>false
section
variable {q : Nat} {ok ok' : Oks} {ρ : Nat → Option Value} {w : World}
theorem noqTm_get : ∀ {tm : Tm} (i : Nat),noqTm q tm = true → (get tm i).noq q = true
  | [],_,_=>rfl
  | p :: r,i,h=>by
    unfold noqTm at h;split at h
    · rename_i h1;rw [get_cons];split
      · exact h1
      · exact noqTm_get i h
    · cases h
theorem noqOb_mem : ∀ {ob : Obs} {p : Nat × Ob},noqOb q ob = true → p ∈ ob → p.2.noq q = true
  | [],_,_,h=>by cases h
  | x :: r,p,h,hp=>by
    unfold noqOb at h;split at h
    · rename_i h1;rcases List.mem_cons.1 hp with hp|hp
      · subst hp;exact h1
      · exact noqOb_mem h hp
    · cases h
theorem noqAs_rep (hq : q ≠ 0) (hk : BackQ q ok ok') : ∀ {as : List A} {vs : List Value},noqAs q as = true → xA ok ρ w as vs → xA ok' ρ w as vs
  | [],_,_,h=>h
  | a :: r,_,hn,h=>by
    unfold noqAs at hn;split at hn
    · rename_i h1;obtain ⟨v,r,e,h2,h3⟩:=h;exact ⟨v,r,e,A.backq hq hk h1 h2,noqAs_rep hq hk hn h3⟩
    · cases hn
theorem Ob.backq (hq : q ≠ 0) (hk : BackQ q ok ok') {id : Nat} : ∀ {o : Ob},o.noq q = true → o.is ok ρ w id → o.is ok' ρ w id
  | .box _ _,hn,h=>by
    obtain ⟨b,vs,h1,h2,h3⟩:=h;exact ⟨b,vs,h1,h2,h3.backq hq hk hn⟩
  | .vec _ R _,hn,h=>by
    obtain ⟨v,hv,css,h1,h2,h3⟩:=h;exact ⟨v,hv,css,h1,fun i hi=>R.backq hk hn (h2 i hi),h3⟩
  | .map _ R _,hn,h=>by
    obtain ⟨r,h1,h2⟩:=h;exact ⟨r,h1,h2.imp rfl fun _ _ h=>R.backq hk hn h⟩
end
def keepO : List Nat → Obs → Obs
  | [],_=>[]
  | i :: r,ob=>match getO ob i with
    | some o=>(i,o) :: keepO r ob
    | none=>keepO r ob
theorem keepO_mem : ∀ {ids : List Nat} {ob : Obs} {p : Nat × Ob},p ∈ keepO ids ob → p ∈ ob ∧ p.1 ∈ ids
  | [],_,_,h=>by cases h
  | i :: r,ob,p,h=>by
    unfold keepO at h;split at h
    · rename_i o ho;rcases List.mem_cons.1 h with h|h
      · subst h;exact ⟨qX ho,by simp⟩
      · exact ⟨(keepO_mem h).1,List.mem_cons_of_mem _ (keepO_mem h).2⟩
    · exact ⟨(keepO_mem h).1,List.mem_cons_of_mem _ (keepO_mem h).2⟩
theorem keepO_nd : ∀ {ids : List Nat} {ob : Obs},ids.Nodup → ((keepO ids ob).map (·.1)).Nodup
  | [],_,_=>List.nodup_nil
  | i :: r,ob,h=>by
    obtain ⟨h1,h2⟩:=List.nodup_cons.1 h;unfold keepO;split
    · refine List.nodup_cons.2 ⟨fun hm=>?_,keepO_nd h2⟩;obtain ⟨p,hp,e⟩:=List.mem_map.1 hm;have:=(keepO_mem hp).2;rw [e] at this;exact h1 this
    · exact keepO_nd h2
theorem keepT_any : ∀ {rs : List Nat} {tm : Tm} (i : Nat),get (keepT rs tm) i = .one .any ∨ get (keepT rs tm) i = get tm i
  | [],_,_=>.inl rfl
  | t :: r,tm,i=>by
    rw [keepT,get_cons];split
    · rename_i e;rw [show t = i from Nat.eq_of_beq_eq_true e];exact .inr rfl
    · exact keepT_any i
def marksL : List Deferred → List (Nat × Obj)
  | []=>[]
  | d :: ds=>match d.target with
    | .collected b=>(b,Obj.deferred (some [])) :: marksL ds
    | _=>marksL ds
theorem mem_marksL : ∀ {ds : List Deferred} {b : Nat},{ target:=.collected b,args:=#[] } ∈ ds → (b,Obj.deferred (some [])) ∈ marksL ds
  | d :: ds,b,h=>by
    rcases List.mem_cons.1 h with h|h
    · subst h;exact List.mem_cons_self
    · have:=mem_marksL h;unfold marksL;split
      · exact List.mem_cons_of_mem _ this
      · exact this
theorem marksL_of {M : Nat → Prop} {w : World} : ∀ {ds : List Deferred} {q : Nat × Obj},Defs M ds w → q ∈ marksL ds → q.2 = Obj.deferred (some []) ∧ M q.1 ∧ w.heap[q.1]? = some (Obj.deferred (some []))
  | d :: ds,q,h,hq=>by
    obtain ⟨⟨b,h1,h2,h3,_⟩,h5⟩:=h;rw [h1] at hq;rcases List.mem_cons.1 hq with e|e
    · subst e;exact ⟨rfl,h2,h3⟩
    · exact marksL_of h5 e
def bagCx (cx : Cx) (ρ : Nat → Option Value) (ob : Obs) (w : World) (rows : Nat → Prop) (ρ2 : Nat → Option Value) (ob2 : Obs) (w1 : World) (nz : Nat) (ds : List Deferred) : Cx :=
  ⟨fun k b=>(k ≠ 7 ∧ okOf cx ρ ob k b ∧ b < w.heap.size) ∨ (k = 7 ∧ rows b),fun i=>if i = nz then some (.agg #[]) else xS ob2 ρ2 i,w1,cx.N,nz,cx.hids ++ marksL ds,cx.fr⟩
section
variable {P : Program} {te : List (TypeId × TyI)} {cx : Cx} {tm : Tm} {ob : Obs} {nx N nx0 : Nat} {ρ : Nat → Option Value} {a : Act} {w : World} {Q : AQ}
theorem bag_back {rows : Nat → Prop} {ρ2 ρ' : Nat → Option Value} {ob2 ob' : Obs} {w1 w' : World} {nz nx' : Nat} {tm' : Tm} {a' : Act} {rs ids : List Nat} (hs : StOk cx tm ob nx ρ a w) (hb1 : Below w.heap.size w w1) (hrows : ∀ b,rows b → w.heap.size ≤ b)
    (hlow : ∀ p ∈ ob2,∀ b,blk (ρ2 p.1) = some b → cx.w0.heap.size ≤ b ∨ ∃ i,i < cx.nx0 ∧ blk (cx.nm i) = some b) (hpin : ∀ i,i < cx.nx0 → ∀ p,cx.nm i = some (.pointer p) → xS ob2 ρ2 i = cx.nm i) (hnz : nx ≤ nz)
    (h : StOk (bagCx cx ρ ob w rows ρ2 ob2 w1 nz a.defers) tm' ob' nx' ρ' a' w') (h7 : noqTm 7 (keepT rs tm') = true) (h7o : noqOb 7 (keepO ids ob') = true) (hnd : ids.Nodup) : StOk cx (keepT rs tm') (keepO ids ob') nx' ρ' a' w':=by
  have hkey : ∀ i b,i < nz → blk ((bagCx cx ρ ob w rows ρ2 ob2 w1 nz a.defers).nm i) = some b → cx.w0.heap.size ≤ b ∨ ∃ i,i < cx.nx0 ∧ blk (cx.nm i) = some b:=fun i b hi e=>by
    have e : blk (if i = nz then some (.agg #[]) else xS ob2 ρ2 i) = some b:=e;rw [if_neg (by omega)] at e;obtain ⟨p,hp,e⟩:=keyed_blk e;exact hlow p hp b e
  have hw1 : cx.w0.heap.size ≤ w1.heap.size:=Nat.le_trans hs.keep.size hb1.size;have hnz0 : cx.nx0 ≤ nz:=Nat.le_trans hs.nx0 hnz;have hk : BackQ 7 (okOf (bagCx cx ρ ob w rows ρ2 ob2 w1 nz a.defers) ρ' ob') (okOf cx ρ' (keepO ids ob')):=by
    rintro k b hk7 ⟨h1,h2⟩
    refine ⟨?_,fun p hp=>h2 p (keepO_mem hp).1⟩;rcases h1 with (⟨_,h1,_⟩|⟨h1,_⟩)|⟨h1,_⟩|⟨_,i,hi,h1⟩
    · exact h1.1
    · exact absurd h1 hk7
    · exact .inr (.inl ⟨Nat.le_trans hw1 h1,hk7⟩)
    · rcases hkey i b hi h1 with h3|h3
      · exact .inr (.inl ⟨h3,hk7⟩)
      · exact .inr (.inr ⟨hk7,h3⟩)
  have hsame : ∀ b,b < cx.w0.heap.size → ¬ (∃ i,i < cx.nx0 ∧ blk (cx.nm i) = some b) → w'.heap[b]? = w.heap[b]?:=fun b g1 g2=>by
    rw [h.keep.block b (Nat.lt_of_lt_of_le g1 hw1) (fun ⟨i,hi,e⟩=>?_) (fun hg=>?_)]
    · exact hb1.block b (Nat.lt_of_lt_of_le g1 hs.keep.size)
    · rcases hkey i b hi e with h1|h1
      · omega
      · exact g2 h1
    · rcases hg.2 with ⟨h1,_⟩|⟨_,h1⟩
      · exact h1 rfl
      · have:=hrows b h1;have:=hs.keep.size;omega
  refine ⟨h.size,⟨⟨fun e=>?_,h.defers.1.2⟩,fun q hq=>h.defers.2 q (List.mem_append_left _ hq)⟩,fun i=>?_,fun p hp=>Ob.backq (by decide) hk (noqOb_mem h7o hp) (h.obs p (keepO_mem hp).1),keepO_nd hnd,fun p hp=>h.fresh p (keepO_mem hp).1,h.names,Nat.le_trans hnz0 h.nx0,
    fun p hp q hq=>h.sep p (keepO_mem hp).1 q (keepO_mem hq).1,fun p hp b e=>⟨(h.low p (keepO_mem hp).1 b e).1,?_⟩,⟨h.keep.os.trans (hb1.os.trans hs.keep.os),h.keep.tape.trans (hb1.tape.trans hs.keep.tape),h.keep.output.trans (hb1.output.trans hs.keep.output),Nat.le_trans hw1 h.keep.size,fun b g1 g2 g3=>(hsame b g1 g2).trans (hs.keep.block b g1 g2 g3),fun b hbg=>(hs.keep.shape b hbg).trans (.rfl' (hsame b (hs.bags b hbg).1 fun ⟨i,hi,e⟩=>hs.disj i b hi e 7 hbg.2))⟩,hs.disj,fun i hi p e=>?_,hs.glob,hs.bags⟩
  · refine (h.defers.1.1 e).imp fun b h1 _ _=>?_
    rcases h1 with h1|h1
    · exact .inl (Nat.le_trans hw1 h1)
    · rcases List.mem_append.1 h1 with h1|h1
      · exact .inr h1
      · exact (marksL_of (hs.defers.1.1 e) h1).2.1
  · rcases keepT_any (rs:=rs) (tm:=tm') i with e|e
    · rw [e];trivial
    · have:=noqTm_get i h7;rw [e] at this ⊢;exact A.backq (by decide) hk this (h.tms i)
  · rcases (h.low p (keepO_mem hp).1 b e).2 with h1|⟨i,hi,h1⟩
    · exact .inl (Nat.le_trans hw1 h1)
    · exact hkey i b hi h1
  · have h1:=hpin i hi p e;have h2 : (bagCx cx ρ ob w rows ρ2 ob2 w1 nz a.defers).nm i = some (.pointer p):=by
      show (if i = nz then some (.agg #[]) else xS ob2 ρ2 i) = _;rw [if_neg (by omega),h1,e]
    rw [h.pin i (Nat.lt_of_lt_of_le hi hnz0) p h2,h2,e]
theorem StOk.start {ok : Oks} (hgl : GlobAt ok w) : StOk ⟨ok,yF,w,0,0,[],true⟩ [] [] 0 yF ⟨#[],[]⟩ w :=
  ⟨rfl,DefOk.none rfl,fun _=>trivial,fun p hp=>by (cases hp),List.nodup_nil,fun p hp=>by (cases hp),fun _ _=>rfl,Nat.le_refl _,fun p hp=>by (cases hp),fun p hp=>by (cases hp),⟨rfl,rfl,rfl,Nat.le_refl _,fun _ _ _ _=>rfl,fun _ _=>.rfl' rfl⟩,fun _ _ h=>absurd h (Nat.not_lt_zero _),fun _ h=>absurd h (Nat.not_lt_zero _),hgl,.none rfl⟩
theorem bag_call {g : FuncId} {as : List A} {r : A} {obc : Obs} {m' : Nat} {vs : List Value} (hs : StOk cx tm ob nx ρ a w) (hc : qW P g as [] 0 r obc m') (hargs : xA (borOk (okOf cx ρ ob) (Bor ob ρ [])) yF w as vs) (hn3 : noqAs 3 as = true)
    (h7 : noqTm 7 tm = true) (h7o : noqOb 7 ob = true) (ho3 : only3Ob obc = true) (hr3 : r.only3 = true) (hde : denseO ob cx.nx0 = true) {nz : Nat} (hz1 : nx + m' ≤ nz) (hz2 : 1000000 ≤ nz) :
    Calls P g vs.toArray w fun e w1=>∃ u cx2 ρ2,e = .returned u ∧ cx2.N = cx.N ∧ cx2.nx0 = nz ∧ cx2.flag ∧ StOk cx2 tm (appO (renOb (sigO nx []) (to7Ob obc)) ob) nz ρ2 a w1 ∧
      (r.to7.ren (sigO nx [])).rep (okOf cx2 ρ2 (appO (renOb (sigO nx []) (to7Ob obc)) ob)) ρ2 w1 u ∧
      ∀ (rs ids : List Nat) (tm' : Tm) (ob' : Obs) (nx' : Nat) (ρ' : Nat → Option Value) (a' : Act) (w' : World),StOk cx2 tm' ob' nx' ρ' a' w' → noqTm 7 (keepT rs tm') = true → noqOb 7 (keepO ids ob') = true → ids.Nodup → StOk cx (keepT rs tm') (keepO ids ob') nx' ρ' a' w':=by
  let okc : Oks:=fun k b=>k ≠ 3 ∧ borOk (okOf cx ρ ob) (Bor ob ρ []) k b
  have hstart:=StOk.start (w:=w) (ok:=okc) ⟨fun g hg=>⟨by decide,.inl (hs.globAt.1 g hg)⟩,hs.globAt.2⟩;have hk0 : BackQ 3 (borOk (okOf cx ρ ob) (Bor ob ρ [])) (okOf ⟨okc,yF,w,0,0,[],true⟩ yF []):=fun k b h3 hb=>⟨.inl ⟨h3,hb⟩,fun p hp=>by cases hp⟩
  refine (hc.2 ⟨okc,yF,w,0,0,[],true⟩ yF w vs ⟨rfl,rfl,rfl⟩ rfl rfl hstart (noqAs_rep (by decide) hk0 hn3 hargs)).mono ?_
  rintro e w1 ⟨u,ρc,rfl,hs2,hr⟩
  have hblock : ∀ b,b < w.heap.size → w1.heap[b]? = w.heap[b]?:=fun b hb=>hs2.keep.block b hb (fun ⟨_,h,_⟩=>absurd h (Nat.not_lt_zero _)) (fun hg=>noflag (cx:=⟨okc,yF,w,0,0,[],true⟩) rfl hg.1)
  have hb1 : Below w.heap.size w w1:=⟨hs2.keep.os,hs2.keep.tape,hs2.keep.output,hs2.keep.size,hblock⟩;have hlow2 : ∀ q ∈ obc,∀ b,blk (ρc q.1) = some b → b < w1.heap.size ∧ w.heap.size ≤ b:=fun q hq b e=>⟨(hs2.low q hq b e).1,(hs2.low q hq b e).2.elim id fun ⟨_,h,_⟩=>absurd h (Nat.not_lt_zero _)⟩
  obtain ⟨ρ2,hρ2⟩ : ∃ ρ2,ρ2 = backN nx [] ρ ρc:=⟨_,rfl⟩;have hin2 : ∀ k,ρ2 (sigO nx [] k) = ρc k:=fun k=>by rw [hρ2];exact backN_in List.nodup_nil (fun i hi=>by cases hi) k
  have hout : ∀ i,i < nx → ρ2 i = ρ i:=fun i h=>by rw [hρ2];exact backN_out h (by simp)
  have hren : (fun i=>ρ2 (sigO nx [] i)) = ρc:=funext hin2;have hsig : ∀ k,sigO nx [] k = nx + k:=fun k=>rfl
  obtain ⟨ob2,hob2⟩ : ∃ ob2,ob2 = appO (renOb (sigO nx []) (to7Ob obc)) ob:=⟨_,rfl⟩;rw [← hob2];have hmem2 : ∀ p ∈ ob2,(∃ q ∈ obc,p = (nx + q.1,q.2.to7.ren (sigO nx []))) ∨ p ∈ ob:=by
    intro p hp;rw [hob2,appO_eq] at hp;rcases List.mem_append.1 hp with h|h
    · obtain ⟨q,hq,e⟩:=yV h;obtain ⟨q',hq',rfl⟩:=mem_to7 hq;exact .inl ⟨q',hq',e⟩
    · exact .inr h
  have hmemo : ∀ p ∈ ob,p ∈ ob2:=fun p hp=>by rw [hob2,appO_eq];exact List.mem_append_right _ hp
  let rows : Nat → Prop:=fun b=>w.heap.size ≤ b ∧ b < w1.heap.size ∧ ∀ q ∈ obc,blk (ρc q.1) ≠ some b
  have hnames : Names ρ ρ2:=fun i v e=>by
    have hi : i < nx:=Nat.lt_of_not_ge fun h=>by rw [hs.names i h] at e;cases e
    rw [hout i hi];exact e
  have hnew : ∀ q ∈ obc,q.1 < m':=fun q hq=>hs2.fresh q hq
  have hblk2 : ∀ p ∈ ob2,∀ b,blk (ρ2 p.1) = some b → b < w1.heap.size ∧ ((w.heap.size ≤ b ∧ ∃ q ∈ obc,blk (ρc q.1) = some b) ∨ (b < w.heap.size ∧ ∃ q ∈ ob,q = p ∧ blk (ρ q.1) = some b)):=by
    intro p hp b e;rcases hmem2 p hp with ⟨q,hq,rfl⟩|hq
    · have e : blk (ρ2 (nx + q.1)) = some b:=e;rw [← hsig,hin2] at e;obtain ⟨h1,h2⟩:=hlow2 q hq b e;exact ⟨h1,.inl ⟨h2,q,hq,e⟩⟩
    · rw [hout _ (hs.fresh p hq)] at e;have h1:=(hs.low p hq b e).1;exact ⟨Nat.lt_of_lt_of_le h1 hb1.size,.inr ⟨h1,p,hq,rfl,e⟩⟩
  let cx2:=bagCx cx ρ ob w rows ρ2 ob2 w1 nz a.defers
  have hkeyb : ∀ i b,blk (cx2.nm i) = some b → ∃ p ∈ ob2,blk (ρ2 p.1) = some b:=fun i b e=>by
    have e : blk (if i = nz then some (.agg #[]) else xS ob2 ρ2 i) = some b:=e
    by_cases hi : i = nz
    · rw [if_pos hi] at e;cases e
    · rw [if_neg hi] at e;exact keyed_blk e
  have hnm : ∀ p ∈ ob2,p.1 < nz → cx2.nm p.1 = ρ2 p.1:=fun p hp hlt=>by
    show (if p.1 = nz then some (.agg #[]) else xS ob2 ρ2 p.1) = _;rw [if_neg (by omega),keyed_mem hp]
  have hfr2 : ∀ p ∈ ob2,p.1 < nz:=fun p hp=>by
    rcases hmem2 p hp with ⟨q,hq,rfl⟩|hq
    · have:=hnew q hq;simp only;omega
    · have:=hs.fresh p hq;omega
  have hflag : cx2.flag:=⟨hz2,if_pos rfl⟩;have hk1 : yZ (fun k b=>k ≠ 7 ∧ okOf cx ρ ob k b) (okOf cx2 ρ2 ob2) w w1:=fun k b hb hlt=>⟨⟨.inl (.inl ⟨hb.1,hb.2,hlt⟩),fun p hp e=>by
    rcases (hblk2 p hp b e).2 with ⟨h1,_⟩|⟨_,q,hq,_,h2⟩
    · omega
    · exact hb.2.2 q hq h2⟩,hblock b hlt⟩
  have hkq : BackQ 7 (okOf cx ρ ob) (fun k b=>k ≠ 7 ∧ okOf cx ρ ob k b):=fun k b h hb=>⟨h,hb⟩
  have hk3 : ∀ b,okOf ⟨okc,yF,w,0,0,[],true⟩ ρc obc 3 b → b < w1.heap.size → okOf cx2 ρ2 ob2 7 b:=fun b hb hlt=>by
    have hwb : w.heap.size ≤ b:=by
      rcases hb.1 with h1|h1|⟨_,i,hi,_⟩
      · exact absurd rfl h1.1
      · exact h1.1
      · exact absurd hi (Nat.not_lt_zero _)
    refine ⟨.inl (.inr ⟨rfl,hwb,hlt,fun q hq=>hb.2 q hq⟩),fun p hp e=>?_⟩;rcases (hblk2 p hp b e).2 with ⟨_,q,hq,h2⟩|⟨h1,_⟩
    · exact hb.2 q hq h2
    · omega
  have hst : StOk cx2 tm ob2 nz ρ2 a w1:=by
    refine ⟨hs.size,⟨⟨fun e=>?_,hs.defers.1.2⟩,fun q hq=>?_⟩,fun i=>A.kept hk1 (A.names hnames (A.backq (by decide) hkq (noqTm_get i h7) (hs.tms i))),fun p hp=>?_,?_,hfr2,fun i hi=>?_,Nat.le_refl _,fun p hp q hq hne b e1 e2=>?_,
      fun p hp b e=>⟨(hblk2 p hp b e).1,.inr ⟨p.1,hfr2 p hp,by rw [hnm p hp (hfr2 p hp)];exact e⟩⟩,⟨rfl,rfl,rfl,Nat.le_refl _,fun _ _ _ _=>rfl,fun _ _=>.rfl' rfl⟩,fun i b hi e k hk=>?_,fun i hi p e=>?_,?_,fun b hb=>?_⟩
    · refine (Defs.kept (fun b o e _=>hblock b (Array.getElem?_eq_some_iff.1 e).1) (hs.defers.1.1 e)).imp fun b _ _ hm=>.inr (List.mem_append_right _ (mem_marksL hm))
    · rcases List.mem_append.1 hq with h1|h1
      · have h2:=hs.defers.2 q h1;exact ⟨(hblock _ (Array.getElem?_eq_some_iff.1 h2.1).1).trans h2.1,h2.2⟩
      · cases hfr : cx.fr with
        | true =>
          obtain ⟨h2,_,h3⟩:=marksL_of (hs.defers.1.1 hfr) h1;rw [h2];exact ⟨(hblock _ (Array.getElem?_eq_some_iff.1 h3).1).trans h3,noC_def⟩
        | false=>rw [hs.defers.1.2 hfr] at h1;cases h1
    · rcases hmem2 p hp with ⟨q,hq,rfl⟩|hq
      · have h1:=Ob.to7_is (ok':=okOf cx2 ρ2 ob2) hk3 (only3Ob_mem ho3 hq) (hs2.obs q hq);refine (Ob.ren_is (σ:=sigO nx []) (k:=q.1)).2 ?_;rw [hren];exact h1
      · have h1:=Ob.backq (by decide) hkq (noqOb_mem h7o hq) (hs.obs p hq);have h2 : p.2.is (okOf cx2 ρ2 ob2) ρ w1 p.1:=Ob.kept hk1 (fun b e=>hblock b (hs.low p hq b e).1) h1;have hp1:=hout _ (hs.fresh p hq)
        revert h2
        cases p.2 with
        | box T cs=>rintro ⟨b,us,h3,h4,h5⟩;exact ⟨b,us,hp1.trans h3,h4,h5.names hnames⟩
        | vec E R xs=>rintro ⟨v,h3,h4⟩;exact ⟨v,hp1.trans h3,h4⟩
        | map g R es=>rintro ⟨v,h3,h4⟩;exact ⟨v,hp1.trans h3,h4⟩
    · rw [hob2,appO_eq,List.map_append,renOb_keys,to7_keys];refine List.nodup_append.2 ⟨?_,hs.nd,?_⟩
      · exact List.Pairwise.map _ (fun i j h e=>h (by rw [hsig,hsig] at e;omega)) hs2.nd
      · rintro i hi j hj rfl
        obtain ⟨k,_,hk⟩:=List.mem_map.1 hi;obtain ⟨p,hp,hp1⟩:=List.mem_map.1 hj;have:=hs.fresh p hp;rw [hsig] at hk;omega
    · have e : i = sigO nx [] (i - nx):=by rw [hsig];omega
      rw [e,hin2];exact hs2.names _ (by omega)
    · rcases hmem2 p hp with ⟨p',hp',rfl⟩|hp' <;> rcases hmem2 q hq with ⟨q',hq',rfl⟩|hq'
      · have e1 : blk (ρ2 (nx + p'.1)) = some b:=e1;have e2 : blk (ρ2 (nx + q'.1)) = some b:=e2;rw [← hsig,hin2] at e1 e2;exact hs2.sep p' hp' q' hq' (fun e=>hne (by simp only [e])) b e1 e2
      · have e1 : blk (ρ2 (nx + p'.1)) = some b:=e1;rw [← hsig,hin2] at e1;rw [hout _ (hs.fresh q hq')] at e2;have:=(hs.low q hq' b e2).1;have:=(hlow2 p' hp' b e1).2;omega
      · have e2 : blk (ρ2 (nx + q'.1)) = some b:=e2;rw [← hsig,hin2] at e2;rw [hout _ (hs.fresh p hp')] at e1;have:=(hs.low p hp' b e1).1;have:=(hlow2 q' hq' b e2).2;omega
      · rw [hout _ (hs.fresh p hp')] at e1;rw [hout _ (hs.fresh q hq')] at e2;exact hs.sep p hp' q hq' hne b e1 e2
    · obtain ⟨p,hp,e⟩:=hkeyb i b e;rcases hk with ⟨_,h1,h2⟩|⟨_,h1,h2,h3⟩
      · rcases (hblk2 p hp b e).2 with ⟨h4,_⟩|⟨_,q,hq,_,h5⟩
        · omega
        · exact h1.2 q hq h5
      · rcases (hblk2 p hp b e).2 with ⟨_,q,hq,h5⟩|⟨h4,_⟩
        · exact h3 q hq h5
        · omega
    · have e0 : (if i = nz then some (.agg #[]) else xS ob2 ρ2 i) = some (.pointer p):=e;show ρ2 i = (if i = nz then some (.agg #[]) else xS ob2 ρ2 i);have hne : i ≠ nz:=fun h=>by rw [if_pos h] at e0;cases e0
      rw [if_neg hne] at e0 ⊢;rw [e0];exact (keyed_some e0).1
    · obtain ⟨g1,g2,g3⟩:=hs.globAt;exact ⟨fun g hg=>.inl ⟨by decide,g1 g hg,Nat.lt_of_lt_of_le hg g2⟩,Nat.le_trans g2 hb1.size,g3.kept fun g hg=>hblock g (Nat.lt_of_lt_of_le hg g2)⟩
    · rcases hb.2 with ⟨h1,_⟩|⟨_,h1,h2,_⟩
      · exact absurd rfl h1
      · refine ⟨h2,fun k hk7 hk=>?_⟩;rcases hk with ⟨_,_,h3⟩|⟨h3,_⟩
        · omega
        · exact hk7 h3
  refine ⟨u,cx2,ρ2,rfl,rfl,rfl,hflag,hst,A.ren_rep.2 (by rw [hren];exact A.to7_rep hk3 hr3 hr),fun rs ids tm' ob' nx' ρ' a' w' h g7 g7o hnd=>?_⟩;refine bag_back hs hb1 (fun b hb=>hb.1) (fun p hp b e=>?_) (fun i hi p e=>?_) (by omega) h g7 g7o hnd
  · rcases (hblk2 p hp b e).2 with ⟨h1,_⟩|⟨_,q,hq,_,h2⟩
    · exact .inl (Nat.le_trans hs.keep.size h1)
    · exact (hs.low q hq b h2).2
  · obtain ⟨o,ho⟩:=denseO_get hde hi;have hm:=qX ho;rw [keyed_mem (hmemo _ hm),hout i (hs.fresh _ hm)];exact hs.pin i hi p e
def bagQ (rs ids : List Nat) (Q : AQ) : AQ:=fun e tm ob nx=>match noqTm 7 (keepT rs tm),noqOb 7 (keepO ids ob) with
  | true,true=>Q e (keepT rs tm) (keepO ids ob) nx
  | _,_=>False
def bagK (P : Program) (te : List (TypeId × TyI)) (N nx0 : Nat) (f : Operand) (args : List Operand) (dst : Option Nat) (tm : Tm) (ob : Obs) (nx : Nat) (K : Tm → Obs → Nat → Prop) : Prop :=
  match tgt (look tm f) with
  | some (g,caps)=>∃ r obc m',qW P g (borAs te ob [] (appA (mapL (look tm) args) caps)) [] 0 r obc m' ∧
      (match xT (borAs te ob [] (appA (mapL (look tm) args) caps)),noqAs 3 (borAs te ob [] (appA (mapL (look tm) args) caps)),noqTm 7 tm,noqOb 7 ob,only3Ob obc,r.only3,denseO ob nx0 with|true,true,true,true,true,true,true=>true|_,_,_,_,_,_,_=>false) = true ∧
      put N dst (r.to7.ren (sigO nx [])) tm fun tm=>K tm (appO (renOb (sigO nx []) (to7Ob obc)) ob) (nx + m' + 1000000)
  | none=>False
theorem acode_bag {id : Nat} {ops : Array Oper} {y : Code} (rs ids : List Nat) (k : Nat) {post : List Oper} {o : Oper} {f : Operand} {args : Array Operand} {ts : Array TypeId} (hk : ops.toList.drop k = o :: post) (hop : o.op = .call { callee:=.value f,args:=args,argTypes:=ts }) (hg : o.guard = none)
    (hnd : ndN ids = true) (hry : rngs y = false) (h : awp P te N nx0 ops.toList (ops.toList.take k) tm ob nx (fun tm1 ob1 nx1=>bagK P te N nx0 f args.toList o.dst tm1 ob1 nx1 fun tm2 ob2 nx2=>awp P te N nx2 ops.toList post tm2 ob2 nx2 fun tm ob nx=>qV P te N nx2 y tm ob nx (bagQ rs ids Q))) :
    qV P te N nx0 (.seq (.region id ops false) y) tm ob nx Q:=by
  unfold qV;intro hte rd n cx hnr e1 e2 ρ a w hs;subst e1 e2;refine wpIn_seq (wpIn_region_list ?_);have hops : ops.toList = ops.toList.take k ++ o :: post:=by rw [← hk,List.take_append_drop]
  rw [hops];refine awp_rest hte ops (o :: post) (ops.toList.take k) h hs ?_
  rintro tm1 ob1 nx1 ρ1 a1 w1 hb hs1
  unfold bagK at hb;split at hb
  · rename_i g caps ht;obtain ⟨r,obc,m',hc,hall,hput⟩:=hb;split at hall
    · rename_i c1 c2 c3 c4 c5 c6 c7;obtain ⟨cs,hfv,hcs⟩:=tgt_rep ht (hs1.look f);have hargs:=appA_rep (mapL_rep (w:=w1) (lk:=look tm1) (xs:=args.toList) (fun x _=>hs1.look x)) hcs;refine wpListIn_of hg (fun c e=>by rw [hop] at e;cases e) ?_;unfold Oper.wp;rw [run_static hop hfv hc.1];refine (bag_call hs1 hc (closedAs_rep c1 (borAs_rep hs1.obs hargs)) c2 c3 c4 c5 c6 c7 (nz:=nx1 + m' + 1000000) (by omega) (by omega)).mono ?_
      rintro e w2 ⟨u,cx2,ρ2,rfl,hN,hnx,hfl,hs2,hr,hback⟩
      rw [← hN] at hput;obtain ⟨tm2,hk2,hs3⟩:=hs2.put hput hr;have hk2 : awp P te cx2.N cx2.nx0 ops.toList post tm2 (appO (renOb (sigO nx1 []) (to7Ob obc)) ob1) (nx1 + m' + 1000000) (fun tm ob nx=>qV P te cx.N (nx1 + m' + 1000000) y tm ob nx (bagQ rs ids Q)):=by rw [hnx,← hN];exact hk2
      refine awp_sound hte ops post hk2 hs3 fun tm3 ob3 nx3 ρ3 a3 w3 hq hs4=>?_
      unfold qV at hq;show y.wpIn (FR rd) n P _ a3 w3;refine Code.wpIn_mono ?_ (hq hte rd n cx2 ⟨fun _=>hfl,.inr hry⟩ hN hnx ρ3 a3 w3 hs4)
      rintro e a4 w4 ⟨tm4,ob4,nx4,ρ4,hq4,hs5⟩
      unfold bagQ at hq4;split at hq4
      · rename_i d1 d2;exact ⟨_,_,_,ρ4,hq4,hback rs ids tm4 ob4 nx4 ρ4 a4 w4 hs5 d1 d2 (ndN_nd hnd)⟩
      · exact hq4.elim
    · cases hall
  · exact hb.elim
theorem acode_restate {c : Code} (i : Nat) {α β : Type} {E : TypeId} {R : Rd α} {xs : List α} {S : Rd β} {ys : List β} (hi : getO ob i = some (.vec E R xs)) (hn : R.n = S.n) (hl : xs.length = ys.length) (himp : ∀ (ok : Oks) (w : World) (cs : List Value) (j : Nat) (hj : j < xs.length) (hj' : j < ys.length),R.is ok w cs xs[j] → S.is ok w cs ys[j])
    (h : qV P te N nx0 c tm (setO i (.vec E S ys) ob) nx Q) : qV P te N nx0 c tm ob nx Q:=by
  unfold qV at *;intro hte rd n cx hnr e1 e2 ρ a w hs;refine h hte rd n cx hnr e1 e2 ρ a w ?_;have hmem:=qX hi;have hk : ∀ p ∈ setO i (.vec E S ys) ob,∃ q ∈ ob,q.1 = p.1:=fun p hp=>by
    rcases mem_setO hs.nd hp with ⟨h1,_⟩|⟨h1,_⟩
    · exact ⟨_,hmem,h1.symm⟩
    · exact ⟨p,h1,rfl⟩
  refine ⟨hs.size,hs.defers,fun j=>by rw [okOf_setO];exact hs.tms j,fun p hp=>?_,by rw [setO_keys];exact hs.nd,fun p hp=>?_,hs.names,hs.nx0,fun p hp q hq hne=>?_,fun p hp=>?_,hs.keep,hs.disj,hs.pin,hs.glob,hs.bags⟩
  · rw [okOf_setO];rcases mem_setO hs.nd hp with ⟨h1,h2⟩|⟨h1,_⟩
    · rw [h1,h2];obtain ⟨v,hv,css,h3,h4,h5⟩ : ∃ v,ρ i = some v ∧ VecOk (okOf cx ρ ob) w v E R xs:=hs.obs _ hmem;refine ⟨v,hv,css,h3.trans hl,fun j hj=>himp _ _ _ j (by omega) hj (h4 j (by omega)),?_⟩;rw [← hn,← hl];exact h5
    · exact hs.obs p h1
  · obtain ⟨q,h1,h2⟩:=hk p hp;rw [← h2];exact hs.fresh q h1
  · obtain ⟨p',h1,h2⟩:=hk p hp;obtain ⟨q',h3,h4⟩:=hk q hq;rw [← h2,← h4] at hne ⊢;exact hs.sep p' h1 q' h3 hne
  · obtain ⟨q,h1,h2⟩:=hk p hp;rw [← h2];exact hs.low q h1
end
section
variable {P : Program} {te : List (TypeId × TyI)} {cx : Cx} {tm : Tm} {ob : Obs} {nx N nx0 : Nat} {ρ : Nat → Option Value} {a : Act} {w : World} {Q : AQ}
theorem store7 {t : TypeId} {i : TyI} (hi : TyOk P t i) (hf : cx.flag) (hs : StOk cx tm ob nx ρ a w) (hth : thinTm tm = true) (hto : thinOb ob = true) {b off n : Nat} {cs : List Value} (hok : okU (okOf cx ρ ob) w 7 b) (hlt : b < w.heap.size) (hc : xI w b off n cs) {v : Value} {ns : List C}
    (hv : repL (okOf cx ρ ob) ρ w ns v.cells.toList) (hn : sureL ns = true) (hsz : ns.length = i.size) (hnn : n = i.size) (hpos : 0 < n) :
    ∃ w',(Instr.storeAt t (.pointer (some ⟨b,off,none⟩)) v).run P w = .ok () w' ∧ StOk cx tm ob nx ρ a w':=by
  obtain ⟨cur,T,hb⟩:=hok.2 (.inr rfl);have hl:=repL.len hv;have hones:=sureL_ones hn hv;have hfit : off + n ≤ cur.size:=by
    have h1:=hc.2 (n - 1) (by omega);simp only [World.cell?,hb,Option.isSome_none,Bool.false_eq_true,if_false] at h1;have hcl:=hc.1;rw [List.getElem?_eq_getElem (by omega)] at h1;have:=(Array.getElem?_eq_some_iff.1 h1).1;omega
  have hst:=run_storeCells_at P b off T v.cells.toList 0 cur w hb (by rw [Nat.add_zero];omega) hones;simp only [Nat.add_zero] at hst;obtain ⟨vs,hvs⟩ : ∃ vs,vs = v.cells.toList:=⟨_,rfl⟩;rw [← hvs] at hst hones hl;have hvl : vs.length = n:=by omega
  refine ⟨w.setRow b (cur.toList.take off ++ vs ++ cur.toList.drop (off + vs.length)).toArray,?_,?_⟩
  · simp only [Instr.storeAt,storeVar,Instr.sureAddr,Sem.run_bind,Sem.run_pure,Result.andThen_ok,hi.sizeOf];rw [if_neg (by rw [hvs] at hvl;simp only [Array.length_toList] at hvl;omega),← hvs];exact hst
  · obtain ⟨arr,harr⟩ : ∃ arr,arr = (cur.toList.take off ++ vs ++ cur.toList.drop (off + vs.length)).toArray:=⟨_,rfl⟩;rw [← harr];have hheap : (w.setRow b arr).heap[b]? = some (.cells arr T (0,0)):=setRow_heap w b cur arr T _ hb;have hother : ∀ c,c ≠ b → (w.setRow b arr).heap[c]? = w.heap[c]?:=fun c h=>setRow_other w b c arr h
    have hasz : arr.size = cur.size:=by
      rw [harr];simp only [List.size_toArray,List.length_append,List.length_take,List.length_drop,Array.length_toList];omega
    refine hs.spoil hf hth hto ⟨rfl,rfl,rfl,by simp,fun c _ hno=>hother c fun e=>hno (e ▸ hok.1),fun c=>?_,fun c o e hno=>?_⟩
    · by_cases e : c = b
      · subst e;intro cs2 T2 f2 e2;rw [hb] at e2;cases e2;refine ⟨arr,hheap,hasz,fun k u hk=>?_⟩;rw [harr,List.getElem?_toArray] at hk;rcases Nat.lt_or_ge k off with h1|h1
        · left
          rw [List.append_assoc,List.getElem?_append_left (by rw [List.length_take,Array.length_toList];omega),List.getElem?_take_of_lt h1,Array.getElem?_toList] at hk;exact hk
        · rcases Nat.lt_or_ge k (off + n) with h2|h2
          · right
            rw [List.getElem?_append_left (by simp only [List.length_append,List.length_take,Array.length_toList];omega),List.getElem?_append_right (by simp only [List.length_take,Array.length_toList];omega)] at hk;exact hones u (List.mem_of_getElem? hk)
          · left
            rw [List.getElem?_append_right (by simp only [List.length_append,List.length_take,Array.length_toList];omega),List.getElem?_drop,Array.getElem?_toList] at hk;rw [← hk]
            congr 1
            simp only [List.length_append,List.length_take,Array.length_toList];omega
      · exact .rfl' (hother c e)
    · rw [hother c fun h=>by rw [h,hb] at e;cases e;exact hno.1 _ _ _ rfl];exact e
theorem acode_store7 {id : Nat} {ops : Array Oper} (k : Nat) {post : List Oper} {o : Oper} {t : TypeId} {d x : Operand} (hk : ops.toList.drop k = o :: post) (hop : o.op = .store t d x) (hg : o.guard = none) (hn : Nat.ble 1000000 nx0 = true)
    (h : awp P te N nx0 ops.toList (ops.toList.take k) tm ob nx (fun tm1 ob1 nx1=>∃ (i : TyI) (β : Type) (R : Rd β) (y : β) (ns : List C),find te t = some i ∧ look tm1 d = .one (.adk 7 R y) ∧ cellsA (look tm1 x) = some ns ∧
      (match Nat.beq (lenC ns) i.size,Nat.beq R.n i.size,sureL ns,thinTm tm1,thinOb ob1 with|true,true,true,true,true=>true|_,_,_,_,_=>false) = true ∧
      put N o.dst (.one .any) tm1 fun tm2=>awp P te N nx0 ops.toList post tm2 ob1 nx1 fun tm ob nx=>Q .normal tm ob nx)) : qV P te N nx0 (.region id ops false) tm ob nx Q:=by
  unfold qV;intro hte rd n cx hnr e1 e2 ρ a w hs;subst e1 e2;have hf : cx.flag:=hnr.1 (Nat.le_of_ble_eq_true hn);refine wpIn_region_list ?_;have hops : ops.toList = ops.toList.take k ++ o :: post:=by rw [← hk,List.take_append_drop]
  rw [hops];refine awp_rest hte ops (o :: post) (ops.toList.take k) h hs ?_
  rintro tm1 ob1 nx1 ρ1 a1 w1 ⟨i,β,R,y,ns,hi,hd,hns,hall,hput⟩ hs1
  split at hall
  · rename_i c1 c2 c3 c4 c5;have c1:=Nat.eq_of_beq_eq_true c1;have c2:=Nat.eq_of_beq_eq_true c2;rw [lenC_eq] at c1;have hdr:=hs1.look d;rw [hd] at hdr;obtain ⟨b,off,cs,hde,h1,h2,h3,h4⟩:=hdr;obtain ⟨w',h5,h6⟩:=store7 (yC hte hi) hf hs1 c4 c5 h1 h2 h3 (cells_of hs1 hns c3) c3 c1 c2 R.n_pos;obtain ⟨tm2,h7,h8⟩:=h6.put hput (u:=undef) trivial;refine wpListIn_of hg (fun c e=>by rw [hop] at e;cases e) ?_;unfold Oper.wp execOp;rw [hop];simp only [Sem.run_bind,hde,h5,Result.andThen_ok,Sem.run_pure];exact awp_sound hte ops post h7 h8 (fun tm ob nx ρ a w hq hs=>⟨tm,ob,nx,ρ,hq,hs⟩)
  · cases hall
end
theorem acode_frzatB {P : Program} {te : List (TypeId × TyI)} {N nx0 nx : Nat} {tm : Tm} {ob : Obs} {Q : AQ} {id : Nat} {ops : Array Oper} (k : Nat) (ids : List Nat)
    (h : awp P te N nx0 ops.toList (ops.toList.take k) tm ob nx (fun tm1 ob1 nx1=>frz te nx0 ids tm1 ob1 fun tm2 ob2 =>
      awp P te N nx0 ops.toList (ops.toList.drop k) tm2 ob2 nx1 fun tm ob nx=>Q .normal tm ob nx)) : qV P te N nx0 (.region id ops false) tm ob nx Q:=by
  unfold qV;intro hte rd n cx hnr e1 e2 ρ a w hs;subst e1 e2;refine wpIn_region_list ?_;have hops : ops.toList = ops.toList.take k ++ ops.toList.drop k:=(List.take_append_drop _ _).symm;rw [hops];refine awp_rest hte ops (ops.toList.drop k) (ops.toList.take k) h hs ?_
  rintro tm1 ob1 nx1 ρ1 a1 w1 h2 hs1
  obtain ⟨tm2,ob2,h3,h4⟩:=frz_sound h2 hs1;exact awp_sound hte ops (ops.toList.drop k) h3 h4 (fun tm ob nx ρ a w hq hs=>⟨tm,ob,nx,ρ,hq,hs⟩)
theorem aspoil_of {P : Program} {te : List (TypeId × TyI)} {f : FuncId} {fn : Func} {c : Code} (hf : P.funcs[f]? = some fn) (hb : fn.body = some c) (hname : (fn.name == "runtime.NumGoroutine") = false) (hr : fn.results = #[]) (hte : TEok P te) (hn : Nat.ble 1 fn.ntmps = true)
    (h : ∀ xs,qV P te fn.ntmps 1000000 c [(0,.one (.slk 7 rUnk2 xs))] [] 1000000 (fun e _ _ _=>e = .ret ∨ e = .normal)) : ASpoil P f:=by
  refine ⟨⟨fn,hf,by rw [hb];rfl,hname⟩,fun ok w v xs hgl h70 hsl=>callsIn_wide.1 (callsIn_of_wp_marks (F:=FR none) (n:=0) hf hb trivial ?_)⟩;have hn:=Nat.le_of_ble_eq_true hn
  let cx : Cx:=⟨fun k b=>(k = 7 ∧ ok 7 b ∧ Unfz w b) ∨ (k ≠ 7 ∧ b < nGlob),fun i=>if i = 1000000 then some (.agg #[]) else none,w,fn.ntmps,1000000,[],true⟩
  have hfl : cx.flag:=⟨Nat.le_refl 1000000,by show (if (1000000 : Nat) = 1000000 then some (Value.agg #[]) else none) = _;rw [if_pos rfl]⟩;have hnm : ∀ i b,blk (cx.nm i) ≠ some b:=fun i b e=>by
    have e : blk (if i = 1000000 then some (.agg #[]) else none) = some b:=e
    by_cases hi : i = 1000000
    · rw [if_pos hi] at e;cases e
    · rw [if_neg hi] at e;cases e
  have hs : StOk cx [(0,.one (.slk 7 rUnk2 xs))] [] 1000000 yF { tmps:=#[v] ++ Array.replicate (fn.ntmps - (#[v] : Array Value).size) undef,defers:=[] } w:=by
    refine ⟨?_,DefOk.none rfl,fun i=>?_,fun p hp=>by (cases hp),List.nodup_nil,fun p hp=>by (cases hp),fun _ _=>rfl,Nat.le_refl _,fun p hp=>by (cases hp),fun p hp=>by (cases hp),⟨rfl,rfl,rfl,Nat.le_refl _,fun _ _ _ _=>rfl,fun _ _=>.rfl' rfl⟩,fun i b _ e=>absurd e (hnm i b),fun i _ p e=>?_,⟨fun g hg=>.inr ⟨by decide,hg⟩,hgl.2⟩,fun b hb=>?_⟩
    · show (#[v] ++ Array.replicate (fn.ntmps - (#[v] : Array Value).size) undef).size = fn.ntmps;simp only [Array.size_append,Array.size_replicate,List.size_toArray,List.length_singleton];omega
    · rw [get_cons];split
      · rename_i e;have e : (0 : Nat) = i:=Nat.eq_of_beq_eq_true e;subst e;have hv : (#[v] ++ Array.replicate (fn.ntmps - (#[v] : Array Value).size) undef).getD 0 undef = v:=by rw [Array.getD_eq_getD_getElem?,Array.getElem?_append_left (by simp)];rfl
        rw [hv];obtain ⟨ad,cap,h1,h2,h3,h4⟩:=hsl;refine ⟨ad,cap,h1,h2,h3,fun i hi=>?_⟩;obtain ⟨b,off,cs,h5,h6,h7,h8,h9⟩:=h4 i hi;exact ⟨b,off,cs,h5,⟨⟨.inl (.inl ⟨rfl,h6.1,h6.2 (.inr rfl)⟩),fun p hp=>by cases hp⟩,h6.2⟩,h7,h8,h9⟩
      · trivial
    · have e0 : (if i = 1000000 then some (.agg #[]) else none) = some (Value.pointer p):=e
      by_cases hi : i = 1000000
      · rw [if_pos hi] at e0;cases e0
      · rw [if_neg hi] at e0;cases e0
    · rcases hb.2 with ⟨_,h1,h2⟩|⟨h1,_⟩
      · refine ⟨by obtain ⟨_,_,h3⟩:=h2;exact (Array.getElem?_eq_some_iff.1 h3).1,fun k hk hkb=>?_⟩;rcases hkb with ⟨h3,_⟩|⟨_,h3⟩
        · exact hk h3
        · exact h70 b h3 h1
      · exact absurd rfl h1
  have hh:=h xs;unfold qV at hh;refine Code.wpIn_mono ?_ (hh hte none 0 cx ⟨fun _=>hfl,.inl ⟨rfl,rfl,rfl⟩⟩ rfl rfl yF _ w hs)
  rintro e a' w0' ⟨tm',ob',nx',ρ',hq,hs0'⟩
  have fin : ∀ w',StOk cx tm' ob' nx' ρ' ⟨a'.tmps,[]⟩ w' → ∃ u,(results fn a'.tmps).run P w' = .ok u w' ∧ ∃ u2,Ending.returned u = .returned u2 ∧ Spoilt (ok 7) w w':=fun w' hs'=>by
    refine ⟨_,results_none hr _ _ _,_,rfl,hs'.keep.os,hs'.keep.tape,hs'.keep.output,hs'.keep.size,fun b hlt hno=>hs'.keep.block b hlt (fun ⟨i,_,e⟩=>hnm i b e) (fun hg=>?_),fun b=>?_,fun b o e hno=>?_⟩
    · rcases hg.2 with ⟨_,h1,_⟩|⟨h1,_⟩
      · exact hno h1
      · exact absurd rfl h1
    · by_cases hbg : cx.bag b
      · exact hs'.keep.shape b hbg
      · rcases Nat.lt_or_ge b w.heap.size with hlt|hge
        · exact .rfl' (hs'.keep.block b hlt (fun ⟨i,_,e⟩=>hnm i b e) hbg)
        · intro cs T f e;rw [Array.getElem?_eq_none hge] at e;cases e
    · have hlt:=(Array.getElem?_eq_some_iff.1 e).1
      by_cases hbg : cx.bag b
      · exfalso
        rcases hbg.2 with ⟨_,_,cs,T,h1⟩|⟨h1,_⟩
        · rw [e] at h1;cases h1;exact hno.1 _ _ _ rfl
        · exact absurd rfl h1
      · exact (hs'.keep.block b hlt (fun ⟨i,_,e⟩=>hnm i b e) hbg).trans e
  rcases hq with rfl|rfl
  · refine StOk.unwind hs0' rfl rfl fun w' hs'=>?_
    obtain ⟨u,h1,h2⟩:=fin w' hs';exact ⟨u,h1,h2⟩
  · refine StOk.unwind hs0' rfl rfl fun w' hs'=>?_
    obtain ⟨u,h1,h2⟩:=fin w' hs';exact ⟨u,h1,h2⟩
def rdKd (q : Nat) : Option (Sigma Rd) → Option (Sigma Rd)
  | some s=>some ⟨s.1,s.2.kd q⟩
  | none=>none
def TyI.kd (q : Nat) (i : TyI) : TyI:=⟨i.k,i.size,i.bytes,i.zero,rdKd q i.rd,i.eq⟩
def mapTe (q : Nat) : List (TypeId × TyI) → List (TypeId × TyI)
  | []=>[]
  | p :: r=>(p.1,p.2.kd q) :: mapTe q r
theorem mapTe_ok {P : Program} {q : Nat} : ∀ {te : List (TypeId × TyI)},TEok P te → TEok P (mapTe q te)
  | [],_,p,hp=>by cases hp
  | x :: r,h,p,hp=>by
    rcases List.mem_cons.1 hp with hp|hp
    · subst hp;have h1:=h x (by simp);refine ⟨h1.info,h1.kind,h1.zlen,h1.zplain,h1.size1,fun α R e=>?_,h1.eqg⟩;have e : rdKd q x.2.rd = some ⟨α,R⟩:=e;have h2:=h1.rdn;cases hx : x.2.rd with
      | none=>rw [hx] at e;cases e
      | some s =>
        rw [hx] at e;cases e;have:=h2 s.1 s.2 (by rw [hx]);exact (Rd.kd_n _).trans this
    · exact mapTe_ok (fun y hy=>h y (by simp [hy])) p hp
section
variable {P : Program} {te : List (TypeId × TyI)} {N nx0 : Nat} {tm : Tm} {ob : Obs} {nx : Nat} {Q : AQ}
theorem acode_part {id : Nat} {ops : Array Oper} (l rest : List Oper) (ho : ops.toList = l ++ rest) {tm1 : Tm} {ob1 : Obs} {nx1 : Nat} (h : awp P te N nx0 ops.toList l tm ob nx (fun tm ob nx=>(tm,ob,nx) = (tm1,ob1,nx1)))
    (hr : TEok P te → ∀ (rd : Option Nat) (n : Nat) (cx : Cx),cx.N = N → cx.nx0 = nx0 → ∀ ρ a w,StOk cx tm1 ob1 nx1 ρ a w → wpListIn (FR rd) n P ops (fun e a w=>∃ tm' ob' nx' ρ',Q e tm' ob' nx' ∧ StOk cx tm' ob' nx' ρ' a w) rest a w) : qV P te N nx0 (.region id ops false) tm ob nx Q:=by
  unfold qV;intro hte rd n cx _ e1 e2 ρ a w hs;subst e1 e2;refine wpIn_region_list ?_;rw [ho];refine awp_rest hte ops rest l h hs fun tm ob nx ρ a w hk hs=>?_
  cases hk;exact hr hte rd n cx rfl rfl ρ a w hs
theorem awp_last {cx : Cx} {ρ : Nat → Option Value} {a : Act} {w : World} {rd : Option Nat} {n : Nat} {ops : Array Oper} (hte : TEok P te) (e1 : cx.N = N) (e2 : cx.nx0 = nx0) (l : List Oper) {tm1 : Tm} {ob1 : Obs} {nx1 : Nat} (hs : StOk cx tm ob nx ρ a w) (h : awp P te N nx0 ops.toList l tm ob nx (fun tm ob nx=>(tm,ob,nx) = (tm1,ob1,nx1))) (hq : Q .normal tm1 ob1 nx1) :
    wpListIn (FR rd) n P ops (fun e a w=>∃ tm' ob' nx' ρ',Q e tm' ob' nx' ∧ StOk cx tm' ob' nx' ρ' a w) l a w:=by
  subst e1 e2;refine awp_sound hte ops l h hs fun tm ob nx ρ a w hk hs=>?_
  cases hk;exact ⟨_,_,_,ρ,hq,hs⟩
variable {cx : Cx} {ρ : Nat → Option Value} {a : Act} {w : World}
theorem cut_sound {rd : Option Nat} {n : Nat} {ops : Array Oper} {F : Exit → Act → World → Prop} {t e : TypeId} {ei : TyI} {α : Type} {R : Rd α} {xs : List α} {o2 : Oper} {rest : List Oper} {x k : Operand} {d i kk : Nat} (ht : P.underlying t = some (.slice e)) (he : TyOk P e ei) (hn : R.n = ei.size)
    (g2 : o2.guard = none) (h2 : o2.op = .slice t x none (some k) none) (d2 : o2.dst = some d) (hd : d < cx.N)
    (hs : StOk cx tm ob nx ρ a w) (hx : look tm x = .one (.vec i)) (hk : look tm k = ii .i64 kk) (hg : getO ob i = some (.vec e R xs)) (hlt : kk < xs.length)
    (hK : ∀ ρ a,StOk cx ((d,.one (.vec i)) :: subTm i .any tm) (setO i (.vec e R (xs.take kk)) (subOb i .any ob)) nx ρ a w → wpListIn (FR rd) n P ops F rest a w) : wpListIn (FR rd) n P ops F (o2 :: rest) a w:=by
  obtain ⟨v,hv,css,c1,c2,hown⟩ : ∃ v,ρ i = some v ∧ VecOk (okOf cx ρ ob) w v e R xs:=hs.obs _ (qX hg);have hvx:=hs.look x;rw [hx] at hvx;have evx : a.eval x = v:=Option.some.inj (hvx.1.symm.trans hv);have evk : a.eval k = .int .i64 kk:=by have:=hs.look k;rw [hk] at this;exact this
  have hfl:=css_lens c1 c2;have hfs:=xP css hfl;rcases id hown.2 with ⟨_,h0⟩|⟨b,cap,cur,rfl,_,hb,hnc,hcm,hcs,htk⟩
  · omega
  have hnp:=R.n_pos;have hsl : (Instr.sliceAt t (.slice (some ⟨b,0,none⟩) xs.length cap) none (some (.int .i64 kk)) none).run P w = .ok (.slice (some ⟨b,0,none⟩) kk cap) w:=by
    have hbd : (Instr.sliceBounds true xs.length cap none (some (.int .i64 kk)) none).run P w = .ok (0,kk,cap) w:=by
      have h5 : 0 ≤ (kk : Int) ∧ (kk : Int) ≤ (cap : Int):=by omega
      simp only [Instr.sliceBounds,Instr.sliceBound,asIntOf,Sem.run_bind,Sem.run_pure,Result.andThen_ok,if_pos h5,if_true,Int.toNat_natCast]
    simp only [Instr.sliceAt,Instr.slice,Sem.run_bind,run_underlying ht,Result.andThen_ok,hbd,he.sizeOf,Sem.run_pure,← hn];rw [if_neg (show ¬ cap = 0 by omega)];simp [Go.WideShapes.add_plain]
  refine wpListIn_of g2 (fun c e=>by rw [h2] at e;cases e) (wp_value (v:=.slice (some ⟨b,0,none⟩) kk cap) (w':=w) ?_ ?_)
  · unfold execOp;simp only [h2,evx,evk,Option.map_some,Option.map_none,Sem.run_bind,hsl,Result.andThen_ok,Sem.run_pure]
  rw [d2];have h8 : (css.take kk).flatten = css.flatten.take (kk * R.n):=by
    have e1:=congrArg List.flatten (List.take_append_drop kk css);rw [List.flatten_append] at e1;rw [← e1,List.take_left' (by rw [xP _ fun c hc=>hfl c (List.mem_of_mem_take hc),List.length_take];congr 1;omega)]
  have hll : (xs.take kk).length = kk:=by rw [List.length_take];omega
  have hkl : kk * R.n ≤ xs.length * R.n:=Nat.mul_le_mul_right _ (by omega);have hgr : Grew w w (blk (ρ i)):=⟨rfl,rfl,rfl,Nat.le_refl _,fun _ _ _=>rfl⟩;have hkp:=okOf_swap (o':=.vec e R (xs.take kk)) (v':=.slice (some ⟨b,0,none⟩) kk cap) hs hg hgr (fun q hq=>.inl (by rw [hv];exact hq));have hs1 : StOk cx (subTm i .any tm) (setO i (.vec e R (xs.take kk)) (subOb i .any ob)) nx (upd ρ i (.slice (some ⟨b,0,none⟩) kk cap)) a w:=by
    refine hs.swap hg hgr (fun q hq=>.inl (by rw [hv];exact hq)) ⟨_,yT,css.take kk,by rw [List.length_take,hll];omega,fun j hj=>?_,?_⟩
    · rw [hll] at hj;rw [List.getElem_take];have : (css.take kk).getD j [] = css.getD j []:=by
        rw [List.getD_eq_getElem?_getD,List.getElem?_take_of_lt hj,← List.getD_eq_getElem?_getD]
      rw [this];exact R.kept hkp (c2 j (by omega))
    · rw [hll,h8];refine ⟨by rw [List.length_take,hfs,c1];omega,.inr ⟨b,cap,cur,rfl,Nat.zero_le _,hb,by omega,hcm,hcs,?_⟩⟩;rw [← htk,List.take_take,Nat.min_eq_left hkl]
  obtain ⟨tm',h5,h6⟩:=hs1.put (d:=some d) (v:=.one (.vec i)) (u:=.slice (some ⟨b,0,none⟩) kk cap) (K:=fun tm'=>tm' = (d,.one (.vec i)) :: subTm i .any tm) (by unfold Ab.put;simp only;rw [Nat.ble_eq_true_of_le hd];trivial) ⟨yT,_,_,_,rfl⟩;rw [h5] at h6;exact hK _ _ h6
end
end Ab
end Go.Proofs.YtojipboabgebfaaGreatDoor
namespace Go.Proofs.YtojipboabgebfaaGreatDoor
open Go.RowKit
namespace Ab
set_option maxRecDepth 100000
theorem qL {P : Program} {te : List (TypeId × TyI)} {N nx0 : Nat} {ops : Array Oper} {fuel : Nat} {listed : Array Bool} {tm : Tm} {ob : Obs} {nx : Nat} {K : Tm → Obs → Nat → Prop} (i j : Nat) {o o2 : Ob} (hi : getO ob i = some o) (hj : getO ob j = some o2) (gi : Nat.ble nx0 i = true) (gj : Nat.ble nx0 j = true) (h : AOrd P te N nx0 ops fuel listed (renTm (swN i j) tm) (renOb (swN i j) ob) nx K) : AOrd P te N nx0 ops fuel listed tm ob nx K:=by
  intro hte cx e1 e2 ρ a w hs;exact h hte cx e1 e2 (fun k=>ρ (swN i j k)) a w (hs.swapB i j hi hj (by rw [e2];exact Nat.le_of_ble_eq_true gi) (by rw [e2];exact Nat.le_of_ble_eq_true gj))
end Ab
end Go.Proofs.YtojipboabgebfaaGreatDoor
namespace Go.Proofs.YtojipboabgebfaaGreatDoor
open Go.RowKit
namespace Ab
section
variable {P : Program} {te : List (TypeId × TyI)} {N nx0 : Nat} {tm : Tm} {ob : Obs} {nx : Nat} {Q : AQ}
theorem StOk.swapF {cx : Cx} {ρ : Nat → Option Value} {a : Act} {w : World} (i j : Nat) (hi : i < nx) (hj : j < nx) (hi0 : cx.nx0 ≤ i) (hj0 : cx.nx0 ≤ j) (hs : StOk cx tm ob nx ρ a w) : StOk cx (renTm (swN i j) tm) (renOb (swN i j) ob) nx (fun k=>ρ (swN i j k)) a w:=by
  have hback : (fun k=>(fun k=>ρ (swN i j k)) (swN i j k)) = ρ:=funext fun k=>by simp only [xR]
  have hok : okOf cx (fun k=>ρ (swN i j k)) (renOb (swN i j) ob) = okOf cx ρ ob:=by
    funext _ b
    unfold okOf
    congr 1
    apply propext
    constructor
    · intro h1 p hp;have hm : ∀ {ob : Obs},p ∈ ob → (swN i j p.1,p.2.ren (swN i j)) ∈ renOb (swN i j) ob:=by
        intro ob hp
        induction ob with
        | nil=>cases hp
        | cons q r ih =>
          rcases List.mem_cons.1 hp with hp|hp
          · subst hp;exact List.mem_cons_self
          · exact List.mem_cons_of_mem _ (ih hp)
      have:=h1 _ (hm hp);simp only [xR] at this;exact this
    · intro h1 p hp;obtain ⟨q,hq,rfl⟩:=yV hp;simp only [xR];exact h1 q hq
  have hlt : ∀ k,k < nx → swN i j k < nx:=fun k hk=>by
    rw [swN_eq];split
    · exact hj
    · split
      · exact hi
      · exact hk
  refine ⟨hs.size,hs.defers,fun k=>?_,fun p hp=>?_,?_,fun p hp=>?_,fun k hk=>?_,hs.nx0,fun p hp q hq hne b=>?_,fun p hp b=>?_,hs.keep,hs.disj,fun k hk p e=>?_,hs.glob,hs.bags⟩
  · rw [get_ren,hok];refine A.ren_rep.2 ?_;rw [hback];exact hs.tms k
  · obtain ⟨q,hq,rfl⟩:=yV hp;rw [hok];show Ob.is (okOf cx ρ ob) (fun k=>ρ (swN i j k)) w (swN i j q.1) (Ob.ren (swN i j) q.2);refine Ob.ren_is.2 ?_;rw [hback];exact hs.obs q hq
  · rw [renOb_keys];exact List.Pairwise.map _ (fun _ _ h e=>h (swN_inj e)) hs.nd
  · obtain ⟨q,hq,rfl⟩:=yV hp;exact hlt _ (hs.fresh q hq)
  · have : ¬ swN i j k < nx:=fun h=>by
      have:=hlt _ h;rw [xR] at this;omega
    exact hs.names _ (Nat.le_of_not_lt this)
  · obtain ⟨p',hp',rfl⟩:=yV hp;obtain ⟨q',hq',rfl⟩:=yV hq;simp only [xR];exact hs.sep p' hp' q' hq' (fun e=>hne (by simp only [e])) b
  · obtain ⟨p',hp',rfl⟩:=yV hp;simp only [xR];exact hs.low p' hp' b
  · show ρ (swN i j k) = cx.nm k;rw [swN_eq,if_neg (by omega),if_neg (by omega)];exact hs.pin k hk p e
theorem acode_free {c : Code} (i j : Nat) (hi : Nat.ble (i + 1) nx = true) (hj : Nat.ble (j + 1) nx = true) (hi0 : Nat.ble nx0 i = true) (hj0 : Nat.ble nx0 j = true) (h : qV P te N nx0 c (renTm (swN i j) tm) (renOb (swN i j) ob) nx Q) : qV P te N nx0 c tm ob nx Q:=by
  unfold qV at h ⊢;intro hte rd n cx hnr e1 e2 ρ a w hs;refine h hte rd n cx hnr e1 e2 (fun k=>ρ (swN i j k)) a w (hs.swapF i j (Nat.le_of_ble_eq_true hi) (Nat.le_of_ble_eq_true hj) ?_ ?_)
  · have:=Nat.le_of_ble_eq_true hi0;omega
  · have:=Nat.le_of_ble_eq_true hj0;omega
end
abbrev AllOk : Oks:=fun _ _=>True
def Opens {α : Type} (P : Program) (t : TypeId) (R : Rd α) : Prop :=
  P.cellsOf t = R.n ∧ ∀ {H : Type} (enc : TypeId × Value → H) (w : World) (base fuel : Nat) (spare : Nat → Bool) (held : Bool) (cs : List Value) (x : DataW H × List MemPlace),DataW.trod enc P w base spare held fuel t cs = some x → ∃ a,R.is AllOk w cs a
theorem opens_str {P : Program} {t : TypeId} (ht : P.underlying t = some .string) (hc : P.cellsOf t = 1) : Opens P t .str :=
  ⟨hc,fun _ _ _ _ _ _ _ _ h=>by obtain ⟨s,e,_,hs⟩:=DataW.trod_string ht h;exact ⟨s,e⟩⟩
theorem opens_int {P : Program} {t : TypeId} {k : IntKind} (ht : P.underlying t = some (.int k)) (hc : P.cellsOf t = 1) : Opens P t (.int k) :=
  ⟨hc,fun _ _ _ _ _ _ _ _ h=>by obtain ⟨s,e,_⟩:=DataW.trod_int ht h;exact ⟨s,e⟩⟩
inductive FO (P : Program) : List Field → Nat → {α : Type} → Rd α → Prop
  | one {f : Field} {off : Nat} {α : Type} {R : Rd α} : f.offset = off → Opens P f.type R → FO P [f] off R
  | cons {f : Field} {fs : List Field} {off : Nat} {α β : Type} {R : Rd α} {S : Rd β} : f.offset = off → Opens P f.type R → FO P fs (off + R.n) S → FO P (f :: fs) off (.st R S)
theorem fo_read {P : Program} {H : Type} {enc : TypeId × Value → H} {w : World} {base n : Nat} {spare : Nat → Bool} {held : Bool} {cs : List Value} : ∀ {fs : List Field} {off : Nat} {α : Type} {R : Rd α},FO P fs off R →
    (∀ f ∈ fs,∃ x,DataW.trod enc P w base spare held n f.type ((cs.drop f.offset).take (P.cellsOf f.type)) = some x) → cs.length = off + R.n → ∃ a,R.is AllOk w (cs.drop off) a
  | _,_,_,_,.one (f:=f) (R:=R) e h,hf,hl=>by
    obtain ⟨x,hx⟩:=hf f (by simp);rw [e,h.1,List.take_of_length_le (by rw [List.length_drop];omega)] at hx;exact h.2 enc w base n spare held _ _ hx
  | _,_,_,_,.cons (f:=f) (fs:=fs) (off:=off) (R:=R) (S:=S) e h hr,hf,hl=>by
    obtain ⟨x,hx⟩:=hf f (by simp);rw [e,h.1] at hx;obtain ⟨a,ha⟩:=h.2 enc w base n spare held _ _ hx;obtain ⟨b,hb⟩:=fo_read hr (fun g hg=>hf g (by simp [hg])) (by rw [hl];show off + (R.n + S.n) = _;omega);rw [← List.drop_drop] at hb;exact ⟨(a,b),_,_,(List.take_append_drop R.n (cs.drop off)).symm,ha,hb⟩
theorem opens_st {P : Program} {t : TypeId} {α : Type} {R : Rd α} {fs : Array Field} (ht : P.underlying t = some (.struct fs)) (hc : P.cellsOf t = R.n) (hf : FO P fs.toList 0 R) : Opens P t R :=
  ⟨hc,fun enc w base fuel spare held cs x h=>by
    obtain ⟨xs,n,_,_,hl,hxl,he⟩:=DataW.trod_struct ht h;have:=fo_read (cs:=cs) hf (fun f hm=>by
      obtain ⟨i,hi,e⟩:=List.getElem_of_mem hm;have hi' : i < xs.length:=by rw [hxl];simpa using hi
      have:=he i f (by rw [← Array.getElem?_toList,List.getElem?_eq_getElem hi,e]);rw [List.getElem?_eq_getElem hi'] at this;exact ⟨_,this⟩) (by rw [hl,hc];omega)
    rw [List.drop_zero] at this;exact this⟩
theorem opens_sl {α : Type} {P : Program} {t e : TypeId} {R : Rd α} (hn : 0 < R.n) (ht : P.underlying t = some (.slice e)) (hc : P.cellsOf t = 1) (he : Opens P e R) : Opens P t (.sl R) :=
  ⟨hc,fun enc w base fuel spare held cs x h=>by
    rcases Go.Deep.open_slice ht h with ⟨rfl,_⟩|⟨a,len,cap,m,n,D,Pl,rfl,_,hl,hm,hmm,rfl,hx⟩
    · exact ⟨[],_,rfl,none,0,rfl,Nat.le_refl _,by unfold maxLen;omega,fun i h=>absurd h (by simp)⟩
    · have hlm : len ≤ m:=by rw [hmm];split <;> omega
      have each : ∀ i,i < len → ∃ q : List Value × α,w.cells? base (a.add (i * P.cellsOf e)) (P.cellsOf e) = some q.1 ∧ R.is AllOk w q.1 q.2:=by
        intro i hi;obtain ⟨cs',h1,h2⟩:=hx i (by omega);obtain ⟨y,hy⟩:=he.2 enc w base n spare held cs' _ h2;exact ⟨(cs',y),h1,hy⟩
      by_cases h0 : len = 0
      · subst h0;exact ⟨[],_,rfl,some a,cap,rfl,Nat.zero_le _,hm,fun i h=>absurd h (by simp)⟩
      · obtain ⟨q0,_⟩:=each 0 (by omega)
        haveI : Inhabited (List Value × α):=⟨q0⟩
        obtain ⟨f,hf⟩:=Go.Deep.choose_lt each;refine ⟨(List.range len).map fun i=>(f i).2,_,rfl,some a,cap,by simp,by simpa using hl,hm,fun i hi=>?_⟩;have hi' : i < len:=by simpa using hi
        obtain ⟨hc1,hr1⟩:=hf i hi';obtain ⟨_,hlen,hcell⟩:=World.cells?_some hc1;have hspot : a.spot = none:=by
          obtain ⟨hc0,hr0⟩:=hf 0 (by omega);obtain ⟨_,hlen0,hcell0⟩:=World.cells?_some hc0;have hg:=hcell0 0 (by rw [he.1];exact hn);rw [List.getElem?_eq_getElem (by rw [hlen0,he.1];exact hn)] at hg;have:=World.cell?_spot hg
          simpa [Addr.add] using this
        have hg0:=hcell 0 (by rw [he.1];exact hn);rw [List.getElem?_eq_getElem (by rw [hlen,he.1];exact hn)] at hg0;obtain ⟨u0,hg0⟩ : ∃ u,w.cell? ((a.add (i * P.cellsOf e)).add 0) = some u:=⟨_,hg0⟩;obtain ⟨b,off,spot⟩:=a;simp only at hspot;subst hspot;have hb : b < w.heap.size:=by
          rcases Nat.lt_or_ge b w.heap.size with h'|h'
          · exact h'
          · exfalso
            rw [Go.Deep.add_add,he.1,Go.WideShapes.add_plain] at hg0;simp only [World.cell?,Array.getElem?_eq_none h'] at hg0;cases hg0
        refine ⟨b,off,(f i).1,rfl,okU0 trivial,hb,⟨by rw [hlen,he.1],fun j hj=>?_⟩,by simpa using hr1⟩;have hg:=hcell j (by rw [he.1];exact hj);rw [Go.Deep.add_add,he.1,Go.WideShapes.add_plain,← Nat.add_assoc] at hg;exact hg⟩
theorem open_sl {P : Program} {α : Type} {R : Rd α} {t : TypeId} {e : TypeId} (hu : P.underlying t = some (.slice e)) (ho : Opens P t (.sl R)) {H : Type} {enc : TypeId × Value → H} {W : World} {base : Nat} {v : Value} {d : DataW H} {p : List MemPlace} (hv : Value.okWide P W .any base t v)
    (h : DataW.Trod enc P W 0 (fun _=>true) true t v d p) : ∃ xs : List α,(C.sl R xs).rep AllOk yF W v:=by
  obtain ⟨a0,len,cap,rfl⟩:=Go.WideShapes.okWide_slice hu hv;obtain ⟨fuel,hf⟩:=h;obtain ⟨xs,v,hc,hs⟩:=ho.2 enc W _ _ _ _ _ _ hf;simp only [Value.cells,List.cons.injEq,and_true] at hc;subst hc;exact ⟨xs,hs⟩
theorem handed_laid {H : Type} {enc : TypeId × Value → H} {a : Assume} {C : Checked} {os : Os} {f : FuncId} {fn : Func} {s : ChangeSpec} {conds : List PathCond} {apart fresh handsOn again : Bool} {X : World → Array Value → Prop}
    (_hX : ∀ (w w' : World) (args : Array Value),w.heap = w'.heap → X w args → X w' args)
    (own : ownKnob C.prog.godebug = none) (started : os.Started) (noInit : C.prog.inits.idxOf? f = none) (hfn : C.prog.funcs[f]? = some fn)
    (witness : ∃ (w : World) (tape : Tape) (i : Input),w.os = os ∧ (w.forCall tape i).Shaped C.prog ∧ i.vars = [] ∧ Input.okWide C.prog (w.forCall tape i) .any w.heap.size f i ∧
      ((s.pre enc C.prog fn conds apart (w.forCall tape i).memory i.args ∧ X (w.forCall tape i).memory i.args) ∧ sizedMet enc C.prog fn (OpenSpec.ofChange s) apart (w.forCall tape i).memory i.args) ∧ a.holds C.prog (lone (Frame.enter C.prog f i.args .normal) [] (w.forCall tape i)))
    (contract : ∀ (W : World) (base : Nat) (args : Array Value) (ds gs : List (DataW H)) (before : List MemPlace),
      (∀ (j : Nat) t v,fn.params[j]? = some t → args[j]? = some v → Value.okWide C.prog W .any base t v) →
      DataW.Whole enc C.prog fn.params.toList s.vars apart W args.toList ds gs before → W.ShapedOpen C.prog →
      Calls C.prog f args W fun e W'=>∃ v,e = .returned v ∧ s.post enc C.prog fn apart fresh handsOn again W args v W') :
    ReturnsInHanded a C os f .any (fun w args=>(s.pre enc C.prog fn conds apart w args ∧ X w args) ∧ sizedMet enc C.prog fn (OpenSpec.ofChange s) apart w args) (s.post enc C.prog fn apart fresh handsOn again):=by
  refine returnsInHanded_of_calls own started noInit witness ?_;intro w tape i _ hsh _ hok hpre _;obtain ⟨_,_,_,g,hg,_,_,_,_,hval⟩:=hok;obtain rfl : g = fn:=Option.some.inj (hg.symm.trans hfn);obtain ⟨⟨⟨ds,gs,before,hw,_⟩,_⟩,_⟩:=hpre;refine (contract _ w.heap.size i.args ds gs before hval (DataW.Whole.of_heap (w':=w.forCall tape i) (by rfl) hw) hsh).mono fun e W' ⟨v,he,hp⟩=>?_
  subst he;exact ChangeSpec.post_blind hp
end Ab
end Go.Proofs.YtojipboabgebfaaGreatDoor
namespace Go.Proofs.YtojipboabgebfaaGreatDoor
open Go.ChangeShapes Go.WideShapes Go.ChangeAt Go.RowKit
namespace Base
section
variable {H : Type} {enc : TypeId × Value → H} {P : Program}
theorem trodAll_below (hl : laidOutB P = true) {W W' : World} (hb : Below W.heap.size W W') :
    ∀ {ts : List TypeId} {vs : List Value} {ds : List (DataW H)} {ps : List MemPlace},(∀ t ∈ ts,P.readableRec t = true ∧ t < P.types.size) →
      (∀ x ∈ ps,x.block < W.heap.size) → DataW.TrodAll enc P W 0 (fun _=>true) true ts vs ds ps →
      DataW.TrodAll enc P W' 0 (fun b=>decide (b < W.heap.size)) true ts vs ds ps
  | [],vs,ds,ps,_,_,h=>by
    cases vs <;> cases ds <;> simp_all [DataW.TrodAll]
  | t :: ts,vs,ds,ps,hr,hlt,h=>by
    obtain ⟨v,vs',d,ds',p,q,rfl,rfl,rfl,h1,h2⟩:=trodAll_cons h;refine trodAll_cons_mk (Below.trod hl (hr t (by simp)).1 (hr t (by simp)).2 h1 hb (fun x hx=>hlt x (by simp [hx]))) ?_;exact trodAll_below hl hb (fun t' ht'=>hr t' (by simp [ht'])) (fun x hx=>hlt x (by simp [hx])) h2
theorem law_post {f : Func} {s : ChangeSpec} {W W' : World} {args : Array Value} {ds gs : List (DataW H)} {before : List MemPlace} {tb : TypeId}
    (hW : DataW.Whole enc P f.params.toList s.vars false W args.toList ds gs before) (hvars : s.vars = [])
    (hlo : laidOutB P = true) (hread : ∀ t ∈ f.params.toList,P.readableRec t = true ∧ t < P.types.size)
    (hspec : ∀ ds : List (DataW H),ds.length = f.params.size → s.fn H ds = { results:=[.lit (.bool true)],args:=ds })
    (hrt : f.resultTypes = #[tb]) (hbool : P.underlying tb = some .bool) (hb : Below W.heap.size W W') :
    s.post enc P f false true false false W args (.bool true) W':=by
  have hlt : ∀ p ∈ before,p.block < W.heap.size:=fun p hp=>hW.lt p hp
  have hold : ∀ p ∈ before,(fun b=>decide (b < W.heap.size)) p.block = true:=fun p hp=>by simpa using hlt p hp
  have hW':=hW;obtain ⟨p,q,hA,hV,rfl,hz,hn⟩:=hW';rw [hvars] at hV;obtain ⟨rfl,rfl⟩:=trodVars_none hV;have hlen : ds.length = f.params.size:=by
    have : ∀ {ts : List TypeId} {vs : List Value} {ds : List (DataW H)} {ps : List MemPlace},DataW.TrodAll enc P W 0 (fun _=>true) true ts vs ds ps → ds.length = ts.length:=by
      intro ts
      induction ts with
      | nil=>intro vs ds ps h;cases vs <;> cases ds <;> simp_all [DataW.TrodAll]
      | cons t ts ih =>
        intro vs ds ps h;obtain ⟨v,vs',d,ds',p,q,rfl,rfl,rfl,h1,h2⟩:=trodAll_cons h;simp [ih h2]
    simpa using this hA
  have hs:=hspec (ds ++ []) (by simpa using hlen);have hA':=trodAll_below hlo hb hread (fun x hx=>hlt x (by simp [hx])) hA;refine ⟨ds,[],p ++ [],[],p,[],hW,?_,?_,?_,World.keptBut_mono (fun x hx=>⟨hx,Or.inr (by simpa using hx)⟩) (hb.frame (· ∈ p ++ [])),fun h=>by cases h⟩
  · rw [hs,hrt];exact trodAll_mk1 (shut_bool hbool _)
  · rw [hs]
    simpa using hA'
  · rw [hvars,hs];rfl
end
end Base
end Go.Proofs.YtojipboabgebfaaGreatDoor
