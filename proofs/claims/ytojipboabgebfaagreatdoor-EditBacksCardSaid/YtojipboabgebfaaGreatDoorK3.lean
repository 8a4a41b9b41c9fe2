/-
  The texts of this proof, joined: abstract values, the library, the functions of the program and what they compute (part 3). No condition.
-/
import Derived.Lib.UnsafeStr
import Derived.ProofKit
import Derived.Below
import Derived.ChangeSame
import Derived.OpenShut
import Derived.Carry
import Derived.ChangeArms
import Derived.Deep.Slices
import Derived.WideShapes
import Derived.Handed
import Derived.SizedLaws
import Derived.Test.YtojipboabgebfaaGreatDoorK1
import Derived.Test.YtojipboabgebfaaGreatDoorK2
namespace Go.Proofs.YtojipboabgebfaaGreatDoor
open Go.RowKit
namespace Ab
def Rd.only3 : {α : Type} → Rd α → Bool
  | _,.unk=>true
  | _,.str=>true
  | _,.int _=>true
  | _,.bool=>true
  | _,.raw=>true
  | _,.slk k R=>match Nat.beq k 3 with
    | true=>R.only3
    | false=>false
  | _,.ptk _ _=>false
  | _,.ifc _ R=>R.only3
  | _,.st R S=>match R.only3 with
    | true=>S.only3
    | false=>false
def Rd.to7 : {α : Type} → Rd α → Rd α
  | _,.unk=>.unk
  | _,.str=>.str
  | _,.int k=>.int k
  | _,.bool=>.bool
  | _,.raw=>.raw
  | _,.slk _ R=>.slk 7 R.to7
  | _,.ptk k R=>.ptk k R
  | _,.ifc t R=>.ifc t R.to7
  | _,.st R S=>.st R.to7 S.to7
def C.only3 : C → Bool
  | .any=>true
  | .lit _=>true
  | .slk k R _=>match Nat.beq k 3 with
    | true=>R.only3
    | false=>false
  | .vec _=>true
  | .own _ _=>true
  | .ifc _ c=>c.only3
  | _=>false
def C.to7 : C → C
  | .slk _ R xs=>.slk 7 R.to7 xs
  | .ifc t c=>.ifc t c.to7
  | .any=>.any
  | .lit v=>.lit v
  | .vec i=>.vec i
  | .own i o=>.own i o
  | _=>.any
def only3L : List C → Bool
  | []=>true
  | c :: r=>match c.only3 with
    | true=>only3L r
    | false=>false
def to7L : List C → List C
  | []=>[]
  | c :: r=>c.to7 :: to7L r
def only3T : List (Bool × List C) → Bool
  | []=>true
  | p :: r=>match only3L p.2 with
    | true=>only3T r
    | false=>false
def to7T : List (Bool × List C) → List (Bool × List C)
  | []=>[]
  | p :: r=>(p.1,to7L p.2) :: to7T r
def A.only3 : A → Bool
  | .one c=>c.only3
  | .agg cs=>only3L cs
  | .tup cs=>only3T cs
  | .cond _ _=>false
def A.to7 : A → A
  | .one c=>.one c.to7
  | .agg cs=>.agg (to7L cs)
  | .tup cs=>.tup (to7T cs)
  | .cond b a=>.cond b a
def Ob.only3 : Ob → Bool
  | .box _ cs=>only3L cs
  | .vec _ R _=>R.only3
  | .map _ _ _=>false
def Ob.to7 : Ob → Ob
  | .box T cs=>.box T (to7L cs)
  | .vec E R xs=>.vec E R.to7 xs
  | .map g R es=>.map g R es
def only3Ob : Obs → Bool
  | []=>true
  | p :: r=>match p.2.only3 with
    | true=>only3Ob r
    | false=>false
def to7Ob : Obs → Obs
  | []=>[]
  | p :: r=>(p.1,p.2.to7) :: to7Ob r
section
variable {ok ok' : Oks} {ρ : Nat → Option Value} {w : World}
theorem Rd.to7_n : ∀ {α : Type} (R : Rd α),R.to7.n = R.n
  | _,.unk=>rfl
  | _,.str=>rfl
  | _,.int _=>rfl
  | _,.bool=>rfl
  | _,.raw=>rfl
  | _,.slk _ _=>rfl
  | _,.ptk _ _=>rfl
  | _,.ifc _ _=>rfl
  | _,.st R S=>by simp only [Rd.to7,Rd.n,Rd.to7_n R,Rd.to7_n S]
theorem Rd.to7_is (hk : ∀ b,ok 3 b → b < w.heap.size → ok' 7 b) : ∀ {α : Type} (R : Rd α) {cs : List Value} {x : α},R.only3 = true → R.is ok w cs x → R.to7.is ok' w cs x
  | _,.str,_,_,_,h=>h
  | _,.int _,_,_,_,h=>h
  | _,.bool,_,_,_,h=>h
  | _,.raw,_,_,_,h=>h
  | _,.unk,_,_,_,h=>h
  | _,.slk k R,_,_,ho,h=>by
    unfold Rd.only3 at ho;split at ho
    · rename_i e;have e:=Nat.eq_of_beq_eq_true e;subst e;obtain ⟨v,e1,a,cap,h1,h2,h3,h4⟩:=h;refine ⟨v,e1,a,cap,h1,h2,h3,fun i hi=>?_⟩;obtain ⟨b,off,cs,h5,h6,h7,h8,h9⟩:=h4 i hi;exact ⟨b,off,cs,h5,⟨hk b h6.1 h7,fun _=>h6.2 (.inl rfl)⟩,h7,by rw [Rd.to7_n];exact h8,Rd.to7_is hk R ho h9⟩
    · cases ho
  | _,.ptk _ _,_,_,ho,_=>by cases ho
  | _,.ifc _ R,_,_,ho,h=>by
    obtain ⟨u,e,h⟩:=h;exact ⟨u,e,Rd.to7_is hk R ho h⟩
  | _,.st R S,_,_,ho,h=>by
    unfold Rd.only3 at ho;split at ho
    · rename_i e;obtain ⟨c,d,e1,h1,h2⟩:=h;exact ⟨c,d,e1,Rd.to7_is hk R e h1,Rd.to7_is hk S ho h2⟩
    · cases ho
theorem C.to7_rep (hk : ∀ b,ok 3 b → b < w.heap.size → ok' 7 b) : ∀ {c : C} {v : Value},c.only3 = true → c.rep ok ρ w v → c.to7.rep ok' ρ w v
  | .any,_,_,_=>trivial
  | .lit _,_,_,h=>h
  | .slk k R _,_,ho,h=>by
    unfold C.only3 at ho;split at ho
    · rename_i e;have e:=Nat.eq_of_beq_eq_true e;subst e;obtain ⟨a,cap,h1,h2,h3,h4⟩:=h;refine ⟨a,cap,h1,h2,h3,fun i hi=>?_⟩;obtain ⟨b,off,cs,h5,h6,h7,h8,h9⟩:=h4 i hi;exact ⟨b,off,cs,h5,⟨hk b h6.1 h7,fun _=>h6.2 (.inl rfl)⟩,h7,by rw [Rd.to7_n];exact h8,Rd.to7_is hk R ho h9⟩
    · cases ho
  | .vec _,_,_,h=>h
  | .own _ _,_,_,h=>h
  | .ifc _ c,_,ho,h=>by
    obtain ⟨u,hv,h⟩:=h;exact ⟨u,hv,C.to7_rep hk (c:=c) ho h⟩
  | .full _ _,_,ho,_=>by cases ho
  | .adk _ _ _,_,ho,_=>by cases ho
  | .vel _ _ _,_,ho,_=>by cases ho
  | .clo _ _,_,ho,_=>by cases ho
  | .clo2 _ _ _,_,ho,_=>by cases ho
  | .clo3 _ _ _ _,_,ho,_=>by cases ho
  | .ref _,_,ho,_=>by cases ho
  | .nself _ _,_,ho,_=>by cases ho
  | .fx _ _,_,ho,_=>by cases ho
  | .vof _ _ _ _,_,ho,_=>by cases ho
  | .mp _,_,ho,_=>by cases ho
theorem repL.to7 (hk : ∀ b,ok 3 b → b < w.heap.size → ok' 7 b) : ∀ {cs : List C} {vs : List Value},only3L cs = true → repL ok ρ w cs vs → repL ok' ρ w (to7L cs) vs
  | [],_,_,h=>h
  | _ :: _,_,ho,h=>by
    unfold only3L at ho;split at ho
    · rename_i e;obtain ⟨v,r,e1,h1,h2⟩:=h;exact ⟨v,r,e1,C.to7_rep hk e h1,repL.to7 hk ho h2⟩
    · cases ho
theorem repV.to7 (hk : ∀ b,ok 3 b → b < w.heap.size → ok' 7 b) : ∀ {g : Bool} {cs : List C} {v : Value},only3L cs = true → repV ok ρ w g cs v → repV ok' ρ w g (to7L cs) v
  | true,_,_,ho,h=>by obtain ⟨vs,e,h⟩:=h;exact ⟨vs,e,h.to7 hk ho⟩
  | false,_,_,ho,h=>repL.to7 hk ho h
theorem repT.to7 (hk : ∀ b,ok 3 b → b < w.heap.size → ok' 7 b) : ∀ {cs : List (Bool × List C)} {vs : List Value},only3T cs = true → repT ok ρ w cs vs → repT ok' ρ w (to7T cs) vs
  | [],_,_,h=>h
  | _ :: _,_,ho,h=>by
    unfold only3T at ho;split at ho
    · rename_i e;obtain ⟨v,r,e1,h1,h2⟩:=h;exact ⟨v,r,e1,h1.to7 hk e,h2.to7 hk ho⟩
    · cases ho
end
def noqTm (q : Nat) : Tm → Bool
  | []=>true
  | p :: r=>match p.2.noq q with
    | true=>noqTm q r
    | false=>false
def Ob.noq (q : Nat) : Ob → Bool
  | .box _ cs=>noqL q cs
  | .vec _ R _=>R.noq q
  | .map _ R _=>R.noq q
def noqOb (q : Nat) : Obs → Bool
  | []=>true
  | p :: r=>match p.2.noq q with
    | true=>noqOb q r
    | false=>false
def noqAs (q : Nat) : List A → Bool
  | []=>true
  | a :: r=>match a.noq q with
    | true=>noqAs q r
    | false=>false
section
variable {q : Nat} {ok ok' : Oks} {ρ : Nat → Option Value} {w : World}
end
def keepO : List Nat → Obs → Obs
  | [],_=>[]
  | i :: r,ob=>match getO ob i with
    | some o=>(i,o) :: keepO r ob
    | none=>keepO r ob
def marksL : List Deferred → List (Nat × Obj)
  | []=>[]
  | d :: ds=>match d.target with
    | .collected b=>(b,Obj.deferred (some [])) :: marksL ds
    | _=>marksL ds
def bagCx (cx : Cx) (ρ : Nat → Option Value) (ob : Obs) (w : World) (rows : Nat → Prop) (ρ2 : Nat → Option Value) (ob2 : Obs) (w1 : World) (nz : Nat) (ds : List Deferred) : Cx :=
  ⟨fun k b=>(k ≠ 7 ∧ okOf cx ρ ob k b ∧ b < w.heap.size) ∨ (k = 7 ∧ rows b),fun i=>if i = nz then some (.agg #[]) else keyed ob2 ρ2 i,w1,cx.N,nz,cx.hids ++ marksL ds,cx.fr⟩
section
variable {P : Program} {te : List (TypeId × TyI)} {cx : Cx} {tm : Tm} {ob : Obs} {nx N nx0 : Nat} {ρ : Nat → Option Value} {a : Act} {w : World} {Q : AQ}
def bagQ (rs ids : List Nat) (Q : AQ) : AQ:=fun e tm ob nx=>match noqTm 7 (keepT rs tm),noqOb 7 (keepO ids ob) with
  | true,true=>Q e (keepT rs tm) (keepO ids ob) nx
  | _,_=>False
def bagK (P : Program) (te : List (TypeId × TyI)) (N nx0 : Nat) (f : Operand) (args : List Operand) (dst : Option Nat) (tm : Tm) (ob : Obs) (nx : Nat) (K : Tm → Obs → Nat → Prop) : Prop :=
  match tgt (look tm f) with
  | some (g,caps)=>∃ r obc m',yE P g (borAs te ob [] (appA (mapL (look tm) args) caps)) [] 0 r obc m' ∧
      (match kB (borAs te ob [] (appA (mapL (look tm) args) caps)),noqAs 3 (borAs te ob [] (appA (mapL (look tm) args) caps)),noqTm 7 tm,noqOb 7 ob,only3Ob obc,r.only3,denseO ob nx0 with|true,true,true,true,true,true,true=>true|_,_,_,_,_,_,_=>false) = true ∧
      put N dst (r.to7.ren (sigO nx [])) tm fun tm=>K tm (appO (renOb (sigO nx []) (to7Ob obc)) ob) (nx + m' + 1000000)
  | none=>False
end
section
variable {P : Program} {te : List (TypeId × TyI)} {cx : Cx} {tm : Tm} {ob : Obs} {nx N nx0 : Nat} {ρ : Nat → Option Value} {a : Act} {w : World} {Q : AQ}
end
def rdKd (q : Nat) : Option (Sigma Rd) → Option (Sigma Rd)
  | some s=>some ⟨s.1,s.2.kd q⟩
  | none=>none
def TyI.kd (q : Nat) (i : TyI) : TyI:=⟨i.k,i.size,i.bytes,i.zero,rdKd q i.rd,i.eq⟩
def mapTe (q : Nat) : List (TypeId × TyI) → List (TypeId × TyI)
  | []=>[]
  | p :: r=>(p.1,p.2.kd q) :: mapTe q r
end Ab
end Go.Proofs.YtojipboabgebfaaGreatDoor
namespace Go.Proofs.YtojipboabgebfaaGreatDoor
open Go.RowKit
namespace Ab
set_option maxRecDepth 100000
end Ab
end Go.Proofs.YtojipboabgebfaaGreatDoor
namespace Go.Proofs.YtojipboabgebfaaGreatDoor
open Go.RowKit
namespace Ab
section
variable {P : Program} {te : List (TypeId × TyI)} {N nx0 : Nat} {tm : Tm} {ob : Obs} {nx : Nat} {Q : AQ}
variable {cx : Cx} {ρ : Nat → Option Value} {a : Act} {w : World}
end
end Ab
end Go.Proofs.YtojipboabgebfaaGreatDoor
namespace Go.Proofs.YtojipboabgebfaaGreatDoor
open Go.ChangeShapes Go.WideShapes Go.ChangeAt Go.RowKit
namespace Base
section
variable {H : Type} {enc : TypeId × Value → H} {P : Program}
theorem trodAll_below (hl : laidOutB P = true) {W W' : World} (hb : Below W.heap.size W W') :
    ∀ {ts : List TypeId} {vs : List Value} {ds : List (DataW H)} {ps : List MemPlace},(∀ t ∈ ts,P.readableRec t = true ∧ t < P.types.size) →
      (∀ x ∈ ps,x.block < W.heap.size) → DataW.TrodAll enc P W 0 (fun _=>true) true ts vs ds ps →
      DataW.TrodAll enc P W' 0 (fun b=>decide (b < W.heap.size)) true ts vs ds ps
  | [],vs,ds,ps,_,_,h=>by
    cases vs <;> cases ds <;> simp_all [DataW.TrodAll]
  | t :: ts,vs,ds,ps,hr,hlt,h=>by
    obtain ⟨v,vs',d,ds',p,q,rfl,rfl,rfl,h1,h2⟩:=trodAll_cons h;refine trodAll_cons_mk (Below.trod hl (hr t (by simp)).1 (hr t (by simp)).2 h1 hb (fun x hx=>hlt x (by simp [hx]))) ?_;exact trodAll_below hl hb (fun t' ht'=>hr t' (by simp [ht'])) (fun x hx=>hlt x (by simp [hx])) h2
theorem law_post {f : Func} {s : ChangeSpec} {W W' : World} {args : Array Value} {ds gs : List (DataW H)} {before : List MemPlace} {tb : TypeId}
    (hW : DataW.Whole enc P f.params.toList s.vars false W args.toList ds gs before) (hvars : s.vars = [])
    (hlo : laidOutB P = true) (hread : ∀ t ∈ f.params.toList,P.readableRec t = true ∧ t < P.types.size)
    (hspec : ∀ ds : List (DataW H),ds.length = f.params.size → s.fn H ds = { results:=[.lit (.bool true)],args:=ds })
    (hrt : f.resultTypes = #[tb]) (hbool : P.underlying tb = some .bool) (hb : Below W.heap.size W W') :
    s.post enc P f false true false false W args (.bool true) W':=by
  have hlt : ∀ p ∈ before,p.block < W.heap.size:=fun p hp=>hW.lt p hp
  have hold : ∀ p ∈ before,(fun b=>decide (b < W.heap.size)) p.block = true:=fun p hp=>by simpa using hlt p hp
  have hW':=hW;obtain ⟨p,q,hA,hV,rfl,hz,hn⟩:=hW';rw [hvars] at hV;obtain ⟨rfl,rfl⟩:=trodVars_none hV;have hlen : ds.length = f.params.size:=by
    have : ∀ {ts : List TypeId} {vs : List Value} {ds : List (DataW H)} {ps : List MemPlace},DataW.TrodAll enc P W 0 (fun _=>true) true ts vs ds ps → ds.length = ts.length:=by
      intro ts
      induction ts with
      | nil=>intro vs ds ps h;cases vs <;> cases ds <;> simp_all [DataW.TrodAll]
      | cons t ts ih =>
        intro vs ds ps h;obtain ⟨v,vs',d,ds',p,q,rfl,rfl,rfl,h1,h2⟩:=trodAll_cons h;simp [ih h2]
    simpa using this hA
  have hs:=hspec (ds ++ []) (by simpa using hlen);have hA':=trodAll_below hlo hb hread (fun x hx=>hlt x (by simp [hx])) hA;refine ⟨ds,[],p ++ [],[],p,[],hW,?_,?_,?_,World.keptBut_mono (fun x hx=>⟨hx,Or.inr (by simpa using hx)⟩) (hb.frame (· ∈ p ++ [])),fun h=>by cases h⟩
  · rw [hs,hrt];exact trodAll_mk1 (shut_bool hbool _)
  · rw [hs]
    simpa using hA'
  · rw [hvars,hs];rfl
end
end Base
end Go.Proofs.YtojipboabgebfaaGreatDoor
namespace Go.Proofs.YtojipboabgebfaaGreatDoor
open Go.RowKit
namespace Ab
abbrev AllOk : Oks:=fun _ _=>True
def Opens {α : Type} (P : Program) (t : TypeId) (R : Rd α) : Prop :=
  P.cellsOf t = R.n ∧ ∀ {H : Type} (enc : TypeId × Value → H) (w : World) (base fuel : Nat) (spare : Nat → Bool) (held : Bool) (cs : List Value) (x : DataW H × List MemPlace),DataW.trod enc P w base spare held fuel t cs = some x → ∃ a,R.is AllOk w cs a
theorem opens_str {P : Program} {t : TypeId} (ht : P.underlying t = some .string) (hc : P.cellsOf t = 1) : Opens P t .str :=
  ⟨hc,fun _ _ _ _ _ _ _ _ h=>by obtain ⟨s,e,_,hs⟩:=DataW.trod_string ht h;exact ⟨s,e⟩⟩
theorem opens_int {P : Program} {t : TypeId} {k : IntKind} (ht : P.underlying t = some (.int k)) (hc : P.cellsOf t = 1) : Opens P t (.int k) :=
  ⟨hc,fun _ _ _ _ _ _ _ _ h=>by obtain ⟨s,e,_⟩:=DataW.trod_int ht h;exact ⟨s,e⟩⟩
inductive FO (P : Program) : List Field → Nat → {α : Type} → Rd α → Prop
  | one {f : Field} {off : Nat} {α : Type} {R : Rd α} : f.offset = off → Opens P f.type R → FO P [f] off R
  | cons {f : Field} {fs : List Field} {off : Nat} {α β : Type} {R : Rd α} {S : Rd β} : f.offset = off → Opens P f.type R → FO P fs (off + R.n) S → FO P (f :: fs) off (.st R S)
theorem fo_read {P : Program} {H : Type} {enc : TypeId × Value → H} {w : World} {base n : Nat} {spare : Nat → Bool} {held : Bool} {cs : List Value} : ∀ {fs : List Field} {off : Nat} {α : Type} {R : Rd α},FO P fs off R →
    (∀ f ∈ fs,∃ x,DataW.trod enc P w base spare held n f.type ((cs.drop f.offset).take (P.cellsOf f.type)) = some x) → cs.length = off + R.n → ∃ a,R.is AllOk w (cs.drop off) a
  | _,_,_,_,.one (f:=f) (R:=R) e h,hf,hl=>by
    obtain ⟨x,hx⟩:=hf f (by simp);rw [e,h.1,List.take_of_length_le (by rw [List.length_drop];omega)] at hx;exact h.2 enc w base n spare held _ _ hx
  | _,_,_,_,.cons (f:=f) (fs:=fs) (off:=off) (R:=R) (S:=S) e h hr,hf,hl=>by
    obtain ⟨x,hx⟩:=hf f (by simp);rw [e,h.1] at hx;obtain ⟨a,ha⟩:=h.2 enc w base n spare held _ _ hx;obtain ⟨b,hb⟩:=fo_read hr (fun g hg=>hf g (by simp [hg])) (by rw [hl];show off + (R.n + S.n) = _;omega);rw [← List.drop_drop] at hb;exact ⟨(a,b),_,_,(List.take_append_drop R.n (cs.drop off)).symm,ha,hb⟩
theorem opens_st {P : Program} {t : TypeId} {α : Type} {R : Rd α} {fs : Array Field} (ht : P.underlying t = some (.struct fs)) (hc : P.cellsOf t = R.n) (hf : FO P fs.toList 0 R) : Opens P t R :=
  ⟨hc,fun enc w base fuel spare held cs x h=>by
    obtain ⟨xs,n,_,_,hl,hxl,he⟩:=DataW.trod_struct ht h;have:=fo_read (cs:=cs) hf (fun f hm=>by
      obtain ⟨i,hi,e⟩:=List.getElem_of_mem hm;have hi' : i < xs.length:=by rw [hxl];simpa using hi
      have:=he i f (by rw [← Array.getElem?_toList,List.getElem?_eq_getElem hi,e]);rw [List.getElem?_eq_getElem hi'] at this;exact ⟨_,this⟩) (by rw [hl,hc];omega)
    rw [List.drop_zero] at this;exact this⟩
theorem opens_sl {α : Type} {P : Program} {t e : TypeId} {R : Rd α} (hn : 0 < R.n) (ht : P.underlying t = some (.slice e)) (hc : P.cellsOf t = 1) (he : Opens P e R) : Opens P t (.sl R) :=
  ⟨hc,fun enc w base fuel spare held cs x h=>by
    rcases Go.Deep.open_slice ht h with ⟨rfl,_⟩|⟨a,len,cap,m,n,D,Pl,rfl,_,hl,hm,hmm,rfl,hx⟩
    · exact ⟨[],_,rfl,none,0,rfl,Nat.le_refl _,by unfold maxLen;omega,fun i h=>absurd h (by simp)⟩
    · have hlm : len ≤ m:=by rw [hmm];split <;> omega
      have each : ∀ i,i < len → ∃ q : List Value × α,w.cells? base (a.add (i * P.cellsOf e)) (P.cellsOf e) = some q.1 ∧ R.is AllOk w q.1 q.2:=by
        intro i hi;obtain ⟨cs',h1,h2⟩:=hx i (by omega);obtain ⟨y,hy⟩:=he.2 enc w base n spare held cs' _ h2;exact ⟨(cs',y),h1,hy⟩
      by_cases h0 : len = 0
      · subst h0;exact ⟨[],_,rfl,some a,cap,rfl,Nat.zero_le _,hm,fun i h=>absurd h (by simp)⟩
      · obtain ⟨q0,_⟩:=each 0 (by omega)
        haveI : Inhabited (List Value × α):=⟨q0⟩
        obtain ⟨f,hf⟩:=Go.Deep.choose_lt each;refine ⟨(List.range len).map fun i=>(f i).2,_,rfl,some a,cap,by simp,by simpa using hl,hm,fun i hi=>?_⟩;have hi' : i < len:=by simpa using hi
        obtain ⟨hc1,hr1⟩:=hf i hi';obtain ⟨_,hlen,hcell⟩:=World.cells?_some hc1;have hspot : a.spot = none:=by
          obtain ⟨hc0,hr0⟩:=hf 0 (by omega);obtain ⟨_,hlen0,hcell0⟩:=World.cells?_some hc0;have hg:=hcell0 0 (by rw [he.1];exact hn);rw [List.getElem?_eq_getElem (by rw [hlen0,he.1];exact hn)] at hg;have:=World.cell?_spot hg
          simpa [Addr.add] using this
        have hg0:=hcell 0 (by rw [he.1];exact hn);rw [List.getElem?_eq_getElem (by rw [hlen,he.1];exact hn)] at hg0;obtain ⟨u0,hg0⟩ : ∃ u,w.cell? ((a.add (i * P.cellsOf e)).add 0) = some u:=⟨_,hg0⟩;obtain ⟨b,off,spot⟩:=a;simp only at hspot;subst hspot;have hb : b < w.heap.size:=by
          rcases Nat.lt_or_ge b w.heap.size with h'|h'
          · exact h'
          · exfalso
            rw [Go.Deep.add_add,he.1,Go.WideShapes.add_plain] at hg0;simp only [World.cell?,Array.getElem?_eq_none h'] at hg0;cases hg0
        refine ⟨b,off,(f i).1,rfl,okU0 trivial,hb,⟨by rw [hlen,he.1],fun j hj=>?_⟩,by simpa using hr1⟩;have hg:=hcell j (by rw [he.1];exact hj);rw [Go.Deep.add_add,he.1,Go.WideShapes.add_plain,← Nat.add_assoc] at hg;exact hg⟩
theorem open_sl {P : Program} {α : Type} {R : Rd α} {t : TypeId} {e : TypeId} (hu : P.underlying t = some (.slice e)) (ho : Opens P t (.sl R)) {H : Type} {enc : TypeId × Value → H} {W : World} {base : Nat} {v : Value} {d : DataW H} {p : List MemPlace} (hv : Value.okWide P W .any base t v)
    (h : DataW.Trod enc P W 0 (fun _=>true) true t v d p) : ∃ xs : List α,(C.sl R xs).rep AllOk xB W v:=by
  obtain ⟨a0,len,cap,rfl⟩:=Go.WideShapes.okWide_slice hu hv;obtain ⟨fuel,hf⟩:=h;obtain ⟨xs,v,hc,hs⟩:=ho.2 enc W _ _ _ _ _ _ hf;simp only [Value.cells,List.cons.injEq,and_true] at hc;subst hc;exact ⟨xs,hs⟩
theorem handed_laidX {H : Type} {enc : TypeId × Value → H} {a : Assume} {C : Checked} {os : Os} {f : FuncId} {fn : Func} {s : ChangeSpec} {conds : List PathCond} {apart fresh handsOn again : Bool} {X : World → Array Value → Prop}
    (hX : ∀ (w w' : World) (args : Array Value),w.heap = w'.heap → X w args → X w' args)
    (own : ownKnob C.prog.godebug = none) (started : os.Started) (noInit : C.prog.inits.idxOf? f = none) (hfn : C.prog.funcs[f]? = some fn)
    (witness : ∃ (w : World) (tape : Tape) (i : Input),w.os = os ∧ (w.forCall tape i).Shaped C.prog ∧ i.vars = [] ∧ Input.okWide C.prog (w.forCall tape i) .any w.heap.size f i ∧
      ((s.pre enc C.prog fn conds apart (w.forCall tape i).memory i.args ∧ X (w.forCall tape i).memory i.args) ∧ sizedMet enc C.prog fn (OpenSpec.ofChange s) apart (w.forCall tape i).memory i.args) ∧ a.holds C.prog (lone (Frame.enter C.prog f i.args .normal) [] (w.forCall tape i)))
    (contract : ∀ (W : World) (base : Nat) (args : Array Value) (ds gs : List (DataW H)) (before : List MemPlace),
      (∀ (j : Nat) t v,fn.params[j]? = some t → args[j]? = some v → Value.okWide C.prog W .any base t v) →
      DataW.Whole enc C.prog fn.params.toList s.vars apart W args.toList ds gs before → W.ShapedOpen C.prog → X W args →
      Calls C.prog f args W fun e W'=>∃ v,e = .returned v ∧ s.post enc C.prog fn apart fresh handsOn again W args v W') :
    ReturnsInHanded a C os f .any (fun w args=>(s.pre enc C.prog fn conds apart w args ∧ X w args) ∧ sizedMet enc C.prog fn (OpenSpec.ofChange s) apart w args) (s.post enc C.prog fn apart fresh handsOn again):=by
  refine returnsInHanded_of_calls own started noInit witness ?_;intro w tape i _ hsh _ hok hpre _;obtain ⟨_,_,_,g,hg,_,_,_,_,hval⟩:=hok;obtain rfl : g = fn:=Option.some.inj (hg.symm.trans hfn);obtain ⟨⟨⟨ds,gs,before,hw,_⟩,hx⟩,_⟩:=hpre;refine (contract _ w.heap.size i.args ds gs before hval (DataW.Whole.of_heap (w':=w.forCall tape i) (by rfl) hw) hsh (hX _ (w.forCall tape i) _ (by rfl) hx)).mono fun e W' ⟨v,he,hp⟩=>?_
  subst he;exact ChangeSpec.post_blind hp
end Ab
end Go.Proofs.YtojipboabgebfaaGreatDoor
