/-
  A list of operations, abstractly: what must hold so that it comes to an end, and the state behind it. Over any program; no condition.
-/
import Derived.Test.YthlfbpmbkcoclaaDoorAbLend
namespace Go.Proofs.YthlfbpmbkcoclaaDoor
open Go.RowKit
namespace Ab

/-! ### What is handed to a call -/
def C.closed : C → Bool
  | .own _ _ => false
  | .vec _ => false
  | .vel _ _ _ => false
  | .ifc _ c => c.closed
  | .clo _ c => c.closed
  | .ref c => c.closed
  | .nself _ _ => false
  | _ => true
def closedL : List C → Bool
  | [] => true
  | c :: r => match c.closed with
    | true => closedL r
    | false => false
def closedT : List (Bool × List C) → Bool
  | [] => true
  | p :: r => match closedL p.2 with
    | true => closedT r
    | false => false
def A.closed : A → Bool
  | .one c => c.closed
  | .agg cs => closedL cs
  | .tup cs => closedT cs
  | .cond _ a => a.closed
def closedAs : List A → Bool
  | [] => true
  | a :: r => match a.closed with
    | true => closedAs r
    | false => false

def ACall (P : Program) (f : FuncId) (args : List A) (r : A) : Prop :=
  FnOk P f ∧ ∀ (ok : Nat → Prop) (w : World) (vs : List Value), GlobAt ok w → RepAs ok noNames w args vs → Calls P f vs.toArray w fun e w' => ∃ u, e = .returned u ∧ Below w.heap.size w w' ∧ r.rep (grow ok w) noNames w' u

section
variable {ok : Nat → Prop} {ρ ρ' : Nat → Option Value} {w : World}
theorem C.closed_rep : ∀ {c : C} {v : Value}, c.closed = true → c.rep ok ρ w v → c.rep ok ρ' w v
  | .any, _, _, _ => trivial
  | .lit _, _, _, h => h
  | .sl _ _, _, _, h => h
  | .full _ _, _, _, h => h
  | .addr _ _, _, _, h => h
  | .own _ _, _, hc, _ => by cases hc
  | .vec _, _, hc, _ => by cases hc
  | .vel _ _ _, _, hc, _ => by cases hc
  | .ifc _ c, _, hc, h => by obtain ⟨u, hv, h⟩ := h; exact ⟨u, hv, C.closed_rep (c := c) hc h⟩
  | .clo _ c, _, hc, h => by obtain ⟨u, hv, h⟩ := h; exact ⟨u, hv, C.closed_rep (c := c) hc h⟩
  | .ref c, _, hc, h => by obtain ⟨b, off, u, hv, h1, h2, h3, h⟩ := h; exact ⟨b, off, u, hv, h1, h2, h3, C.closed_rep (c := c) hc h⟩
  | .nself _ _, _, hc, _ => by cases hc
theorem closedL_rep : ∀ {cs : List C} {vs : List Value}, closedL cs = true → repL ok ρ w cs vs → repL ok ρ' w cs vs
  | [], _, _, h => h
  | c :: r, _, hc, h => by
    unfold closedL at hc
    split at hc
    · rename_i h1
      obtain ⟨v, r, e, h2, h3⟩ := h
      exact ⟨v, r, e, C.closed_rep h1 h2, closedL_rep hc h3⟩
    · cases hc
theorem closedV_rep : ∀ {g : Bool} {cs : List C} {v : Value}, closedL cs = true → repV ok ρ w g cs v → repV ok ρ' w g cs v
  | true, _, _, hc, h => by obtain ⟨vs, e, h⟩ := h; exact ⟨vs, e, closedL_rep hc h⟩
  | false, _, _, hc, h => closedL_rep hc h
theorem closedT_rep : ∀ {cs : List (Bool × List C)} {vs : List Value}, closedT cs = true → repT ok ρ w cs vs → repT ok ρ' w cs vs
  | [], _, _, h => h
  | c :: r, _, hc, h => by
    unfold closedT at hc
    split at hc
    · rename_i h1
      obtain ⟨v, r, e, h2, h3⟩ := h
      exact ⟨v, r, e, closedV_rep h1 h2, closedT_rep hc h3⟩
    · cases hc
theorem A.closed_rep : ∀ {a : A} {v : Value}, a.closed = true → a.rep ok ρ w v → a.rep ok ρ' w v
  | .one _, _, hc, h => C.closed_rep hc h
  | .agg _, _, hc, h => closedV_rep (g := true) hc h
  | .tup _, _, hc, h => by obtain ⟨vs, e, h⟩ := h; exact ⟨vs, e, closedT_rep hc h⟩
  | .cond _ a, _, hc, h => ⟨fun hb => A.closed_rep (a := a) hc (h.1 hb), h.2⟩
theorem closedAs_rep : ∀ {as : List A} {vs : List Value}, closedAs as = true → RepAs ok ρ w as vs → RepAs ok ρ' w as vs
  | [], _, _, h => h
  | a :: r, _, hc, h => by
    unfold closedAs at hc
    split at hc
    · rename_i h1
      obtain ⟨v, r, e, h2, h3⟩ := h
      exact ⟨v, r, e, A.closed_rep h1 h2, closedAs_rep hc h3⟩
    · cases hc
end

/-- Who is called, and with what besides the arguments. -/
def tgt : A → Option (FuncId × List A)
  | .one (.lit (.func (.func f) ⟨[]⟩ ⟨[]⟩)) => some (f, [])
  | .one (.clo f c) => some (f, [.one c])
  | _ => none
def appA : List A → List A → List A
  | [], ys => ys
  | x :: xs, ys => x :: appA xs ys

/-- Own slices that stand in a value. -/
def C.ids : C → List Nat
  | .vec i => [i]
  | .ifc _ c => c.ids
  | .clo _ (.own i 0) => [i]
  | .clo _ c => c.ids
  | .ref c => c.ids
  | _ => []
def idsL : List C → List Nat
  | [] => []
  | c :: r => match c.ids with
    | [] => idsL r
    | i :: _ => i :: idsL r
def A.ids : A → List Nat
  | .one c => c.ids
  | .agg cs => idsL cs
  | _ => []
def idsA : List A → List Nat
  | [] => []
  | a :: r => match a.ids with
    | [] => idsA r
    | i :: is => i :: appN is (idsA r)
where appN : List Nat → List Nat → List Nat
  | [], ys => ys
  | x :: xs, ys => x :: appN xs ys

/-- These own slices are let go. -/
def frz (te : List (TypeId × TyI)) (nx0 : Nat) : List Nat → Tm → Obs → (Tm → Obs → Prop) → Prop
  | [], tm, ob, K => K tm ob
  | i :: r, tm, ob, K => match getO ob i with
    | some (.vec _ R xs) => match Nat.ble nx0 i with
      | true => frz te nx0 r (subTm i (.sl R xs) tm) (subOb i (.sl R xs) (eraseO i ob)) K
      | false => False
    | some (.box T cs) => match Nat.ble nx0 i, boxC te T cs with
      | true, some d => frz te nx0 r (subTm i d tm) (subOb i d (eraseO i ob)) K
      | _, _ => False
    | none => frz te nx0 r tm ob K
/-- With those that stand in them. -/
def inOb (ob : Obs) (i : Nat) : List Nat := match getO ob i with
  | some (.box _ cs) => idsL cs
  | _ => []
def deepF (f : List Nat → List Nat) (ob : Obs) : List Nat → List Nat
  | [] => []
  | i :: r => idsA.appN (f (inOb ob i)) (i :: deepF f ob r)
def deep (ob : Obs) : Nat → List Nat → List Nat
  | 0, is => is
  | n + 1, is => deepF (deep ob n) ob is

def sureL : List C → Bool
  | [] => true
  | c :: r => match c.sure with
    | true => sureL r
    | false => false
def sndL : List (Nat × A) → List A
  | [] => []
  | p :: r => p.2 :: sndL r

def vrK (v : Vr) (K : A → Prop) : Prop :=
  match v with
  | .ok v => K v
  | .need p v => p ∧ K v
  | .know p v => p → K v
  | .bad => False
def litL : List Value → List C
  | [] => []
  | v :: r => .lit v :: litL r

/-- A call's target and arguments. -/
def callK (P : Program) (lk : Operand → A) (f : Operand) (args : List Operand) (K : A → Prop) : Prop :=
  match tgt (lk f) with
  | some (g, caps) => closedAs (appA (mapL lk args) caps) = true ∧ ∃ r, ACall P g (appA (mapL lk args) caps) r ∧ K r
  | none => False

/-- A call to which some of the own blocks (L) are lent. -/
def lendK (P : Program) (te : List (TypeId × TyI)) (nx0 : Nat) (f : Operand) (args : List Operand) (tm : Tm) (ob : Obs) (nx : Nat) (K : A → Tm → Obs → Nat → Prop) : Prop :=
  ∃ F, frz te nx0 F tm ob fun tm ob => match tgt (look tm f) with
  | some (g, caps) => ∃ (L : List Nat) (as : List A) (obc : Obs) (r : A) (obc' : Obs) (m' : Nat), ACallO P g as obc (lenN L) r obc' m' ∧ renAs (sigO nx L) as = appA (mapL (look tm) args) caps ∧ lentO ob (sigO nx L) 0 L obc ∧ ndN L = true ∧
      K (r.ren (sigO nx L)) (drpTm (badOf L obc) tm) (appO (renOb (sigO nx L) obc') (dropO L (badOf L obc) ob)) (nx + (m' - lenN L))
  | none => False

/-- What is appended: the reading and the elements. -/
def srcOf (ob : Obs) (x : A) : Option (Sigma fun α : Type => Rd α × List α) :=
  match x with
  | .one (.sl R xs) => some ⟨_, R, xs⟩
  | .one (.full R xs) => some ⟨_, R, xs⟩
  | .one (.vec id) => match getO ob id with
    | some (.vec _ R xs) => some ⟨_, R, xs⟩
    | _ => none
  | _ => none
def isNil : A → Bool
  | .one (.lit (.slice none 0 0)) => true
  | _ => false

def aEff (te : List (TypeId × TyI)) (N nx0 : Nat) (o : Oper) (tm : Tm) (ob : Obs) (nx : Nat) (K : Tm → Obs → Nat → Prop) : Prop :=
  match o.op with
  | .alloc t => match find te t with
    | some i => put N o.dst (.one (.own nx 0)) tm fun tm => K tm ((nx, .box t (litL i.zero)) :: ob) (nx + 1)
    | none => False
  | .box t x => match find te t, cellsA (look tm x) with
    | some i, some cs => match Nat.beq (lenC cs) i.size, sureL cs with
      | true, true => put N o.dst (.one (.own nx 0)) tm fun tm => K tm ((nx, .box t cs) :: ob) (nx + 1)
      | _, _ => False
    | _, _ => False
  | .store t d x => match find te t, look tm d with
    | some i, .one (.own id off) => match getO ob id, cellsA (look tm x) with
      | some (.box T cs), some ns => match Nat.beq (lenC ns) i.size, Nat.ble (off + lenC ns) (lenC cs), sureL ns with
        | true, true, true => put N o.dst (.one .any) tm fun tm => K tm (setO id (.box T (setC off ns cs)) ob) nx
        | _, _, _ => False
      | _, _ => False
    | some i, .one (.vel id k n) => frz te nx0 (look tm x).ids tm ob fun tm ob => match getO ob id, cellsA (look tm x) with
      | some (.vec E R xs), some ns => match Nat.beq (lenC ns) i.size, Nat.beq n R.n, sureL ns, ofL R ns with
        | true, true, true, some (y, []) => k < xs.length ∧ put N o.dst (.one .any) tm fun tm => K tm (setO id (.vec E R (xs.set k y)) ob) nx
        | _, _, _, _ => False
      | _, _ => False
    | _, _ => False
  | .buildSlice t n ps => frz te nx0 (idsA (sndL (lks (look tm) ps.toList))) tm ob fun tm ob => match vElems te t n (lks (look tm) ps.toList) with
    | some ⟨_, R, xs, e⟩ => put N o.dst (.one (.vec nx)) tm fun tm => K tm ((nx, .vec e R xs) :: ob) (nx + 1)
    | none => False
  | _ => False

def aApp (te : List (TypeId × TyI)) (N : Nat) (dst : Option Nat) (s x : Operand) (t : TypeId) (tm : Tm) (ob : Obs) (nx : Nat) (K : Tm → Obs → Nat → Prop) : Prop :=
  match find te t with
  | some ti => match ti.k with
    | .slice e => match find te e with
      | some ei => match Nat.ble 1 ei.bytes with
       | false => False
       | true => match isNil (look tm s) with
        | true => match ei.rd with
          | some ⟨_, R⟩ => match isNil (look tm x) with
            | true => put N dst (.one (.vec nx)) tm fun tm => K tm ((nx, .vec e R []) :: ob) (nx + 1)
            | false => match srcOf ob (look tm x) with
              | some ⟨_, S, ys⟩ => match Rd.same R S with
                | some h => ys.length * ei.bytes ≤ 140737488355328 ∧ put N dst (.one (.vec nx)) tm fun tm => K tm ((nx, .vec e R (Rd.move h.down ys)) :: ob) (nx + 1)
                | none => False
              | none => False
          | none => False
        | false => match look tm s with
          | .one (.vec id) => match getO ob id with
            | some (.vec E R xs) => match Nat.beq E e, Nat.beq R.n ei.size with
              | true, true => match isNil (look tm x) with
                | true => put N dst (.one (.vec id)) tm fun tm => K tm ob nx
                | false => match srcOf ob (look tm x) with
                  | some ⟨_, S, ys⟩ => match Rd.same R S with
                    | some h => (xs.length + ys.length) * ei.bytes ≤ 140737488355328 ∧ put N dst (.one (.vec id)) (subTm id .any tm) fun tm => K tm (setO id (.vec e R (xs ++ Rd.move h.down ys)) (subOb id .any ob)) nx
                    | none => False
                  | none => False
              | _, _ => False
            | _ => False
          | _ => False
      | none => False
    | _ => False
  | none => False

/-- The bytes of a text. -/
def intsOf (s : ByteArray) : List Int := s.data.toList.map fun b => (b.toNat : Int)
/-- A text's bytes, appended. -/
def aAppS (te : List (TypeId × TyI)) (N : Nat) (dst : Option Nat) (s x : Operand) (t t' : TypeId) (tm : Tm) (ob : Obs) (nx : Nat) (K : Tm → Obs → Nat → Prop) : Prop :=
  match find te t, find te t' with
  | some ti, some ui => match ti.k, ui.k with
    | .slice e, .str => match find te e with
      | some ei => match ei.k, ei.bytes, ei.zero with
        | .int .u8, 1, [.int .u8 (.ofNat 0)] => match look tm s, look tm x with
          | .one (.vec id), .one (.lit (.string b)) => match getO ob id with
            | some (.vec E R xs) => match Nat.beq E e, Rd.same (.int .u8) R with
              | true, some h => xs.length + b.size ≤ 140737488355328 ∧ put N dst (.one (.vec id)) (subTm id .any tm) fun tm => K tm (setO id (.vec e (.int .u8) (Rd.move h.down xs ++ intsOf b)) (subOb id .any ob)) nx
              | _, _ => False
            | _ => False
          | _, _ => False
        | _, _, _ => False
      | none => False
    | _, _ => False
  | _, _ => False

/-- One operation that is always carried out. -/
def aop (P : Program) (te : List (TypeId × TyI)) (N nx0 : Nat) (o : Oper) (tm : Tm) (ob : Obs) (nx : Nat) (K : Tm → Obs → Nat → Prop) : Prop :=
  match o.op with
  | .call { callee := .builtin .append, args, argTypes } => match args.toList, argTypes.toList with
    | [s, x], [t, t'] => match Nat.beq t t' with
      | true => aApp te N o.dst s x t tm ob nx K
      | false => aAppS te N o.dst s x t t' tm ob nx K
    | _, _ => False
  | .call { callee := .value f, args, argTypes := _ } => (frz te nx0 (deep ob 3 (idsA (mapL (look tm) args.toList))) tm ob fun tm ob =>
      callK P (look tm) f args.toList fun r => put N o.dst r tm fun tm => K tm ob nx) ∨
      lendK P te nx0 f args.toList tm ob nx fun r tm ob nx => put N o.dst r tm fun tm => K tm ob nx
  | .alloc _ => aEff te N nx0 o tm ob nx K
  | .box _ _ => aEff te N nx0 o tm ob nx K
  | .store _ _ _ => aEff te N nx0 o tm ob nx K
  | .buildSlice _ _ _ => aEff te N nx0 o tm ob nx K
  | op => vrK (opv te ob (look tm) op) fun v => put N o.dst v tm fun tm => K tm ob nx

def bareLk (tm : Tm) (x : Operand) : A := (look tm x).bare
def wereL (tm : Tm) : List Operand → Prop
  | [] => True
  | x :: r => match look tm x with
    | .cond b a => (b = true ∧ a.were) ∧ wereL tm r
    | _ => wereL tm r
/-- One operation that is carried out if q. -/
def aopG (P : Program) (te : List (TypeId × TyI)) (N : Nat) (o : Oper) (q : Bool) (tm : Tm) (ob : Obs) (K : Tm → Prop) : Prop :=
  match o.op with
  | .call { callee := .value f, args, argTypes := _ } => match tgt (bareLk tm f) with
    | some (g, caps) => closedAs (appA (mapL (bareLk tm) args.toList) caps) = true ∧ ∃ r, (q = true → wereL tm (f :: args.toList) ∧ ACall P g (appA (mapL (bareLk tm) args.toList) caps) r) ∧ put N o.dst (.cond q r) tm K
    | none => False
  | .pick c x y => match vPick (bareLk tm c) (look tm x) (look tm y) with
    | .ok v => (q = true → wereL tm [c]) ∧ put N o.dst (.cond q v) tm K
    | .need p v => (q = true → wereL tm [c] ∧ p) ∧ put N o.dst (.cond q v) tm K
    | _ => False
  | op => match opv te ob (bareLk tm) op with
    | .ok v => (q = true → wereL tm op.operands.toList) ∧ put N o.dst (.cond q v) tm K
    | .need p v => (q = true → wereL tm op.operands.toList ∧ p) ∧ put N o.dst (.cond q v) tm K
    | .know _ v => (q = true → wereL tm op.operands.toList) ∧ put N o.dst (.cond q v) tm K
    | .bad => False

def dstAt : List Oper → Nat → Option Nat
  | [], _ => none
  | o :: _, 0 => o.dst
  | _ :: r, n + 1 => dstAt r n
def gq (want b : Bool) : Bool := match want with
  | true => b
  | false => !b
def awp (P : Program) (te : List (TypeId × TyI)) (N nx0 : Nat) (all : List Oper) : List Oper → Tm → Obs → Nat → (Tm → Obs → Nat → Prop) → Prop
  | [], tm, ob, nx, K => K tm ob nx
  | o :: rest, tm, ob, nx, K => match o.guard with
    | none => aop P te N nx0 o tm ob nx fun tm ob nx => awp P te N nx0 all rest tm ob nx K
    | some (j, want) => match dstAt all j with
      | some d => match Nat.ble (d + 1) N, get tm d with
        | true, .one (.lit (.bool b)) => aopG P te N o (gq want b) tm ob fun tm => awp P te N nx0 all rest tm ob nx K
        | true, .cond p (.one (.lit (.bool b))) => aopG P te N o (p && gq want b) tm ob fun tm => awp P te N nx0 all rest tm ob nx K
        | _, _ => False
      | none => False
end Ab
end Go.Proofs.YthlfbpmbkcoclaaDoor
