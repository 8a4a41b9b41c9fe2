/-
  The texts of this proof, joined: abstract values, the library, the functions of the program and what they compute (part 3). No condition.
-/
import Derived.ProofKit
import Derived.Below
import Derived.ChangeSame
import Derived.OpenShut
import Derived.Carry
import Derived.ChangeArms
import Derived.Deep.Slices
import Derived.WideShapes
import Derived.Handed
import Derived.SizedLaws
import Derived.Test.YtlbainbjlibfiaaGreatDoorK1
import Derived.Test.YtlbainbjlibfiaaGreatDoorK2
namespace Go.Proofs.YtlbainbjlibfiaaGreatDoor
open Go.RowKit
namespace Ab
section
variable {P : Program} {te : List (TypeId × TyI)} {cx : Cx} {tm : Tm} {ob : Obs} {nx N nx0 : Nat} {ρ : Nat → Option Value} {a : Act} {w : World} {Q : AQ}
theorem store7 {t : TypeId} {i : TyI} (hi : TyOk P t i) (hf : cx.flag) (hs : StOk cx tm ob nx ρ a w) (hth : thinTm tm = true) (hto : thinOb ob = true) {b off n : Nat} {cs : List Value} (hok : okU (okOf cx ρ ob) w 7 b) (hlt : b < w.heap.size) (hc : xS w b off n cs) {v : Value} {ns : List C}
    (hv : repL (okOf cx ρ ob) ρ w ns v.cells.toList) (hn : sureL ns = true) (hsz : ns.length = i.size) (hnn : n = i.size) (hpos : 0 < n) :
    ∃ w',(Instr.storeAt t (.pointer (some ⟨b,off,none⟩)) v).run P w = .ok () w' ∧ StOk cx tm ob nx ρ a w':=by
  obtain ⟨cur,T,hb⟩:=hok.2 (.inr rfl);have hl:=repL.len hv;have hones:=sureL_ones hn hv;have hfit : off + n ≤ cur.size:=by
    have h1:=hc.2 (n - 1) (by omega);simp only [World.cell?,hb,Option.isSome_none,Bool.false_eq_true,if_false] at h1;have hcl:=hc.1;rw [List.getElem?_eq_getElem (by omega)] at h1;have:=(Array.getElem?_eq_some_iff.1 h1).1;omega
  have hst:=run_storeCells_at P b off T v.cells.toList 0 cur w hb (by rw [Nat.add_zero];omega) hones;simp only [Nat.add_zero] at hst;obtain ⟨vs,hvs⟩ : ∃ vs,vs = v.cells.toList:=⟨_,rfl⟩;rw [← hvs] at hst hones hl;have hvl : vs.length = n:=by omega
  refine ⟨w.setRow b (cur.toList.take off ++ vs ++ cur.toList.drop (off + vs.length)).toArray,?_,?_⟩
  · simp only [Instr.storeAt,storeVar,Instr.sureAddr,Sem.run_bind,Sem.run_pure,Result.andThen_ok,hi.sizeOf];rw [if_neg (by rw [hvs] at hvl;simp only [Array.length_toList] at hvl;omega),← hvs];exact hst
  · obtain ⟨arr,harr⟩ : ∃ arr,arr = (cur.toList.take off ++ vs ++ cur.toList.drop (off + vs.length)).toArray:=⟨_,rfl⟩;rw [← harr];have hheap : (w.setRow b arr).heap[b]? = some (.cells arr T (0,0)):=setRow_heap w b cur arr T _ hb;have hother : ∀ c,c ≠ b → (w.setRow b arr).heap[c]? = w.heap[c]?:=fun c h=>setRow_other w b c arr h
    have hasz : arr.size = cur.size:=by
      rw [harr];simp only [List.size_toArray,List.length_append,List.length_take,List.length_drop,Array.length_toList];omega
    refine hs.spoil hf hth hto ⟨rfl,rfl,rfl,by simp,fun c _ hno=>hother c fun e=>hno (e ▸ hok.1),fun c=>?_,fun c o e hno=>?_⟩
    · by_cases e : c = b
      · subst e;intro cs2 T2 f2 e2;rw [hb] at e2;cases e2;refine ⟨arr,hheap,hasz,fun k u hk=>?_⟩;rw [harr,List.getElem?_toArray] at hk;rcases Nat.lt_or_ge k off with h1|h1
        · left
          rw [List.append_assoc,List.getElem?_append_left (by rw [List.length_take,Array.length_toList];omega),List.getElem?_take_of_lt h1,Array.getElem?_toList] at hk;exact hk
        · rcases Nat.lt_or_ge k (off + n) with h2|h2
          · right
            rw [List.getElem?_append_left (by simp only [List.length_append,List.length_take,Array.length_toList];omega),List.getElem?_append_right (by simp only [List.length_take,Array.length_toList];omega)] at hk;exact hones u (List.mem_of_getElem? hk)
          · left
            rw [List.getElem?_append_right (by simp only [List.length_append,List.length_take,Array.length_toList];omega),List.getElem?_drop,Array.getElem?_toList] at hk;rw [← hk]
            congr 1
            simp only [List.length_append,List.length_take,Array.length_toList];omega
      · exact .rfl' (hother c e)
    · rw [hother c fun h=>by rw [h,hb] at e;cases e;exact hno _ _ _ rfl];exact e
theorem acode_store7 {id : Nat} {ops : Array Oper} (k : Nat) {post : List Oper} {o : Oper} {t : TypeId} {d x : Operand} (hk : ops.toList.drop k = o :: post) (hop : o.op = .store t d x) (hg : o.guard = none) (hn : Nat.ble 1000000 nx0 = true)
    (h : awp P te N nx0 ops.toList (ops.toList.take k) tm ob nx (fun tm1 ob1 nx1=>∃ (i : TyI) (β : Type) (R : Rd β) (y : β) (ns : List C),find te t = some i ∧ look tm1 d = .one (.adk 7 R y) ∧ cellsA (look tm1 x) = some ns ∧
      (match Nat.beq (lenC ns) i.size,Nat.beq R.n i.size,sureL ns,thinTm tm1,thinOb ob1 with|true,true,true,true,true=>true|_,_,_,_,_=>false) = true ∧
      put N o.dst (.one .any) tm1 fun tm2=>awp P te N nx0 ops.toList post tm2 ob1 nx1 fun tm ob nx=>Q .normal tm ob nx)) : yG P te N nx0 (.region id ops false) tm ob nx Q:=by
  unfold yG;intro hte rd n cx hnr e1 e2 ρ a w hs;subst e1 e2;have hf : cx.flag:=hnr.1 (Nat.le_of_ble_eq_true hn);refine wpIn_region_list ?_;have hops : ops.toList = ops.toList.take k ++ o :: post:=by rw [← hk,List.take_append_drop]
  rw [hops];refine awp_rest hte ops (o :: post) (ops.toList.take k) h hs ?_
  rintro tm1 ob1 nx1 ρ1 a1 w1 ⟨i,β,R,y,ns,hi,hd,hns,hall,hput⟩ hs1
  split at hall
  · rename_i c1 c2 c3 c4 c5;have c1:=Nat.eq_of_beq_eq_true c1;have c2:=Nat.eq_of_beq_eq_true c2;rw [lenC_eq] at c1;have hdr:=hs1.look d;rw [hd] at hdr;obtain ⟨b,off,cs,hde,h1,h2,h3,h4⟩:=hdr;obtain ⟨w',h5,h6⟩:=store7 (yT hte hi) hf hs1 c4 c5 h1 h2 h3 (cells_of hs1 hns c3) c3 c1 c2 R.n_pos;obtain ⟨tm2,h7,h8⟩:=h6.put hput (u:=undef) trivial;refine wpListIn_of hg (fun c e=>by rw [hop] at e;cases e) ?_;unfold Oper.wp execOp;rw [hop];simp only [Sem.run_bind,hde,h5,Result.andThen_ok,Sem.run_pure];exact awp_sound hte ops post h7 h8 (fun tm ob nx ρ a w hq hs=>⟨tm,ob,nx,ρ,hq,hs⟩)
  · cases hall
end
theorem aspoil_of {P : Program} {te : List (TypeId × TyI)} {f : FuncId} {fn : Func} {c : Code} (hf : P.funcs[f]? = some fn) (hb : fn.body = some c) (hname : (fn.name == "runtime.NumGoroutine") = false) (hr : fn.results = #[]) (hte : TEok P te) (hn : Nat.ble 1 fn.ntmps = true)
    (h : ∀ xs,yG P te fn.ntmps 1000000 c [(0,.one (.slk 7 rUnk2 xs))] [] 1000000 (fun e _ _ _=>e = .ret ∨ e = .normal)) : ASpoil P f:=by
  refine ⟨⟨fn,hf,by rw [hb];rfl,hname⟩,fun ok w v xs hgl h70 hsl=>callsIn_wide.1 (callsIn_of_wp_marks (F:=FR none) (n:=0) hf hb trivial ?_)⟩;have hn:=Nat.le_of_ble_eq_true hn
  let cx : Cx:=⟨fun k b=>(k = 7 ∧ ok 7 b ∧ Unfz w b) ∨ (k ≠ 7 ∧ b = 0),fun i=>if i = 1000000 then some (.agg #[]) else none,w,fn.ntmps,1000000,[],true⟩
  have hfl : cx.flag:=⟨Nat.le_refl 1000000,by show (if (1000000 : Nat) = 1000000 then some (Value.agg #[]) else none) = _;rw [if_pos rfl]⟩;have hnm : ∀ i b,blk (cx.nm i) ≠ some b:=fun i b e=>by
    have e : blk (if i = 1000000 then some (.agg #[]) else none) = some b:=e
    by_cases hi : i = 1000000
    · rw [if_pos hi] at e;cases e
    · rw [if_neg hi] at e;cases e
  have hs : StOk cx [(0,.one (.slk 7 rUnk2 xs))] [] 1000000 yN { tmps:=#[v] ++ Array.replicate (fn.ntmps - (#[v] : Array Value).size) undef,defers:=[] } w:=by
    refine ⟨?_,DefOk.none rfl,fun i=>?_,fun p hp=>by (cases hp),List.nodup_nil,fun p hp=>by (cases hp),fun _ _=>rfl,Nat.le_refl _,fun p hp=>by (cases hp),fun p hp=>by (cases hp),⟨rfl,rfl,rfl,Nat.le_refl _,fun _ _ _ _=>rfl,fun _ _=>.rfl' rfl⟩,fun i b _ e=>absurd e (hnm i b),fun i _ p e=>?_,⟨.inr ⟨by decide,rfl⟩,hgl.2⟩,fun b hb=>?_⟩
    · show (#[v] ++ Array.replicate (fn.ntmps - (#[v] : Array Value).size) undef).size = fn.ntmps;simp only [Array.size_append,Array.size_replicate,List.size_toArray,List.length_singleton];omega
    · rw [get_cons];split
      · rename_i e;have e : (0 : Nat) = i:=Nat.eq_of_beq_eq_true e;subst e;have hv : (#[v] ++ Array.replicate (fn.ntmps - (#[v] : Array Value).size) undef).getD 0 undef = v:=by rw [Array.getD_eq_getD_getElem?,Array.getElem?_append_left (by simp)];rfl
        rw [hv];obtain ⟨ad,cap,h1,h2,h3,h4⟩:=hsl;refine ⟨ad,cap,h1,h2,h3,fun i hi=>?_⟩;obtain ⟨b,off,cs,h5,h6,h7,h8,h9⟩:=h4 i hi;exact ⟨b,off,cs,h5,⟨⟨.inl (.inl ⟨rfl,h6.1,h6.2 (.inr rfl)⟩),fun p hp=>by cases hp⟩,h6.2⟩,h7,h8,h9⟩
      · trivial
    · have e0 : (if i = 1000000 then some (.agg #[]) else none) = some (Value.pointer p):=e
      by_cases hi : i = 1000000
      · rw [if_pos hi] at e0;cases e0
      · rw [if_neg hi] at e0;cases e0
    · rcases hb.2 with ⟨_,h1,h2⟩|⟨h1,_⟩
      · refine ⟨by obtain ⟨_,_,h3⟩:=h2;exact (Array.getElem?_eq_some_iff.1 h3).1,fun k hk hkb=>?_⟩;rcases hkb with ⟨h3,_⟩|⟨_,h3⟩
        · exact hk h3
        · rw [h3] at h1;exact h70 h1
      · exact absurd rfl h1
  have hh:=h xs;unfold yG at hh;refine Code.wpIn_mono ?_ (hh hte none 0 cx ⟨fun _=>hfl,.inl ⟨rfl,rfl,rfl⟩⟩ rfl rfl yN _ w hs)
  rintro e a' w0' ⟨tm',ob',nx',ρ',hq,hs0'⟩
  have fin : ∀ w',StOk cx tm' ob' nx' ρ' ⟨a'.tmps,[]⟩ w' → ∃ u,(results fn a'.tmps).run P w' = .ok u w' ∧ ∃ u2,Ending.returned u = .returned u2 ∧ Spoilt (ok 7) w w':=fun w' hs'=>by
    refine ⟨_,results_none hr _ _ _,_,rfl,hs'.keep.os,hs'.keep.tape,hs'.keep.output,hs'.keep.size,fun b hlt hno=>hs'.keep.block b hlt (fun ⟨i,_,e⟩=>hnm i b e) (fun hg=>?_),fun b=>?_,fun b o e hno=>?_⟩
    · rcases hg.2 with ⟨_,h1,_⟩|⟨h1,_⟩
      · exact hno h1
      · exact absurd rfl h1
    · by_cases hbg : cx.bag b
      · exact hs'.keep.shape b hbg
      · rcases Nat.lt_or_ge b w.heap.size with hlt|hge
        · exact .rfl' (hs'.keep.block b hlt (fun ⟨i,_,e⟩=>hnm i b e) hbg)
        · intro cs T f e;rw [Array.getElem?_eq_none hge] at e;cases e
    · have hlt:=(Array.getElem?_eq_some_iff.1 e).1
      by_cases hbg : cx.bag b
      · exfalso
        rcases hbg.2 with ⟨_,_,cs,T,h1⟩|⟨h1,_⟩
        · rw [e] at h1;cases h1;exact hno _ _ _ rfl
        · exact absurd rfl h1
      · exact (hs'.keep.block b hlt (fun ⟨i,_,e⟩=>hnm i b e) hbg).trans e
  rcases hq with rfl|rfl
  · refine StOk.unwind hs0' rfl rfl fun w' hs'=>?_
    obtain ⟨u,h1,h2⟩:=fin w' hs';exact ⟨u,h1,h2⟩
  · refine StOk.unwind hs0' rfl rfl fun w' hs'=>?_
    obtain ⟨u,h1,h2⟩:=fin w' hs';exact ⟨u,h1,h2⟩
def rdKd (q : Nat) : Option (Sigma Rd) → Option (Sigma Rd)
  | some s=>some ⟨s.1,s.2.kd q⟩
  | none=>none
def TyI.kd (q : Nat) (i : TyI) : TyI:=⟨i.k,i.size,i.bytes,i.zero,rdKd q i.rd,i.eq⟩
def mapTe (q : Nat) : List (TypeId × TyI) → List (TypeId × TyI)
  | []=>[]
  | p :: r=>(p.1,p.2.kd q) :: mapTe q r
theorem mapTe_ok {P : Program} {q : Nat} : ∀ {te : List (TypeId × TyI)},TEok P te → TEok P (mapTe q te)
  | [],_,p,hp=>by cases hp
  | x :: r,h,p,hp=>by
    rcases List.mem_cons.1 hp with hp|hp
    · subst hp;have h1:=h x (by simp);refine ⟨h1.info,h1.kind,h1.zlen,h1.zplain,h1.size1,fun α R e=>?_,h1.eqg⟩;have e : rdKd q x.2.rd = some ⟨α,R⟩:=e;have h2:=h1.rdn;cases hx : x.2.rd with
      | none=>rw [hx] at e;cases e
      | some s =>
        rw [hx] at e;cases e;have:=h2 s.1 s.2 (by rw [hx]);exact (Rd.kd_n _).trans this
    · exact mapTe_ok (fun y hy=>h y (by simp [hy])) p hp
end Ab
end Go.Proofs.YtlbainbjlibfiaaGreatDoor
namespace Go.Proofs.YtlbainbjlibfiaaGreatDoor
open Go.ChangeShapes Go.WideShapes Go.ChangeAt Go.RowKit
namespace Base
section
variable {H : Type} {enc : TypeId × Value → H} {P : Program}
theorem trodAll_below (hl : laidOutB P = true) {W W' : World} (hb : Below W.heap.size W W') :
    ∀ {ts : List TypeId} {vs : List Value} {ds : List (DataW H)} {ps : List MemPlace},(∀ t ∈ ts,P.readableRec t = true ∧ t < P.types.size) →
      (∀ x ∈ ps,x.block < W.heap.size) → DataW.TrodAll enc P W 0 (fun _=>true) true ts vs ds ps →
      DataW.TrodAll enc P W' 0 (fun b=>decide (b < W.heap.size)) true ts vs ds ps
  | [],vs,ds,ps,_,_,h=>by
    cases vs <;> cases ds <;> simp_all [DataW.TrodAll]
  | t :: ts,vs,ds,ps,hr,hlt,h=>by
    obtain ⟨v,vs',d,ds',p,q,rfl,rfl,rfl,h1,h2⟩:=trodAll_cons h;refine trodAll_cons_mk (Below.trod hl (hr t (by simp)).1 (hr t (by simp)).2 h1 hb (fun x hx=>hlt x (by simp [hx]))) ?_;exact trodAll_below hl hb (fun t' ht'=>hr t' (by simp [ht'])) (fun x hx=>hlt x (by simp [hx])) h2
theorem law_post {f : Func} {s : ChangeSpec} {W W' : World} {args : Array Value} {ds gs : List (DataW H)} {before : List MemPlace} {tb : TypeId}
    (hW : DataW.Whole enc P f.params.toList s.vars false W args.toList ds gs before) (hvars : s.vars = [])
    (hlo : laidOutB P = true) (hread : ∀ t ∈ f.params.toList,P.readableRec t = true ∧ t < P.types.size)
    (hspec : ∀ ds : List (DataW H),ds.length = f.params.size → s.fn H ds = { results:=[.lit (.bool true)],args:=ds })
    (hrt : f.resultTypes = #[tb]) (hbool : P.underlying tb = some .bool) (hb : Below W.heap.size W W') :
    s.post enc P f false true false false W args (.bool true) W':=by
  have hlt : ∀ p ∈ before,p.block < W.heap.size:=fun p hp=>hW.lt p hp
  have hold : ∀ p ∈ before,(fun b=>decide (b < W.heap.size)) p.block = true:=fun p hp=>by simpa using hlt p hp
  have hW':=hW;obtain ⟨p,q,hA,hV,rfl,hz,hn⟩:=hW';rw [hvars] at hV;obtain ⟨rfl,rfl⟩:=trodVars_none hV;have hlen : ds.length = f.params.size:=by
    have : ∀ {ts : List TypeId} {vs : List Value} {ds : List (DataW H)} {ps : List MemPlace},DataW.TrodAll enc P W 0 (fun _=>true) true ts vs ds ps → ds.length = ts.length:=by
      intro ts
      induction ts with
      | nil=>intro vs ds ps h;cases vs <;> cases ds <;> simp_all [DataW.TrodAll]
      | cons t ts ih =>
        intro vs ds ps h;obtain ⟨v,vs',d,ds',p,q,rfl,rfl,rfl,h1,h2⟩:=trodAll_cons h;simp [ih h2]
    simpa using this hA
  have hs:=hspec (ds ++ []) (by simpa using hlen);have hA':=trodAll_below hlo hb hread (fun x hx=>hlt x (by simp [hx])) hA;refine ⟨ds,[],p ++ [],[],p,[],hW,?_,?_,?_,World.keptBut_mono (fun x hx=>⟨hx,Or.inr (by simpa using hx)⟩) (hb.frame (· ∈ p ++ [])),fun h=>by cases h⟩
  · rw [hs,hrt];exact trodAll_mk1 (shut_bool hbool _)
  · rw [hs]
    simpa using hA'
  · rw [hvars,hs];rfl
end
end Base
end Go.Proofs.YtlbainbjlibfiaaGreatDoor
namespace Go.Proofs.YtlbainbjlibfiaaGreatDoor
open Go.RowKit
namespace Ab
abbrev AllOk : Oks:=fun _ _=>True
def Opens {α : Type} (P : Program) (t : TypeId) (R : Rd α) : Prop :=
  P.cellsOf t = R.n ∧ ∀ {H : Type} (enc : TypeId × Value → H) (w : World) (base fuel : Nat) (spare : Nat → Bool) (held : Bool) (cs : List Value) (x : DataW H × List MemPlace),DataW.trod enc P w base spare held fuel t cs = some x → ∃ a,R.is AllOk w cs a
theorem opens_str {P : Program} {t : TypeId} (ht : P.underlying t = some .string) (hc : P.cellsOf t = 1) : Opens P t .str :=
  ⟨hc,fun _ _ _ _ _ _ _ _ h=>by obtain ⟨s,e,_,hs⟩:=DataW.trod_string ht h;exact ⟨s,e⟩⟩
theorem opens_int {P : Program} {t : TypeId} {k : IntKind} (ht : P.underlying t = some (.int k)) (hc : P.cellsOf t = 1) : Opens P t (.int k) :=
  ⟨hc,fun _ _ _ _ _ _ _ _ h=>by obtain ⟨s,e,_⟩:=DataW.trod_int ht h;exact ⟨s,e⟩⟩
inductive FO (P : Program) : List Field → Nat → {α : Type} → Rd α → Prop
  | one {f : Field} {off : Nat} {α : Type} {R : Rd α} : f.offset = off → Opens P f.type R → FO P [f] off R
  | cons {f : Field} {fs : List Field} {off : Nat} {α β : Type} {R : Rd α} {S : Rd β} : f.offset = off → Opens P f.type R → FO P fs (off + R.n) S → FO P (f :: fs) off (.st R S)
theorem fo_read {P : Program} {H : Type} {enc : TypeId × Value → H} {w : World} {base n : Nat} {spare : Nat → Bool} {held : Bool} {cs : List Value} : ∀ {fs : List Field} {off : Nat} {α : Type} {R : Rd α},FO P fs off R →
    (∀ f ∈ fs,∃ x,DataW.trod enc P w base spare held n f.type ((cs.drop f.offset).take (P.cellsOf f.type)) = some x) → cs.length = off + R.n → ∃ a,R.is AllOk w (cs.drop off) a
  | _,_,_,_,.one (f:=f) (R:=R) e h,hf,hl=>by
    obtain ⟨x,hx⟩:=hf f (by simp);rw [e,h.1,List.take_of_length_le (by rw [List.length_drop];omega)] at hx;exact h.2 enc w base n spare held _ _ hx
  | _,_,_,_,.cons (f:=f) (fs:=fs) (off:=off) (R:=R) (S:=S) e h hr,hf,hl=>by
    obtain ⟨x,hx⟩:=hf f (by simp);rw [e,h.1] at hx;obtain ⟨a,ha⟩:=h.2 enc w base n spare held _ _ hx;obtain ⟨b,hb⟩:=fo_read hr (fun g hg=>hf g (by simp [hg])) (by rw [hl];show off + (R.n + S.n) = _;omega);rw [← List.drop_drop] at hb;exact ⟨(a,b),_,_,(List.take_append_drop R.n (cs.drop off)).symm,ha,hb⟩
theorem opens_st {P : Program} {t : TypeId} {α : Type} {R : Rd α} {fs : Array Field} (ht : P.underlying t = some (.struct fs)) (hc : P.cellsOf t = R.n) (hf : FO P fs.toList 0 R) : Opens P t R :=
  ⟨hc,fun enc w base fuel spare held cs x h=>by
    obtain ⟨xs,n,_,_,hl,hxl,he⟩:=DataW.trod_struct ht h;have:=fo_read (cs:=cs) hf (fun f hm=>by
      obtain ⟨i,hi,e⟩:=List.getElem_of_mem hm;have hi' : i < xs.length:=by rw [hxl];simpa using hi
      have:=he i f (by rw [← Array.getElem?_toList,List.getElem?_eq_getElem hi,e]);rw [List.getElem?_eq_getElem hi'] at this;exact ⟨_,this⟩) (by rw [hl,hc];omega)
    rw [List.drop_zero] at this;exact this⟩
theorem opens_sl {α : Type} {P : Program} {t e : TypeId} {R : Rd α} (hn : 0 < R.n) (ht : P.underlying t = some (.slice e)) (hc : P.cellsOf t = 1) (he : Opens P e R) : Opens P t (.sl R) :=
  ⟨hc,fun enc w base fuel spare held cs x h=>by
    rcases Go.Deep.open_slice ht h with ⟨rfl,_⟩|⟨a,len,cap,m,n,D,Pl,rfl,_,hl,hm,hmm,rfl,hx⟩
    · exact ⟨[],_,rfl,none,0,rfl,Nat.le_refl _,by unfold maxLen;omega,fun i h=>absurd h (by simp)⟩
    · have hlm : len ≤ m:=by rw [hmm];split <;> omega
      have each : ∀ i,i < len → ∃ q : List Value × α,w.cells? base (a.add (i * P.cellsOf e)) (P.cellsOf e) = some q.1 ∧ R.is AllOk w q.1 q.2:=by
        intro i hi;obtain ⟨cs',h1,h2⟩:=hx i (by omega);obtain ⟨y,hy⟩:=he.2 enc w base n spare held cs' _ h2;exact ⟨(cs',y),h1,hy⟩
      by_cases h0 : len = 0
      · subst h0;exact ⟨[],_,rfl,some a,cap,rfl,Nat.zero_le _,hm,fun i h=>absurd h (by simp)⟩
      · obtain ⟨q0,_⟩:=each 0 (by omega)
        haveI : Inhabited (List Value × α):=⟨q0⟩
        obtain ⟨f,hf⟩:=Go.Deep.choose_lt each;refine ⟨(List.range len).map fun i=>(f i).2,_,rfl,some a,cap,by simp,by simpa using hl,hm,fun i hi=>?_⟩;have hi' : i < len:=by simpa using hi
        obtain ⟨hc1,hr1⟩:=hf i hi';obtain ⟨_,hlen,hcell⟩:=World.cells?_some hc1;have hspot : a.spot = none:=by
          obtain ⟨hc0,hr0⟩:=hf 0 (by omega);obtain ⟨_,hlen0,hcell0⟩:=World.cells?_some hc0;have hg:=hcell0 0 (by rw [he.1];exact hn);rw [List.getElem?_eq_getElem (by rw [hlen0,he.1];exact hn)] at hg;have:=World.cell?_spot hg
          simpa [Addr.add] using this
        have hg0:=hcell 0 (by rw [he.1];exact hn);rw [List.getElem?_eq_getElem (by rw [hlen,he.1];exact hn)] at hg0;obtain ⟨u0,hg0⟩ : ∃ u,w.cell? ((a.add (i * P.cellsOf e)).add 0) = some u:=⟨_,hg0⟩;obtain ⟨b,off,spot⟩:=a;simp only at hspot;subst hspot;have hb : b < w.heap.size:=by
          rcases Nat.lt_or_ge b w.heap.size with h'|h'
          · exact h'
          · exfalso
            rw [Go.Deep.add_add,he.1,Go.WideShapes.add_plain] at hg0;simp only [World.cell?,Array.getElem?_eq_none h'] at hg0;cases hg0
        refine ⟨b,off,(f i).1,rfl,okU0 trivial,hb,⟨by rw [hlen,he.1],fun j hj=>?_⟩,by simpa using hr1⟩;have hg:=hcell j (by rw [he.1];exact hj);rw [Go.Deep.add_add,he.1,Go.WideShapes.add_plain,← Nat.add_assoc] at hg;exact hg⟩
theorem open_sl {P : Program} {α : Type} {R : Rd α} {t : TypeId} {e : TypeId} (hu : P.underlying t = some (.slice e)) (ho : Opens P t (.sl R)) {H : Type} {enc : TypeId × Value → H} {W : World} {base : Nat} {v : Value} {d : DataW H} {p : List MemPlace} (hv : Value.okWide P W .any base t v)
    (h : DataW.Trod enc P W 0 (fun _=>true) true t v d p) : ∃ xs : List α,(C.sl R xs).rep AllOk yN W v:=by
  obtain ⟨a0,len,cap,rfl⟩:=Go.WideShapes.okWide_slice hu hv;obtain ⟨fuel,hf⟩:=h;obtain ⟨xs,v,hc,hs⟩:=ho.2 enc W _ _ _ _ _ _ hf;simp only [Value.cells,List.cons.injEq,and_true] at hc;subst hc;exact ⟨xs,hs⟩
theorem handed_laid {H : Type} {enc : TypeId × Value → H} {a : Assume} {C : Checked} {os : Os} {f : FuncId} {fn : Func} {s : ChangeSpec} {conds : List PathCond} {apart fresh handsOn again : Bool} {X : World → Array Value → Prop}
    (_hX : ∀ (w w' : World) (args : Array Value),w.heap = w'.heap → X w args → X w' args)
    (own : ownKnob C.prog.godebug = none) (started : os.Started) (noInit : C.prog.inits.idxOf? f = none) (hfn : C.prog.funcs[f]? = some fn)
    (witness : ∃ (w : World) (tape : Tape) (i : Input),w.os = os ∧ (w.forCall tape i).Shaped C.prog ∧ i.vars = [] ∧ Input.okWide C.prog (w.forCall tape i) .any w.heap.size f i ∧
      ((s.pre enc C.prog fn conds apart (w.forCall tape i).memory i.args ∧ X (w.forCall tape i).memory i.args) ∧ sizedMet enc C.prog fn (OpenSpec.ofChange s) apart (w.forCall tape i).memory i.args) ∧ a.holds C.prog (lone (Frame.enter C.prog f i.args .normal) [] (w.forCall tape i)))
    (contract : ∀ (W : World) (base : Nat) (args : Array Value) (ds gs : List (DataW H)) (before : List MemPlace),
      (∀ (j : Nat) t v,fn.params[j]? = some t → args[j]? = some v → Value.okWide C.prog W .any base t v) →
      DataW.Whole enc C.prog fn.params.toList s.vars apart W args.toList ds gs before → W.ShapedOpen C.prog →
      Calls C.prog f args W fun e W'=>∃ v,e = .returned v ∧ s.post enc C.prog fn apart fresh handsOn again W args v W') :
    ReturnsInHanded a C os f .any (fun w args=>(s.pre enc C.prog fn conds apart w args ∧ X w args) ∧ sizedMet enc C.prog fn (OpenSpec.ofChange s) apart w args) (s.post enc C.prog fn apart fresh handsOn again):=by
  refine returnsInHanded_of_calls own started noInit witness ?_;intro w tape i _ hsh _ hok hpre _;obtain ⟨_,_,_,g,hg,_,_,_,_,hval⟩:=hok;obtain rfl : g = fn:=Option.some.inj (hg.symm.trans hfn);obtain ⟨⟨⟨ds,gs,before,hw,_⟩,_⟩,_⟩:=hpre;refine (contract _ w.heap.size i.args ds gs before hval (DataW.Whole.of_heap (w':=w.forCall tape i) (by rfl) hw) hsh).mono fun e W' ⟨v,he,hp⟩=>?_
  subst he;exact ChangeSpec.post_blind hp
end Ab
end Go.Proofs.YtlbainbjlibfiaaGreatDoor
