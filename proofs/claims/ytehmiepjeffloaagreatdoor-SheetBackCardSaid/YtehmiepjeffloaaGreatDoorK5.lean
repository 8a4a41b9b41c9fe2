/-
  The texts of this proof, joined: abstract values, the library, the functions of the program and what they compute (part 5). No condition.
-/
import Derived.Shelf.Vars
import Derived.KernelRfl
import Derived.Test.YtehmiepjeffloaaGreatDoorK1
import Derived.Test.YtehmiepjeffloaaGreatDoorK2
import Derived.Test.YtehmiepjeffloaaGreatDoorK3
import Derived.Test.YtehmiepjeffloaaGreatDoorK4
namespace Go.Proofs.YtehmiepjeffloaaGreatDoor
open Go.RowKit
namespace Ab
set_option maxRecDepth 100000
namespace Q
def fstV (k : ByteArray) : List Fld → ByteArray
  | []=>⟨#[]⟩
  | f :: l=>if f.1 = k then f.2 else fstV k l
def keyIs (k : ByteArray) (f : Fld) : Bool:=decide (f.1 = k)
theorem fstV_none {k : ByteArray} : ∀ {l : List Fld},l.any (keyIs k) = false → fstV k l = ⟨#[]⟩
  | [],_=>rfl
  | f :: l,h=>by
    rw [List.any_cons,Bool.or_eq_false_iff] at h;unfold fstV;rw [if_neg (of_decide_eq_false h.1)];exact fstV_none h.2
theorem fstV_at {k : ByteArray} (d : Fld) : ∀ {l : List Fld} {i : Nat},i < l.length → (l.take i).any (keyIs k) = false → keyIs k (l.getD i d) = true → fstV k l = (l.getD i d).2
  | [],_,h,_,_=>by cases h
  | f :: l,0,_,_,h=>by
    unfold fstV;exact if_pos (of_decide_eq_true h)
  | f :: l,i + 1,h,h1,h2=>by
    rw [List.take_succ_cons,List.any_cons,Bool.or_eq_false_iff] at h1;unfold fstV;rw [if_neg (of_decide_eq_false h1.1)];exact fstV_at d (Nat.lt_of_succ_lt_succ h) h1.2 h2
theorem fstV_size {k : ByteArray} {n : Nat} : ∀ {l : List Fld},(∀ f ∈ l,f.2.size ≤ n) → (fstV k l).size ≤ n
  | [],_=>Nat.zero_le _
  | f :: l,h=>by
    unfold fstV;split
    · exact h f (List.mem_cons_self ..)
    · exact fstV_size fun g hg=>h g (List.mem_cons_of_mem _ hg)
def rowX (keys : List ByteArray) (x : Stz) : List ByteArray:=keys.map fun k=>fstV k x.2
def rowsX (keys : List ByteArray) (ss : List Stz) : List (List ByteArray):=keys :: ss.map (rowX keys)
def hasK (v : ByteArray) (l : List ByteArray) : Bool:=l.any fun x=>decide (v = x)
def addK (out : List ByteArray) (f : Fld) : List ByteArray:=if hasK f.1 out = true then out else out ++ [f.1]
def keysX (ss : List Stz) : List ByteArray:=ss.foldl (fun out x=>x.2.foldl addK out) []
theorem addK_new {out : List ByteArray} {f : Fld} (h : hasK f.1 out = false) : addK out f = out ++ [f.1]:=by
  unfold addK;rw [if_neg (by rw [h];decide)]
theorem addK_old {out : List ByteArray} {f : Fld} (h : hasK f.1 out = true) : addK out f = out:=if_pos h
theorem addK_len (out : List ByteArray) (f : Fld) : (addK out f).length ≤ out.length + 1:=by
  unfold addK;split
  · omega
  · rw [List.length_append];exact Nat.le_refl _
theorem addKs_len : ∀ (l : List Fld) (out : List ByteArray),(l.foldl addK out).length ≤ out.length + l.length
  | [],_=>Nat.le_refl _
  | f :: l,out=>by
    have h1:=addKs_len l (addK out f);have h2:=addK_len out f;simp only [List.foldl_cons,List.length_cons];omega
theorem keysX_len {ss : List Stz} (n : Nat) (h : ∀ x ∈ ss,x.2.length ≤ n) : (keysX ss).length ≤ ss.length * n:=by
  unfold keysX
  suffices h2 : ∀ (ss : List Stz) (out : List ByteArray),(∀ x ∈ ss,x.2.length ≤ n) → (ss.foldl (fun out x=>x.2.foldl addK out) out).length ≤ out.length + ss.length * n by
    have:=h2 ss [] h
    simpa using this
  intro ss
  induction ss with
  | nil=>intro out _;simp
  | cons x ss ih =>
    intro out h;have h1:=ih (x.2.foldl addK out) (fun y hy=>h y (List.mem_cons_of_mem _ hy));have h2:=addKs_len x.2 out;have h3:=h x (List.mem_cons_self ..);simp only [List.foldl_cons,List.length_cons,Nat.add_mul,Nat.one_mul];omega
theorem keysX_snoc {ss : List Stz} {i : Nat} (h : i < ss.length) : keysX (ss.take (i + 1)) = (ss.getD i ((0 : Int),([] : List Fld))).2.foldl addK (keysX (ss.take i)):=by
  unfold keysX;rw [← yQ ((0 : Int),([] : List Fld)) h,List.foldl_append];rfl
theorem addK_snoc {l : List Fld} {j : Nat} (out : List ByteArray) (h : j < l.length) : (l.take (j + 1)).foldl addK out = addK ((l.take j).foldl addK out) (l.getD j (ByteArray.empty,ByteArray.empty)):=by
  rw [← yQ (ByteArray.empty,ByteArray.empty) h,List.foldl_append];rfl
theorem rowsX_snoc {keys : List ByteArray} {ss : List Stz} {i : Nat} (h : i < ss.length) : rowsX keys (ss.take (i + 1)) = rowsX keys (ss.take i) ++ [rowX keys (ss.getD i ((0 : Int),([] : List Fld)))]:=by
  unfold rowsX;rw [← yQ ((0 : Int),([] : List Fld)) h,List.map_append];rfl
theorem rowsX_good {keys : List ByteArray} (h : 0 < keys.length) (ss : List Stz) : xB (rowsX keys ss) = true:=by
  unfold xB;refine List.all_eq_true.2 fun r hr=>?_
  have hl : r.length = keys.length:=by
    rcases List.mem_cons.1 hr with rfl|hr
    · rfl
    · obtain ⟨x,_,rfl⟩:=List.mem_map.1 hr;exact List.length_map _
  cases r with
  | nil=>simp at hl;omega
  | cons=>rfl
theorem mR_le {r : List ByteArray} {n : Nat} (h : ∀ s ∈ r,s.size ≤ n) : mR r ≤ r.length * (n + 1):=by
  induction r with
  | nil=>simp [mR]
  | cons s r ih =>
    have h1:=ih fun t ht=>h t (List.mem_cons_of_mem _ ht)
    have h2:=h s (List.mem_cons_self ..);have e : mR (s :: r) = s.size + 1 + mR r:=by simp [mR]
    rw [e,List.length_cons,Nat.add_mul,Nat.one_mul];omega
theorem mT_le {t : List (List ByteArray)} {n : Nat} (h : ∀ r ∈ t,mR r ≤ n) : mT t ≤ t.length * n:=by
  induction t with
  | nil=>simp [mT]
  | cons r t ih =>
    have h1:=ih fun u hu=>h u (List.mem_cons_of_mem _ hu)
    have h2:=h r (List.mem_cons_self ..);have e : mT (r :: t) = mR r + mT t:=by simp [mT]
    rw [e,List.length_cons,Nat.add_mul,Nat.one_mul];omega
theorem rowsX_m {keys : List ByteArray} {ss : List Stz} (hk : keysOk keys = true) (hl : keys.length ≤ 12) (hs : ∀ x ∈ ss,∀ f ∈ x.2,f.2.size ≤ 1000) (hn : ss.length ≤ 400) : mT (rowsX keys ss) ≤ 100000000:=by
  have hks : ∀ k ∈ keys,k.size ≤ 1000:=fun k hkm=>Nat.le_trans (keyOk_size (List.all_eq_true.1 hk k hkm)) (by decide)
  have h1 : ∀ r ∈ rowsX keys ss,mR r ≤ 12 * 1001:=fun r hr=>by
    rcases List.mem_cons.1 hr with rfl|hr
    · exact Nat.le_trans (mR_le hks) (Nat.mul_le_mul_right _ hl)
    · obtain ⟨x,hx,rfl⟩:=List.mem_map.1 hr;refine Nat.le_trans (mR_le (n:=1000) fun s hs'=>?_) (Nat.mul_le_mul_right _ (by unfold rowX;rw [List.length_map];exact hl));obtain ⟨k,_,rfl⟩:=List.mem_map.1 hs';exact fstV_size (hs x hx)
  have h2:=mT_le h1;have h3 : (rowsX keys ss).length ≤ 401:=by unfold rowsX;rw [List.length_cons,List.length_map];omega
  have h4 : (rowsX keys ss).length * (12 * 1001) ≤ 401 * (12 * 1001):=Nat.mul_le_mul_right _ h3;omega
theorem index_FS (f : FuncId) {β : Type} (S : Rd β) (y : β) (l : List (Fld)) (p : Fld → Bool) (hp : ∀ x ∈ l,qR Tryz.prog f [.agg (toL rFld x),.one (.addr S y)] (ib (p x))) : qR Tryz.prog 62 [.one (.sl rFld l),.one (.clo f (.addr S y))] (ii .i64 (ixOf p l)):=by
  refine qP (rs:=[4]) Tryz.func62 rfl rfl rfl teOk rfl ?_;refine qC ?_;refine qB ?_;refine qC ?_;refine qC ?_;refine qB ?_;intro l1_1
  try simp only [zds] at l1_1
  refine qN ?_;refine qU (fun (i : Nat)=>i ≤ l.length ∧ (l.take i).any p = false) (fun (i : Nat)=>[(0,.one (.sl rFld l)),(1,.one (.clo f (.addr S y))),(7,ii .i64 l.length),(8,ii .i64 i)]) (fun (i : Nat)=>[]) 0 (fun (i : Nat)=>l.length - i) 0 (⟨Nat.zero_le _,rfl⟩) (qQ ⟨rfl,rfl,rfl,rfl⟩ trivial rfl) ?_;intro i hI0;obtain ⟨hi,hn⟩:=hI0;refine qC ?_;refine qB ?_;refine qC ?_;refine qK rfl (fun h9=>?_) (fun h9=>?_)
  ·try simp only [decide_eq_true_eq] at h9
   try simp only [zds] at h9
   refine qM ?_;refine qC ?_;refine qN ?_;refine qC ?_;refine qB ?_;refine qC ?_;refine qB ?_;refine zai (by first|omega|assumption|decide|(simp only [zds];omega)|(simp <;> omega)) ?_;refine Or.inl ?_;refine zai (rfl) ?_;refine zei _ (zai (hp _ (yW (show i < l.length by omega) _)) ?_);refine qK rfl (fun h16=>?_) (fun h16=>?_)
   ·try simp only [zbq] at h16
    try simp only [Int.toNat_natCast,qH,qE] at h16
    refine qC ?_;refine qB ?_;refine qL ?_;exact yP (ixOf_at (rFld).dflt (by omega) hn h16).symm
   ·try simp only [zbq] at h16
    try simp only [Int.toNat_natCast,qH,qE] at h16
    refine qM ?_;refine qB ?_;refine zai (by first|omega|assumption|decide|(simp only [zds];omega)|(simp <;> omega)) ?_;exact ⟨i + 1,⟨by omega,by rw [take_any l p (rFld).dflt i (by omega),hn];exact h16⟩,by first|omega|(simp <;> omega),qQ ⟨rfl,rfl,rfl,rfl⟩ trivial rfl⟩
  ·try simp only [decide_eq_false_iff_not,Int.not_lt] at h9
   try simp only [zds] at h9
   refine qY ?_;refine qC ?_;refine qB ?_;refine qL ?_;have e : i = l.length:=by omega
   subst e;rw [List.take_length] at hn;exact yP (ixOf_none hn).symm
theorem first1_c (k : ByteArray) (f : Fld) : qR Tryz.prog 63 [.agg (toL rFld f),.one (.addr .str k)] (ib (keyIs k f)):=by
  refine qP (rs:=[3]) Tryz.func63 rfl rfl rfl teOk rfl ?_;refine qC ?_;refine qB ?_;refine qC ?_;refine qB ?_;refine qL ?_;rfl
theorem first_c (k : ByteArray) (l : List Fld) : qR Tryz.prog 33 [is k,.one (.sl rFld l)] (is (fstV k l)):=by
  refine qP (rs:=[4]) Tryz.func33 rfl rfl rfl teOk rfl ?_;refine qC ?_;refine qB ?_;refine qC ?_;refine acode_frz [0] ?_;refine qB ?_;refine Or.inl ?_;refine zai (rfl) ?_;refine zei _ (zai (index_FS _ .str k l (keyIs k) (fun x _=>first1_c k x)) ?_);refine qC ?_;refine qC ?_;rcases ixOf_cases (keyIs k) l (ByteArray.empty,ByteArray.empty) with ⟨h1,h2⟩|⟨i,h1,h2,h3,h4⟩
  ·refine qB ?_;refine qK rfl (fun h10=>?_) (fun h10=>?_)
   ·try simp only [decide_eq_true_eq] at h10
    try simp only [zds] at h10
    refine qC ?_;refine qB ?_;refine qL ?_;exact is_eq (fstV_none h2).symm
   ·try simp only [decide_eq_false_iff_not,Int.not_lt] at h10
    try simp only [zds] at h10
    omega
  ·refine qB ?_;refine qK rfl (fun h10=>?_) (fun h10=>?_)
   ·try simp only [decide_eq_true_eq] at h10
    try simp only [zds] at h10
    omega
   ·try simp only [decide_eq_false_iff_not,Int.not_lt] at h10
    try simp only [zds] at h10
    have hi : Int.toNat (ixOf (keyIs k) l) = i:=by omega
    refine qM ?_;refine qC ?_;refine qB ?_;refine zai (by omega) ?_;refine qL ?_;exact is_eq (by rw [fstV_at (ByteArray.empty,ByteArray.empty) h1 h3 h4,hi];exact rfl)
theorem expv_c {κ : Nat} (k : ByteArray) (x : Stz) : qR Tryz.prog 32 [is k,.one (.adk κ rStz x)] (is (fstV k x.2)):=by
  refine qP (rs:=[3]) Tryz.func32 rfl rfl rfl teOk rfl ?_;refine qC ?_;refine qB ?_;refine qC ?_;refine qB ?_;refine Or.inl ?_;refine zai (rfl) ?_;refine zei _ (zai (first_c k x.2) ?_);refine qL ?_;rfl
theorem exp_ok {k : Nat} (es : List Ent) (n m : Int) (keys : List ByteArray) (h0 : 0 < keys.length) (hk : keysOk keys = true) (hl : es.length ≤ 1000000) (hf : ∀ e ∈ es,e.1.2.2.length ≤ 1000000) (h12 : keys.length ≤ 12) (hs : ∀ x ∈ stzL es,∀ f ∈ x.2,f.2.size ≤ 1000) (hn : (stzL es).length ≤ 400) : qR Tryz.prog 9 [.one (.adk k (rLst k) (es,n,m)),.one (.sl .str keys)] (.tup [(false,[.lit (.string (bytes (yK (lst (rowsX keys (stzL es))))))]),(false,[.lit .nilIface])]):=by
  have hw:=write_yes (rowsX keys (stzL es)) (rowsX_good h0 _) (rowsX_m hk h12 hs hn) (by unfold rowsX;rw [List.length_cons,List.length_map];omega);have hst:=stanzasL_c (k:=k) es n m hl hf;obtain ⟨ss,hss⟩ : ∃ ss,stzL es = ss:=⟨_,rfl⟩;rw [hss] at hw hn hst ⊢;refine qP (rs:=[4,5]) Tryz.func9 rfl rfl rfl teOk rfl ?_;refine qC ?_;refine qB ?_;refine qC ?_;refine qN ?_;refine qC ?_;refine qB ?_;refine qK rfl (fun h10=>?_) (fun h10=>?_)
  ·try simp only [zbq] at h10
   try simp only [zds] at h10
   simp at h10
  ·skip
   refine qC ?_;refine qB ?_;intro l3_1
   try simp only [zds] at l3_1
   refine qK rfl (fun h14=>?_) (fun h14=>?_)
   ·try simp only [decide_eq_true_eq] at h14
    try simp only [zds] at h14
    omega
   ·try simp only [decide_eq_false_iff_not] at h14
    try simp only [zds] at h14
    refine qM ?_;refine qC ?_;refine qC ?_;refine qB ?_;refine Or.inl ?_;refine zai (rfl) ?_;refine zei _ (zai (shgoodA_yes keys hk) ?_);refine qC ?_;refine qB ?_;refine qK rfl (fun h22=>?_) (fun h22=>?_)
    ·try simp only [Bool.not_eq_true'] at h22
     try simp only [zds] at h22
     simp at h22
    ·try simp only [Bool.not_eq_false'] at h22
     try simp only [zds] at h22
     refine qM ?_;refine qC ?_;refine qB ?_;refine qC ?_;refine qC ?_;refine qB ?_;refine Or.inl ?_;refine zai (rfl) ?_;refine zei _ (zai (hst) ?_);intro l9_2
     try simp only [zds] at l9_2
     refine qN ?_;refine qU (fun (i : Nat)=>i ≤ ss.length) (fun (i : Nat)=>[(1,.one (.sl .str keys)),(7,.one (.vec 0)),(27,.one (.sl rStz ss)),(28,ii .i64 ss.length),(29,ii .i64 i)]) (fun (i : Nat)=>[(0,.vec 22 (.sl .str) (rowsX keys (ss.take i)))]) 1 (fun (i : Nat)=>ss.length - i) 0 (Nat.zero_le _) (qQ ⟨rfl,rfl,rfl,rfl,rfl⟩ rfl rfl) ?_;intro i hI1;refine qC ?_;refine qB ?_;refine qC ?_;refine qK rfl (fun h30=>?_) (fun h30=>?_)
     ·try simp only [decide_eq_true_eq] at h30
      try simp only [zds] at h30
      have hil : i < ss.length:=(by omega);have hsn:=rowsX_snoc (keys:=keys) hil;have hrl : (rowsX keys (ss.take i)).length ≤ 401:=(by unfold rowsX;rw [List.length_cons,List.length_map,List.length_take];omega);refine qM ?_;refine qC ?_;refine qN ?_;refine qC ?_;refine qB ?_;refine zai (by first|omega|assumption|decide|(simp only [zds];omega)|(simp <;> omega)) ?_;refine qB ?_;refine Or.inl ?_;refine zai (rfl) ?_;refine zei _ (zai (each_c 32 rStz (ss.getD i ((0 : Int),([] : List Fld))) keys (by omega) (fun k=>fstV k (ss.getD i ((0 : Int),([] : List Fld))).2) (fun k _=>expv_c k _)) ?_);refine zai (by exact qS (show (rowsX keys (ss.take i)).length + 1 ≤ 1000000000 by omega) (by decide)) ?_;refine qB ?_;refine zai (by first|omega|assumption|decide|(simp only [zds];omega)|(simp <;> omega)) ?_;exact ⟨i + 1,by omega,by first|omega|(simp <;> omega),qQ ⟨rfl,rfl,rfl,rfl,(yP (by omega))⟩ (yF (by rw [hsn];try exact rfl)) rfl⟩
     ·try simp only [decide_eq_false_iff_not,Int.not_lt] at h30
      try simp only [zds] at h30
      refine qY ?_;rw [List.take_of_length_le (show ss.length ≤ i by omega)];refine qC ?_;refine qB ?_;refine Or.inl ?_;refine zai (rfl) ?_;refine zei _ (zai (hw) ?_);refine qL ?_;rfl
theorem index_SS {k : Nat} (l : List ByteArray) (v : ByteArray) : qR Tryz.prog 65 [.one (.slk k .str l),is v] (ii .i64 (ixOf (fun x=>decide (v = x)) l)):=by
  refine qP (rs:=[4]) Tryz.func65 rfl rfl rfl teOk rfl ?_;refine qC ?_;refine qB ?_;refine qC ?_;refine qC ?_;refine qB ?_;intro l1_1
  try simp only [zds] at l1_1
  refine qN ?_;refine qU (fun (i : Nat)=>i ≤ l.length ∧ (l.take i).any (fun x=>decide (v = x)) = false) (fun (i : Nat)=>[(0,.one (.slk k .str l)),(1,is v),(7,ii .i64 l.length),(8,ii .i64 i)]) (fun (i : Nat)=>[]) 0 (fun (i : Nat)=>l.length - i) 0 (⟨Nat.zero_le _,rfl⟩) (qQ ⟨rfl,rfl,rfl,rfl⟩ trivial rfl) ?_;intro i hI0;obtain ⟨hi,hn⟩:=hI0;refine qC ?_;refine qB ?_;refine qC ?_;refine qK rfl (fun h9=>?_) (fun h9=>?_)
  ·try simp only [decide_eq_true_eq] at h9
   try simp only [zds] at h9
   refine qM ?_;refine qC ?_;refine qN ?_;refine qC ?_;refine qB ?_;refine qC ?_;refine qB ?_;refine zai (by first|omega|assumption|decide|(simp only [zds];omega)|(simp <;> omega)) ?_;refine qK rfl (fun h16=>?_) (fun h16=>?_)
   ·try simp only [decide_eq_true_eq] at h16
    try simp only [Int.toNat_natCast,qE] at h16
    refine qC ?_;refine qB ?_;refine qL ?_;exact yP (ixOf_at Rd.str.dflt (by omega) hn (decide_eq_true h16)).symm
   ·try simp only [decide_eq_false_iff_not] at h16
    try simp only [Int.toNat_natCast,qE] at h16
    refine qM ?_;refine qB ?_;refine zai (by first|omega|assumption|decide|(simp only [zds];omega)|(simp <;> omega)) ?_;exact ⟨i + 1,⟨by omega,by rw [take_any l _ Rd.str.dflt i (by omega),hn];exact decide_eq_false h16⟩,by first|omega|(simp <;> omega),qQ ⟨rfl,rfl,rfl,rfl⟩ trivial rfl⟩
  ·try simp only [decide_eq_false_iff_not,Int.not_lt] at h9
   try simp only [zds] at h9
   refine qY ?_;refine qC ?_;refine qB ?_;refine qL ?_;have e : i = l.length:=by omega
   subst e;rw [List.take_length] at hn;exact yP (ixOf_none hn).symm
theorem contains_SS {k : Nat} (l : List ByteArray) (v : ByteArray) : qR Tryz.prog 37 [.one (.slk k .str l),is v] (ib (hasK v l)):=by
  refine qP (rs:=[4]) Tryz.func37 rfl rfl rfl teOk rfl ?_;refine qC ?_;refine qB ?_;refine qC ?_;refine qB ?_;refine Or.inl ?_;refine zai (rfl) ?_;refine zei _ (zai (index_SS l v) ?_);refine qL ?_;exact ib_eq (ixOf_ge _ l)
theorem keys_c {k : Nat} (es : List Ent) (n m : Int) (hl : es.length ≤ 1000000) (hf : ∀ e ∈ es,e.1.2.2.length ≤ 1000) (hn : (stzL es).length ≤ 400) (hx : ∀ x ∈ stzL es,x.2.length ≤ 1000) : qR Tryz.prog 14 [.one (.adk k (rLst k) (es,n,m))] (.one (.sl .str (keysX (stzL es)))):=by
  have hst:=stanzasL_c (k:=k) es n m hl (fun e he=>Nat.le_trans (hf e he) (by decide));obtain ⟨ss,hss⟩ : ∃ ss,stzL es = ss:=⟨_,rfl⟩;rw [hss] at hn hst hx ⊢;refine qP (rs:=[2]) Tryz.func14 rfl rfl rfl teOk rfl ?_;refine qC ?_;refine qB ?_;refine qC ?_;refine qB ?_;refine qC ?_;refine qC ?_;refine yL 3 9 .str rfl ?_;refine qB ?_;refine Or.inl ?_;refine zai (rfl) ?_;refine zei _ (zai (hst) ?_);intro l2_2
  try simp only [zds] at l2_2
  refine qN ?_;refine qU (fun (i : Nat)=>i ≤ ss.length) (fun (i : Nat)=>[(3,.one (.vec 0)),(9,.one (.sl rStz ss)),(10,ii .i64 ss.length),(11,ii .i64 i)]) (fun (i : Nat)=>[(0,.vec 9 .str (keysX (ss.take i)))]) 1 (fun (i : Nat)=>ss.length - i) 0 (Nat.zero_le _) (qQ ⟨rfl,rfl,rfl,rfl⟩ rfl rfl) ?_;intro i hI0;refine qC ?_;refine qB ?_;refine qC ?_;refine qK rfl (fun h12=>?_) (fun h12=>?_)
  ·try simp only [decide_eq_true_eq] at h12
   try simp only [zds] at h12
   have hil : i < ss.length:=(by omega);have hsn:=keysX_snoc hil;have hxl:=hx _ (yW hil ((0 : Int),([] : List Fld)));have hkl:=keysX_len 1000 (fun x hxm=>hx x (List.mem_of_mem_take (i:=i) hxm));rw [List.length_take] at hkl;have hkm : min i ss.length * 1000 ≤ 400000:=(by omega);refine qM ?_;refine qC ?_;refine qN ?_;refine qC ?_;refine qB ?_;refine zai (by first|omega|assumption|decide|(simp only [zds];omega)|(simp <;> omega)) ?_;refine qC ?_;refine qB ?_;intro l5_2
   try simp only [Int.toNat_natCast,qG,qH,qF] at l5_2
   refine qN ?_;refine qU (fun (j : Nat)=>j ≤ (ss.getD i ((0 : Int),([] : List Fld))).2.length) (fun (j : Nat)=>[(3,.one (.vec 0)),(9,.one (.sl rStz ss)),(10,ii .i64 ss.length),(11,ii .i64 i),(16,.one (.sl rFld (ss.getD i ((0 : Int),([] : List Fld))).2)),(17,ii .i64 (ss.getD i ((0 : Int),([] : List Fld))).2.length),(18,ii .i64 j)]) (fun (j : Nat)=>[(0,.vec 9 .str (((ss.getD i ((0 : Int),([] : List Fld))).2.take j).foldl addK (keysX (ss.take i))))]) 1 (fun (j : Nat)=>(ss.getD i ((0 : Int),([] : List Fld))).2.length - j) 0 (Nat.zero_le _) (qQ ⟨rfl,rfl,rfl,rfl,rfl,rfl,rfl⟩ rfl rfl) ?_;intro j hI2;refine qC ?_;refine qB ?_;refine qC ?_;refine qK rfl (fun h19=>?_) (fun h19=>?_)
   ·try simp only [decide_eq_true_eq] at h19
    try simp only [zds] at h19
    have hjl : j < (ss.getD i ((0 : Int),([] : List Fld))).2.length:=(by omega);have hsm:=addK_snoc (keysX (ss.take i)) hjl;have hal:=addKs_len ((ss.getD i ((0 : Int),([] : List Fld))).2.take j) (keysX (ss.take i));rw [List.length_take] at hal;refine qM ?_;refine qC ?_;refine qN ?_;refine qC ?_;refine qB ?_;refine zai (by first|omega|assumption|decide|(simp only [zds];omega)|(simp <;> omega)) ?_;refine qC ?_;refine qB ?_;refine Or.inr (Or.inr (Or.inl ?_));refine zai rfl ?_;refine zei _ (zai (contains_SS _ _) ?_);refine qK rfl (fun h26=>?_) (fun h26=>?_)
    ·try simp only [Bool.not_eq_true'] at h26
     try simp only [Int.toNat_natCast,qH,qE] at h26
     rw [addK_new h26] at hsm;refine qB ?_;refine zai (by show ((((ss.getD i ((0 : Int),([] : List Fld))).2.take j).foldl addK (keysX (ss.take i))).length + 1) * 16 ≤ 140737488355328;omega) ?_;refine qB ?_;refine zai (by first|omega|assumption|decide|(simp only [zds];omega)|(simp <;> omega)) ?_;exact ⟨j + 1,by omega,by first|omega|(simp <;> omega),qQ ⟨rfl,rfl,rfl,rfl,rfl,rfl,(yP (by omega))⟩ (yF (by rw [hsm];try exact rfl)) rfl⟩
    ·try simp only [Bool.not_eq_false'] at h26
     try simp only [Int.toNat_natCast,qH,qE] at h26
     rw [addK_old h26] at hsm;refine qM ?_;refine qB ?_;refine zai (by first|omega|assumption|decide|(simp only [zds];omega)|(simp <;> omega)) ?_;exact ⟨j + 1,by omega,by first|omega|(simp <;> omega),qQ ⟨rfl,rfl,rfl,rfl,rfl,rfl,(yP (by omega))⟩ (yF (by rw [hsm];try exact rfl)) rfl⟩
   ·try simp only [decide_eq_false_iff_not,Int.not_lt] at h19
    try simp only [zds] at h19
    refine qY ?_;rw [List.take_of_length_le (show (ss.getD i ((0 : Int),([] : List Fld))).2.length ≤ j by omega)];refine qB ?_;refine zai (by first|omega|assumption|decide|(simp only [zds];omega)|(simp <;> omega)) ?_;exact ⟨i + 1,by omega,by first|omega|(simp <;> omega),qQ ⟨rfl,rfl,rfl,(yP (by omega))⟩ (yF (by rw [hsn];try exact rfl)) rfl⟩
  ·try simp only [decide_eq_false_iff_not,Int.not_lt] at h12
   try simp only [zds] at h12
   refine qY ?_;refine qC ?_;refine qB ?_;refine qL ?_;rw [List.take_of_length_le (show ss.length ≤ i by omega)];exact rfl
end Q
end Ab
end Go.Proofs.YtehmiepjeffloaaGreatDoor
namespace Go.Proofs.YtehmiepjeffloaaGreatDoor
open Go.RowKit
namespace Ab
set_option maxRecDepth 100000
namespace Q
def itB (l : List (List Fld)) : List (List A):=(List.range l.length).map fun j=>[ii .i64 ((l.length - 1 - j : Nat) : Int),.one (.sl rFld (l.getD (l.length - 1 - j) ([] : List Fld)))]
end Q
end Ab
end Go.Proofs.YtehmiepjeffloaaGreatDoor
namespace Go.Proofs.YtehmiepjeffloaaGreatDoor
open Go.RowKit
namespace Ab
set_option maxRecDepth 100000
namespace Q
def impT (rows : List (List ByteArray)) : List (List Fld) × Int × Int :=
  if rows = [] then ([],-9,2)
  else if keysOk (rows.getD 0 []) = false then ([],-9,5)
  else if ((rows.drop 1).any fun r=>decide ((rows.getD 0 []).length < r.length)) = true then ([],ixOf (fun r=>decide ((rows.getD 0 []).length < r.length)) (rows.drop 1) + 1,2)
  else ((rows.drop 1).map (fldsS (rows.getD 0 [])),-9,0)
def impO (o : Option (List (List (List UInt8)))) : List (List Fld) × Int × Int:=match o with
  | none=>([],-9,2)
  | some rows=>impT (unt rows)
def impA (r : List (List Fld) × Int × Int) : A :=
  if r.2.2 = 0 then .tup [(false,[.sl (.sl rFld) r.1]),(false,[.lit .nilIface])]
  else if r.2.1 = -9 then .tup [(false,[.sl (.sl rFld) []]),(false,[errN r.2.2])]
  else .tup [(false,[.sl (.sl rFld) []]),(false,[errF r.2.1 r.2.2])]
theorem read_some {s : ByteArray} {rows : List (List (List UInt8))} (hs : s.size ≤ 60000) (h : shReadP (ls s) = some rows) : qR Tryz.prog 27 [is s] (.tup [(false,[.sl (.sl .str) (unt rows)]),(false,[.lit .nilIface])]):=by
  have:=Read_c s hs
  rwa [h] at this
theorem dbl_ge : ∀ s : List UInt8,s.length ≤ (dblL s).length
  | []=>Nat.le_refl _
  | c :: r=>by
    have:=dbl_ge r;unfold dblL;split <;> simp <;> omega
theorem cell_ge (s : List UInt8) (al : Bool) : s.length ≤ (xG s al).length:=by
  have:=dbl_ge s;unfold xG;split
  · simp [quoL];omega
  · exact Nat.le_refl _
theorem join_ge (al : Bool) : ∀ row : List (List UInt8),row ≠ [] → mL row ≤ (Lib.join (row.map fun s=>xG s al) [44]).length + 1
  | [],h=>absurd rfl h
  | [s],_=>by
    have:=cell_ge s al;simp [Lib.join,List.intercalate,mL];omega
  | s :: t :: l,_=>by
    have:=cell_ge s al;have ih:=join_ge al (t :: l) (by simp);have e : mL (s :: t :: l) = s.length + 1 + mL (t :: l):=by simp [mL]
    simp only [List.map_cons] at ih ⊢;rw [join_cons2,e,List.length_append,List.length_cons];omega
theorem mT_ge : ∀ rows : List (List (List UInt8)),xB rows = true → mT (unt rows) ≤ (yK rows).length ∧ rows.length ≤ (yK rows).length
  | [],_=>⟨Nat.le_refl _,Nat.le_refl _⟩
  | r :: rows,h=>by
    simp only [xB,List.all_cons,Bool.and_eq_true,Bool.not_eq_true',List.isEmpty_eq_false_iff] at h;have ih:=mT_ge rows (by simpa [xB] using h.2);have hj:=join_ge (decide (r.length = 1)) r h.1;have e : mT (unt (r :: rows)) = mL r + mT (unt rows):=by rw [← mR_uns];simp [mT]
    have e2 : yK (r :: rows) = shLine r ++ yK rows:=rfl;rw [e,e2,List.length_append,List.length_cons];unfold shLine;rw [List.length_append,List.length_singleton];omega
theorem readP_good {t : List UInt8} {rows : List (List (List UInt8))} (h : shReadP t = some rows) : xB rows = true ∧ yK rows = t:=by
  unfold shReadP at h;split at h
  · cases h
  · split at h
    · rename_i hc;cases h;exact hc
    · cases h
theorem readP_size {s : ByteArray} {rows : List (List (List UInt8))} (h : shReadP (ls s) = some rows) : mT (unt rows) ≤ s.size ∧ rows.length ≤ s.size:=by
  obtain ⟨h1,h2⟩:=readP_good h;have:=mT_ge rows h1;rw [h2] at this
  rwa [show s.size = (ls s).length from qV s]
end Q
end Ab
end Go.Proofs.YtehmiepjeffloaaGreatDoor
namespace Go.Proofs.YtehmiepjeffloaaGreatDoor
open Go.RowKit
namespace Ab
set_option maxRecDepth 100000
namespace Q
theorem imp_some (s : ByteArray) (hs : s.size ≤ 60000) (rows : List (List (List UInt8))) (hrd : shReadP (ls s) = some rows) : qR Tryz.prog 24 [is s] (impA (impT (unt rows))):=by
  obtain ⟨hsz1,hsz2⟩:=readP_size hrd;have hread:=read_some hs hrd;have hlen : (unt rows).length = rows.length:=List.length_map _
  generalize unt rows = R at hsz1 hread hlen
  have hks : ∀ k ∈ R.getD 0 [],k.size ≤ 1000000000:=fun k hk=>by
    have h1:=mR_mem hk
    by_cases h0 : 0 < R.length
    · have h2:=mT_mem (yW h0 ([] : List ByteArray));omega
    · rw [show R = [] from List.length_eq_zero_iff.1 (by omega)] at hk;simp at hk
  refine qP (rs:=[2,3]) Tryz.func24 rfl rfl rfl teOk rfl ?_;refine qC ?_;refine qB ?_;refine qC ?_;refine qB ?_;refine Or.inl ?_;refine zai (rfl) ?_;refine zei _ (zai (hread) ?_);refine qC ?_;refine qN ?_;refine qC ?_;refine qB ?_;refine qK rfl (fun h16=>?_) (fun h16=>?_)
  ·try simp only [Bool.not_eq_true'] at h16
   try simp only [zds] at h16
   cases h16
  ·try simp only [Bool.not_eq_false'] at h16
   try simp only [zds] at h16
   refine qC ?_;refine qB ?_;intro l4_1
   try simp only [zds] at l4_1
   refine qK rfl (fun h20=>?_) (fun h20=>?_)
   ·try simp only [decide_eq_true_eq] at h20
    try simp only [zds] at h20
    refine qC ?_;refine qB ?_;refine yL 2 53 (.sl rFld) rfl ?_;refine qL ?_;have e : impT R = ([],-9,2):=by (unfold impT;rw [if_pos (List.length_eq_zero_iff.1 (by omega))])
    rw [e];rfl
   ·try simp only [decide_eq_false_iff_not] at h20
    try simp only [zds] at h20
    have h0 : 0 < R.length:=by omega
    have hne : ¬ R = []:=fun e=>by rw [e] at h0;cases h0
    have hkl : (R.getD 0 []).length ≤ 60000:=by have h1:=mR_len (R.getD 0 []);have h2:=mT_mem (yW h0 ([] : List ByteArray));omega
    refine qM ?_;refine qC ?_;refine qB ?_;refine zai (by first|omega|assumption|decide|(simp only [zds];omega)|(simp <;> omega)) ?_;refine qC ?_;refine qC ?_;cases hko : keysOk (R.getD 0 [])
    ·refine qB ?_;refine Or.inl ?_;refine zai (rfl) ?_;refine zei _ (zai (shgood_not _ hks hko) ?_);refine qC ?_;refine qB ?_;refine qK rfl (fun h31=>?_) (fun h31=>?_)
     ·skip
      refine qC ?_;refine qB ?_;refine yL 2 53 (.sl rFld) rfl ?_;refine qL ?_;have e : impT R = ([],-9,5):=by (unfold impT;rw [if_neg hne,if_pos hko])
      rw [e];rfl
     ·try simp only [zbq] at h31
      try simp only [zds] at h31
      cases h31
    ·refine qB ?_;refine Or.inl ?_;refine zai (rfl) ?_;refine zei _ (zai (shgood_yes _ hks hko) ?_);refine qC ?_;refine qB ?_;refine qK rfl (fun h31=>?_) (fun h31=>?_)
     ·try simp only [Bool.not_eq_true'] at h31
      try simp only [zds] at h31
      cases h31
     ·try simp only [Bool.not_eq_false'] at h31
      try simp only [zds] at h31
      refine qM ?_;refine qC ?_;refine qB ?_;refine yL 8 53 (.sl rFld) rfl ?_;refine qC ?_;refine qC ?_;refine qB ?_;refine zai (by first|omega|assumption|decide|(simp only [zds];omega)|(simp <;> omega)) ?_;intro l11_2
      try simp only [zds] at l11_2
      refine qN ?_;refine qU (fun (i : Nat)=>i ≤ (R.drop 1).length ∧ ((R.drop 1).take i).any (fun r=>decide ((R.getD 0 []).length < r.length)) = false) (fun (i : Nat)=>[(6,.one (.sl .str (R.getD 0 []))),(8,.one (.vec 0)),(34,.one (.sl (.sl .str) (R.drop 1))),(35,ii .i64 (R.drop 1).length),(36,ii .i64 i)]) (fun (i : Nat)=>[(0,.vec 53 (.sl rFld) (((R.drop 1).take i).map (fldsS (R.getD 0 []))))]) 1 (fun (i : Nat)=>(R.drop 1).length - i) 0 (⟨Nat.zero_le _,rfl⟩) (qQ ⟨rfl,rfl,rfl,rfl,rfl⟩ rfl rfl) ?_;intro i hI1;obtain ⟨hi,hn⟩:=hI1;have hdl : (R.drop 1).length ≤ 60000:=by rw [List.length_drop];omega
      refine qC ?_;refine qB ?_;refine qC ?_;refine qK rfl (fun h37=>?_) (fun h37=>?_)
      ·try simp only [decide_eq_true_eq] at h37
       try simp only [zds] at h37
       have hil : i < (R.drop 1).length:=by omega
       refine qM ?_;refine qC ?_;refine qN ?_;refine qC ?_;refine qB ?_;refine zai (by first|omega|assumption|decide|(simp only [zds];omega)|(simp <;> omega)) ?_;refine qC ?_;refine qC ?_;refine qB ?_;intro l14_1
       try simp only [Int.toNat_natCast,qG] at l14_1
       intro l14_3
       try simp only [zds] at l14_3
       refine qK rfl (fun h45=>?_) (fun h45=>?_)
       ·try simp only [decide_eq_true_eq] at h45
        try simp only [Int.toNat_natCast,qG] at h45
        refine qC ?_;refine qB ?_;refine zai (by first|omega|assumption|decide|(simp only [zds];omega)|(simp <;> omega)) ?_;refine yL 2 53 (.sl rFld) rfl ?_;refine qL ?_;have e : impT R = ([],(i : Int) + 1,2):=by (unfold impT;rw [if_neg hne,if_neg (by rw [hko];decide),if_pos (any_at (p:=fun r=>decide ((R.getD 0 []).length < r.length)) [] hil (decide_eq_true (by omega))),ixOf_at [] hil hn (decide_eq_true (by omega))])
        rw [e];unfold impA;rw [if_neg (by show ¬ ((2 : Int) = 0);decide),if_neg (by show ¬ ((i : Int) + 1 = -9);omega)];rfl
       ·try simp only [decide_eq_false_iff_not,Int.not_lt] at h45
        try simp only [Int.toNat_natCast,qG] at h45
        refine qM ?_;refine qB ?_;refine Or.inl ?_;refine zai (rfl) ?_;refine zei _ (zai (fieldsS_c _ _ (by show ((R.drop 1).getD i []).length ≤ _;omega) (by show ((R.drop 1).getD i []).length ≤ _;omega)) ?_);refine zai (by first|exact qS (by first|omega|(simp only [List.length_cons,List.length_nil,List.length_map,List.length_take,List.length_drop];omega)|(simp;omega)) (by decide)|omega|assumption|decide|(simp only [zds];omega)|(simp <;> omega)) ?_;refine qB ?_;refine zai (by first|omega|assumption|decide|(simp only [zds];omega)|(simp <;> omega)) ?_;exact ⟨i + 1,⟨by omega,by rw [take_any _ _ [] i hil,hn,decide_eq_false (by omega)];rfl⟩,by first|omega|(simp <;> omega),qQ ⟨rfl,rfl,rfl,rfl,(yP (by omega))⟩ (yF (map_take_succ (fldsS (R.getD 0 [])) (R.drop 1) [] i hil).symm) rfl⟩
      ·try simp only [decide_eq_false_iff_not,Int.not_lt] at h37
       try simp only [zds] at h37
       refine qY ?_;refine qC ?_;refine qB ?_;refine qL ?_;rw [List.take_of_length_le (by omega)] at hn;have e : impT R = ((R.drop 1).map (fldsS (R.getD 0 [])),-9,0):=by (unfold impT;rw [if_neg hne,if_neg (by rw [hko];decide),if_neg (by rw [hn];decide)])
       rw [e,List.take_of_length_le (by omega)];rfl
end Q
end Ab
end Go.Proofs.YtehmiepjeffloaaGreatDoor
namespace Go.Proofs.YtehmiepjeffloaaGreatDoor
open Go.RowKit
namespace Ab
set_option maxRecDepth 100000
namespace Q
def refImpA (r : List (List Fld) × Int × Int) : A:=.tup [(false,[.sl (.sl rFld) r.1]),(false,[.lit (.int .i64 r.2.1)]),(false,[.lit (.int .i64 r.2.2)])]
end Q
end Ab
end Go.Proofs.YtehmiepjeffloaaGreatDoor
namespace Go.Proofs.YtehmiepjeffloaaGreatDoor
open Go.RowKit
namespace Ab
set_option maxRecDepth 100000
namespace Q
theorem fieldsEq_c (a b : List Fld) : qR Tryz.prog 23 [.one (.sl rFld a),.one (.sl rFld b)] (ib (decide (a = b))):=by
  refine qP (rs:=[4]) Tryz.func23 rfl rfl rfl teOk rfl ?_;refine qC ?_;refine qB ?_;refine qC ?_;refine qC ?_;refine qB ?_;intro l1_1
  try simp only [zds] at l1_1
  intro l1_3
  try simp only [zds] at l1_3
  refine qK rfl (fun h10=>?_) (fun h10=>?_)
  ·try simp only [decide_eq_false_iff_not,Bool.not_eq_true'] at h10
   try simp only [zds] at h10
   refine qC ?_;refine qB ?_;refine qL ?_;exact ib_eq (decide_eq_false (fun e=>by rw [e] at h10;omega)).symm
  ·try simp only [decide_eq_true_eq,Bool.not_eq_false'] at h10
   try simp only [zds] at h10
   refine qM ?_;refine qC ?_;refine qC ?_;refine qB ?_;intro l3_1
   try simp only [zds] at l3_1
   refine qN ?_;refine qU (fun (i : Nat)=>i ≤ a.length ∧ a.take i = b.take i) (fun (i : Nat)=>[(0,.one (.sl rFld a)),(1,.one (.sl rFld b)),(12,ii .i64 a.length),(13,ii .i64 i)]) (fun (i : Nat)=>[]) 0 (fun (i : Nat)=>a.length - i) 0 (⟨Nat.zero_le _,by simp⟩) (qQ ⟨rfl,rfl,rfl,rfl⟩ trivial rfl) ?_;intro i hI0;obtain ⟨hi,ht⟩:=hI0;refine qC ?_;refine qB ?_;refine qC ?_;refine qK rfl (fun h14=>?_) (fun h14=>?_)
   ·try simp only [decide_eq_true_eq] at h14
    try simp only [zds] at h14
    have hla : i < a.length:=by omega
    have hlb : i < b.length:=by omega
    refine qM ?_;refine qC ?_;refine qN ?_;refine qC ?_;refine qB ?_;refine qC ?_;refine acode_draw rfl (by kernel_rfl) ?_;refine zai (by first|omega|assumption|decide|(simp only [zds];omega)|(simp <;> omega)) ?_;refine zai (by first|omega|assumption|decide|(simp only [zds];omega)|(simp <;> omega)) ?_;refine zai (by rfl) ?_;refine qK rfl (fun h24=>?_) (fun h24=>?_)
    ·try simp only [decide_eq_false_iff_not,Bool.not_eq_true',Bool.and_eq_false_iff] at h24
     try simp only [Int.toNat_natCast,qH,qE] at h24
     refine qC ?_;refine qB ?_;refine qL ?_;exact ib_eq (decide_eq_false (ne_at (i:=i) (ByteArray.empty,ByteArray.empty) (fun e=>h24.elim (fun h=>h (congrArg Prod.fst e)) (fun h=>h (congrArg Prod.snd e))))).symm
    ·try simp only [decide_eq_true_eq,Bool.and_eq_true,Bool.not_eq_false'] at h24
     try simp only [Int.toNat_natCast,qH,qE] at h24
     refine qM ?_;refine qB ?_;refine zai (by first|omega|assumption|decide|(simp only [zds];omega)|(simp <;> omega)) ?_;exact ⟨i + 1,⟨by omega,list_ext_take (ByteArray.empty,ByteArray.empty) hla hlb ht (Prod.ext h24.1 h24.2)⟩,by first|omega|(simp <;> omega),qQ ⟨rfl,rfl,rfl,(yP (by omega))⟩ trivial rfl⟩
   ·try simp only [decide_eq_false_iff_not,Int.not_lt] at h14
    try simp only [zds] at h14
    refine qY ?_;refine qC ?_;refine qB ?_;refine qL ?_;exact ib_eq (decide_eq_true (by rw [List.take_of_length_le (by omega),List.take_of_length_le (by omega)] at ht;exact ht)).symm
theorem stanzasEq_c (a b : List (List Fld)) : qR Tryz.prog 25 [.one (.sl (.sl rFld) a),.one (.sl (.sl rFld) b)] (ib (decide (a = b))):=by
  refine qP (rs:=[4]) Tryz.func25 rfl rfl rfl teOk rfl ?_;refine qC ?_;refine qB ?_;refine qC ?_;refine qC ?_;refine qB ?_;intro l1_1
  try simp only [zds] at l1_1
  intro l1_3
  try simp only [zds] at l1_3
  refine qK rfl (fun h10=>?_) (fun h10=>?_)
  ·try simp only [decide_eq_false_iff_not,Bool.not_eq_true'] at h10
   try simp only [zds] at h10
   refine qC ?_;refine qB ?_;refine qL ?_;exact ib_eq (decide_eq_false (fun e=>by rw [e] at h10;omega)).symm
  ·try simp only [decide_eq_true_eq,Bool.not_eq_false'] at h10
   try simp only [zds] at h10
   refine qM ?_;refine qC ?_;refine qC ?_;refine qB ?_;intro l3_1
   try simp only [zds] at l3_1
   refine qN ?_;refine qU (fun (i : Nat)=>i ≤ a.length ∧ a.take i = b.take i) (fun (i : Nat)=>[(0,.one (.sl (.sl rFld) a)),(1,.one (.sl (.sl rFld) b)),(12,ii .i64 a.length),(13,ii .i64 i)]) (fun (i : Nat)=>[]) 0 (fun (i : Nat)=>a.length - i) 0 (⟨Nat.zero_le _,by simp⟩) (qQ ⟨rfl,rfl,rfl,rfl⟩ trivial rfl) ?_;intro i hI0;obtain ⟨hi,ht⟩:=hI0;refine qC ?_;refine qB ?_;refine qC ?_;refine qK rfl (fun h14=>?_) (fun h14=>?_)
   ·try simp only [decide_eq_true_eq] at h14
    try simp only [zds] at h14
    have hla : i < a.length:=by omega
    have hlb : i < b.length:=by omega
    refine qM ?_;refine qC ?_;refine qN ?_;refine qC ?_;refine qB ?_;refine qC ?_;refine acode_draw rfl (by kernel_rfl) ?_;refine zai (by first|omega|assumption|decide|(simp only [zds];omega)|(simp <;> omega)) ?_;refine zai (by first|omega|assumption|decide|(simp only [zds];omega)|(simp <;> omega)) ?_;refine zai (rfl) ?_;refine zei _ (zai (fieldsEq_c _ _) ?_);refine qK rfl (fun h25=>?_) (fun h25=>?_)
    ·try simp only [decide_eq_false_iff_not,Bool.not_eq_true'] at h25
     try simp only [Int.toNat_natCast,qG] at h25
     refine qC ?_;refine qB ?_;refine qL ?_;exact ib_eq (decide_eq_false (ne_at (i:=i) [] h25)).symm
    ·try simp only [decide_eq_true_eq,Bool.not_eq_false'] at h25
     try simp only [Int.toNat_natCast,qG] at h25
     refine qM ?_;refine qB ?_;refine zai (by first|omega|assumption|decide|(simp only [zds];omega)|(simp <;> omega)) ?_;exact ⟨i + 1,⟨by omega,list_ext_take [] hla hlb ht h25⟩,by first|omega|(simp <;> omega),qQ ⟨rfl,rfl,rfl,(yP (by omega))⟩ trivial rfl⟩
   ·try simp only [decide_eq_false_iff_not,Int.not_lt] at h14
    try simp only [zds] at h14
    refine qY ?_;refine qC ?_;refine qB ?_;refine qL ?_;exact ib_eq (decide_eq_true (by rw [List.take_of_length_le (by omega),List.take_of_length_le (by omega)] at ht;exact ht)).symm
end Q
end Ab
end Go.Proofs.YtehmiepjeffloaaGreatDoor
namespace Go.Proofs.YtehmiepjeffloaaGreatDoor
open Go.RowKit
namespace Ab
set_option maxRecDepth 100000
namespace Q
def full1 (f : List Fld) : Bool:=decide (0 < f.length)
def edB (b : Int) (l : List (List Fld)) : List Edt:=((l.filter full1).reverse).map fun f=>(3,b,f)
end Q
end Ab
end Go.Proofs.YtehmiepjeffloaaGreatDoor
namespace Go.Proofs.YtehmiepjeffloaaGreatDoor
open Go.RowKit
namespace Ab
set_option maxRecDepth 100000
namespace Q
end Q
end Ab
end Go.Proofs.YtehmiepjeffloaaGreatDoor
namespace Go.Proofs.YtehmiepjeffloaaGreatDoor
open Go.RowKit
namespace Ab
set_option maxRecDepth 100000
namespace Q
theorem aText : bytes (yK (lst ([[⟨#[97]⟩,⟨#[98,34,99]⟩]] : List (List ByteArray)))) = ⟨#[97,44,34,98,34,34,99,34,10]⟩:=by decide +kernel
theorem read_of (rows : List (List ByteArray)) (hg : xB rows = true) (s : ByteArray) (hs : s = bytes (yK (lst rows))) (hz : s.size ≤ 60000) : qR Tryz.prog 27 [is s] (.tup [(false,[.sl (.sl .str) rows]),(false,[.lit .nilIface])]):=by
  have h1 : xB (lst rows) = true:=by
    rw [← hg];simp only [xB,lst,List.all_map];congr 1;funext r;simp [lss]
  have h2:=Read_c s hz;rw [hs,show ls (bytes (yK (lst rows))) = yK (lst rows) from qT _,shread_write h1] at h2;have h3 : unt (lst rows) = rows:=by
    simp only [unt,lst,List.map_map]
    conv=>rhs;rw [← List.map_id rows]
    refine List.map_congr_left fun x _=>?_
    simp only [Function.comp,uns,lss,List.map_map]
    conv=>rhs;rw [id,← List.map_id x]
    exact List.map_congr_left fun y _=>xK y
  rw [hs];have h4 : shReadA (some (lst rows)) = .tup [(false,[.sl (.sl .str) rows]),(false,[.lit .nilIface])]:=by show A.tup [(false,[.sl (.sl .str) (unt (lst rows))]),(false,[.lit .nilIface])] = _;rw [h3]
  rw [← h4];exact h2
theorem alive28_c : qR Tryz.prog 6 [] (ib true):=by
  have hw:=write_yes [[⟨#[97]⟩,⟨#[98,34,99]⟩]] (by decide) (by decide) (by decide);rw [aText] at hw;have hr:=read_of [[⟨#[97]⟩,⟨#[98,34,99]⟩]] (by decide) ⟨#[97,44,34,98,34,34,99,34,10]⟩ aText.symm (by decide);refine qP (rs:=[0]) Tryz.func6 rfl rfl rfl teOk rfl ?_;refine qC ?_;refine qB ?_;refine qC ?_;refine qB ?_;refine Or.inl ?_;refine zai (rfl) ?_;refine zei _ (zai (hw) ?_);refine qC ?_;refine qB ?_;refine Or.inl ?_;refine zai (rfl) ?_;refine zei _ (zai (hr) ?_);refine qC ?_;refine qB ?_;refine zai (fun h=>trivial) ?_;refine zai (fun h=>⟨⟨h,trivial⟩,trivial⟩) ?_;refine zai (by exact fun h=>h) ?_;refine zai (fun h=>trivial) ?_;refine zai (fun h=>⟨⟨h,trivial⟩,trivial⟩) ?_;refine zai (by exact fun h=>h) ?_;refine zai (fun h=>trivial) ?_;refine zai (fun h=>⟨⟨h,trivial⟩,trivial⟩) ?_;refine zai (fun h=>⟨⟨h,trivial⟩,trivial⟩) ?_;refine zai (by exact fun h=>h) ?_;refine zai (fun h=>trivial) ?_;refine zai (fun h=>⟨⟨⟨h,trivial⟩,trivial⟩,by first|omega|decide|(simp only [zds];omega)|(have h9:=of_decide_eq_true h;omega)|(simp [gq] at h;omega)⟩) ?_;refine zai (fun h=>⟨⟨h,trivial⟩,trivial⟩) ?_;refine zai (fun h=>⟨⟨h,trivial⟩,trivial⟩) ?_;refine zai (fun h=>⟨⟨h,trivial⟩,trivial⟩) ?_;refine zai (by exact fun h=>h) ?_;refine zai (fun h=>trivial) ?_;refine zai (fun h=>⟨⟨⟨h,trivial⟩,trivial⟩,by first|omega|decide|(simp only [zds];omega)|(have h9:=of_decide_eq_true h;omega)|(simp [gq] at h;omega)⟩) ?_;refine zai (fun h=>⟨⟨h,trivial⟩,trivial⟩) ?_;refine zai (fun h=>⟨⟨⟨h,trivial⟩,trivial⟩,by first|omega|decide|(simp only [zds];omega)|(have h9:=of_decide_eq_true h;omega)|(simp [gq] at h;omega)⟩) ?_;refine zai (fun h=>⟨⟨h,trivial⟩,trivial⟩) ?_;refine zai (fun h=>⟨⟨h,trivial⟩,trivial⟩) ?_;refine zai (by exact fun h=>h) ?_;refine qL ?_;exact ib_eq (by decide)
def minR (r : List ByteArray) : Nat:=(r.map fun c=>min c.size 9999).sum
def minT (t : List (List ByteArray)) : Nat:=(t.map minR).sum
end Q
end Ab
end Go.Proofs.YtehmiepjeffloaaGreatDoor
namespace Go.Proofs.YtehmiepjeffloaaGreatDoor
open Go.RowKit
namespace Ab
set_option maxRecDepth 100000
namespace Q
def zF : List Fld:=[(⟨#[90]⟩,⟨#[48]⟩)]
def z0 : Ent:=((3,⟨#[90,58,32,48,10]⟩,zF),1)
def zI (x : List Edt) (q : Nat) : Ent:=(itmOf (x.getD q ((0 : Int),(0 : Int),([] : List Fld))).2.2,2 + (q : Int))
def zE (x : List Edt) (j : Nat) : List Ent:=z0 :: ((List.range j).map (zI x)).reverse
def zL (x : List Edt) (j : Nat) : Lst:=(zE x j,2 + (j : Int),1 + (j : Int))
end Q
end Ab
end Go.Proofs.YtehmiepjeffloaaGreatDoor
namespace Go.Proofs.YtehmiepjeffloaaGreatDoor
open Go.RowKit
namespace Ab
set_option maxRecDepth 100000
namespace Q
def cellB (v : List ByteArray) (i : Nat) : ByteArray:=if i < v.length ∧ ¬ v.getD i ByteArray.empty = ⟨#[]⟩ then v.getD i ByteArray.empty else ⟨#[120]⟩
def fldB (keys v : List ByteArray) (j : Nat) : List Fld:=(List.range j).map fun i=>(keys.getD i ByteArray.empty,cellB v i)
theorem fldB_snoc (keys v : List ByteArray) (j : Nat) : fldB keys v (j + 1) = fldB keys v j ++ [(keys.getD j ByteArray.empty,cellB v j)]:=by
  unfold fldB;rw [List.range_succ,List.map_append];rfl
theorem fldB_len (keys v : List ByteArray) (j : Nat) : (fldB keys v j).length = j:=by
  unfold fldB;rw [List.length_map,List.length_range]
theorem fldB_keys (keys v : List ByteArray) : (fldB keys v keys.length).map (·.1) = keys:=by
  apply List.ext_getElem
  · rw [List.length_map,fldB_len]
  · intro i h1 h2;simp only [fldB,List.getElem_map,List.getElem_range];exact (getD_get h2 ByteArray.empty).symm
theorem cellB_ne (v : List ByteArray) (i : Nat) : ¬ cellB v i = ⟨#[]⟩:=by
  unfold cellB;split
  · rename_i h;exact h.2
  · intro h;have:=congrArg (fun b : ByteArray=>b.data.size) h;simp at this
def wantB (keys : List ByteArray) (vs : List (List ByteArray)) : List (List Fld):=vs.map fun v=>fldB keys v keys.length
theorem wantB_keys {keys : List ByteArray} {vs : List (List ByteArray)} {f : List Fld} (h : f ∈ wantB keys vs) : f.map (·.1) = keys:=by
  obtain ⟨v,_,rfl⟩:=List.mem_map.1 h;exact fldB_keys keys v
theorem wantB_ne {keys : List ByteArray} {vs : List (List ByteArray)} {f : List Fld} (h : f ∈ wantB keys vs) : ∀ g ∈ f,¬ g.2 = ⟨#[]⟩:=by
  obtain ⟨v,_,rfl⟩:=List.mem_map.1 h;intro g hg;obtain ⟨i,_,rfl⟩:=List.mem_map.1 hg;exact cellB_ne v i
def bI (W : List (List Fld)) (q : Nat) : Ent:=(itmOf (W.getD q ([] : List Fld)),1 + (q : Int))
def bE (W : List (List Fld)) (j : Nat) : List Ent:=(List.range j).map (bI W)
def bL (W : List (List Fld)) (j : Nat) : Lst:=(bE W j,1 + (j : Int),(j : Int))
theorem bE_len (W : List (List Fld)) (j : Nat) : (bE W j).length = j:=by
  unfold bE;rw [List.length_map,List.length_range]
theorem bE_at (W : List (List Fld)) (j : Nat) : atE (bE W j) (j : Int) = (j : Int) - 1:=by
  unfold atE
  by_cases h : (j : Int) < 1
  · rw [if_pos h];omega
  · rw [if_neg h];have h1 : j - 1 < (bE W j).length:=by rw [bE_len];omega
    have h2:=ixOf_at (p:=hasId (j : Int)) (((0 : Int),ByteArray.empty,([] : List Fld)),(0 : Int)) h1 ?_ ?_
    · rw [h2];omega
    · refine List.any_eq_false.2 fun e he=>?_
      obtain ⟨q,hq,rfl⟩:=List.mem_take_iff_getElem.1 he;simp only [bE,List.getElem_map,List.getElem_range,bI,hasId,decide_eq_true_eq];have : q < j - 1:=Nat.lt_of_lt_of_le hq (Nat.min_le_left _ _);omega
    · rw [← getD_get h1 (((0 : Int),ByteArray.empty,([] : List Fld)),(0 : Int))];simp only [bE,List.getElem_map,List.getElem_range,bI,hasId,decide_eq_true_eq];omega
theorem doL_insG {L : Lst} {f : List Fld} {id : Int} (h : (doL L (3,id,f)).2.1 = L.2.1 + 1) : doL L (3,id,f) = (insE L.1 (atE L.1 id + 1).toNat (itmOf f,L.2.1),L.2.1 + 1,L.2.2 + 1):=by
  unfold doL at h ⊢;simp only [show ¬ (3 : Int) = 1 by decide,show ¬ (3 : Int) = 2 by decide,if_false] at h ⊢;split at h
  · omega
  · split at h
    · omega
    · split at h
      · omega
      · rename_i h1 h2 h3;rw [if_neg h1,if_neg h2,if_neg h3]
theorem bL_succ {W : List (List Fld)} {j : Nat} (h : (doL (bL W j) (3,(j : Int),W.getD j ([] : List Fld))).2.1 = (bL W j).2.1 + 1) : doL (bL W j) (3,(j : Int),W.getD j ([] : List Fld)) = bL W (j + 1):=by
  rw [doL_insG h];show (insE (bE W j) (atE (bE W j) (j : Int) + 1).toNat (itmOf (W.getD j ([] : List Fld)),1 + (j : Int)),1 + (j : Int) + 1,(j : Int) + 1) = bL W (j + 1);rw [bE_at,show ((j : Int) - 1 + 1).toNat = j by omega];have h1 : insE (bE W j) j (itmOf (W.getD j ([] : List Fld)),1 + (j : Int)) = bE W (j + 1):=by
    unfold insE;rw [List.take_of_length_le (Nat.le_of_eq (bE_len W j)),List.drop_of_length_le (Nat.le_of_eq (bE_len W j))];unfold bE;rw [List.range_succ,List.map_append];rfl
  rw [h1];unfold bL;rw [show (1 : Int) + (j : Int) + 1 = 1 + ((j + 1 : Nat) : Int) by omega,show (j : Int) + 1 = ((j + 1 : Nat) : Int) by omega]
theorem bE_rows (W : List (List Fld)) : (stzL (bE W W.length)).map (·.2) = W:=by
  have hlive : (bE W W.length).filter live = bE W W.length:=by
    refine List.filter_eq_self.2 fun e he=>?_
    obtain ⟨q,_,rfl⟩:=List.mem_map.1 he;exact decide_eq_true (show (0 : Int) < 1 + (q : Int) by omega)
  unfold stzL;rw [hlive,List.map_map];unfold bE;rw [List.map_map];apply List.ext_getElem
  · rw [List.length_map,List.length_range]
  · intro i h1 h2;rw [List.getElem_map,List.getElem_range];exact (getD_get h2 ([] : List Fld)).symm
theorem hasK_iff {v : ByteArray} {l : List ByteArray} : hasK v l = true ↔ v ∈ l:=by
  unfold hasK;rw [List.any_eq_true];exact ⟨fun ⟨x,hx,he⟩=>(of_decide_eq_true he) ▸ hx,fun h=>⟨v,h,decide_eq_true rfl⟩⟩
theorem addKs_old {out : List ByteArray} : ∀ {f : List Fld},(∀ g ∈ f,g.1 ∈ out) → f.foldl addK out = out
  | [],_=>rfl
  | g :: f,h=>by
    rw [List.foldl_cons,addK_old (hasK_iff.2 (h g (List.mem_cons_self ..)))];exact addKs_old fun x hx=>h x (List.mem_cons_of_mem _ hx)
theorem addKs_new : ∀ {f : List Fld} {out : List ByteArray},(f.map (·.1)).Nodup → (∀ g ∈ f,g.1 ∉ out) → f.foldl addK out = out ++ f.map (·.1)
  | [],out,_,_=>by simp
  | g :: f,out,hn,h=>by
    rw [List.map_cons,List.nodup_cons] at hn;rw [List.foldl_cons,addK_new (Bool.eq_false_iff.2 fun e=>h g (List.mem_cons_self ..) (hasK_iff.1 e)),addKs_new hn.2 fun x hx hm=>?_]
    · simp
    · rcases List.mem_append.1 hm with hm|hm
      · exact h x (List.mem_cons_of_mem _ hx) hm
      · rw [List.mem_singleton] at hm;exact hn.1 (hm ▸ List.mem_map_of_mem (f:=fun y : Fld=>y.1) hx)
theorem keysX_all {keys : List ByteArray} (hn : keys.Nodup) : ∀ {ss : List Stz},ss ≠ [] → (∀ x ∈ ss,x.2.map (·.1) = keys) → keysX ss = keys
  | [],h,_=>absurd rfl h
  | x :: ss,_,hx=>by
    have h1:=hx x (List.mem_cons_self ..);have h2 : x.2.foldl addK [] = keys:=by
      rw [addKs_new (h1 ▸ hn) (fun g _ h=>by cases h),h1];rfl
    unfold keysX;rw [List.foldl_cons,h2];have h3 : ∀ (ss : List Stz),(∀ y ∈ ss,y.2.map (·.1) = keys) → ss.foldl (fun out x=>x.2.foldl addK out) keys = keys:=fun ss=>by
      induction ss with
      | nil=>intro _;rfl
      | cons y ss ih =>
        intro hy;have h4:=hy y (List.mem_cons_self ..);rw [List.foldl_cons,addKs_old fun g hg=>by rw [← h4];exact List.mem_map_of_mem (f:=fun z : Fld=>z.1) hg];exact ih fun z hz=>hy z (List.mem_cons_of_mem _ hz)
    exact h3 ss fun y hy=>hx y (List.mem_cons_of_mem _ hy)
theorem fstV_mem : ∀ {f : List Fld},(f.map (·.1)).Nodup → ∀ g ∈ f,fstV g.1 f = g.2
  | h :: f,hn,g,hg=>by
    rw [List.map_cons,List.nodup_cons] at hn;unfold fstV;rcases List.mem_cons.1 hg with rfl|hg
    · exact if_pos rfl
    · rw [if_neg (show ¬ h.1 = g.1 from fun e=>hn.1 (by rw [e];exact List.mem_map_of_mem (f:=fun y : Fld=>y.1) hg))];exact fstV_mem hn.2 g hg
theorem rowX_all {keys : List ByteArray} (hn : keys.Nodup) {x : Stz} (hx : x.2.map (·.1) = keys) : rowX keys x = x.2.map (·.2):=by
  unfold rowX;rw [← hx,List.map_map];exact List.map_congr_left fun g hg=>fstV_mem (hx ▸ hn) g hg
theorem fldsS_all {f : List Fld} (h : ∀ g ∈ f,¬ g.2 = ⟨#[]⟩) : fldsS (f.map (·.1)) (f.map (·.2)) = f:=by
  unfold fldsS fldsU;have h1 : ((List.range (f.map (·.2)).length).map fun i=>((f.map (·.1)).getD i ByteArray.empty,(f.map (·.2)).getD i ByteArray.empty)) = f:=by
    apply List.ext_getElem
    · rw [List.length_map,List.length_range,List.length_map]
    · intro i h1 h2;rw [List.getElem_map,List.getElem_range,← getD_get (show i < (f.map (·.1)).length by rw [List.length_map];exact h2) ByteArray.empty,← getD_get (show i < (f.map (·.2)).length by rw [List.length_map];exact h2) ByteArray.empty,List.getElem_map,List.getElem_map]
  rw [h1];exact List.filter_eq_self.2 fun g hg=>by rw [decide_eq_false (h g hg)];rfl
theorem imp_all {keys : List ByteArray} (hn : keys.Nodup) (hk : keysOk keys = true) {ss : List Stz} (hx : ∀ x ∈ ss,x.2.map (·.1) = keys) (hv : ∀ x ∈ ss,∀ g ∈ x.2,¬ g.2 = ⟨#[]⟩) : impT (rowsX keys ss) = (ss.map (·.2),-9,0):=by
  unfold impT rowsX;rw [if_neg (by simp),if_neg (by show ¬ keysOk keys = false;rw [hk];decide)];show (if ((ss.map (rowX keys)).any fun r=>decide (keys.length < r.length)) = true then _ else ((ss.map (rowX keys)).map (fldsS keys),(-9 : Int),(0 : Int))) = _;have hr : ∀ x ∈ ss,rowX keys x = x.2.map (·.2):=fun x h=>rowX_all hn (hx x h)
  rw [if_neg,List.map_map]
  · congr 1
    refine List.map_congr_left fun x h=>?_
    show fldsS keys (rowX keys x) = x.2;rw [hr x h,← hx x h];exact fldsS_all (hv x h)
  · refine Bool.eq_false_iff.1 (List.any_eq_false.2 fun r hm=>?_);obtain ⟨x,h,rfl⟩:=List.mem_map.1 hm;rw [hr x h,List.length_map,← hx x h,List.length_map];simp
end Q
end Ab
end Go.Proofs.YtehmiepjeffloaaGreatDoor
namespace Go.Proofs.YtehmiepjeffloaaGreatDoor
open Go.RowKit
namespace Ab
set_option maxRecDepth 100000
namespace Q
end Q
end Ab
end Go.Proofs.YtehmiepjeffloaaGreatDoor
namespace Go.Proofs.YtehmiepjeffloaaGreatDoor
open Go.RowKit
namespace Ab
set_option maxRecDepth 100000
namespace Q
end Q
end Ab
end Go.Proofs.YtehmiepjeffloaaGreatDoor
namespace Go.Proofs.YtehmiepjeffloaaGreatDoor
open Go.RowKit
namespace Ab
set_option maxRecDepth 100000
namespace Q
theorem e_parse : parseS ⟨#[]⟩ = .inr []:=by decide +kernel
theorem take_getD {l : List ByteArray} {i k : Nat} (h : k < i) : (l.take i).getD k ByteArray.empty = l.getD k ByteArray.empty:=by
  rw [List.getD_eq_getElem?_getD,List.getD_eq_getElem?_getD,List.getElem?_take,if_pos h]
theorem wantB_snoc (keys : List ByteArray) {vs : List (List ByteArray)} {i : Nat} (h : i < vs.length) : wantB keys (vs.take (i + 1)) = wantB keys (vs.take i) ++ [fldB keys (vs.getD i ([] : List ByteArray)) keys.length]:=by
  unfold wantB;rw [← yQ ([] : List ByteArray) h,List.map_append];rfl
theorem nodup_of {keys : List ByteArray} (h : ∀ p,p < keys.length → ∀ q,q < p → ¬ keys.getD q ByteArray.empty = keys.getD p ByteArray.empty) : keys.Nodup:=by
  refine List.pairwise_iff_getElem.2 fun q p hq hp hqp=>?_
  have:=h p hp q hqp
  rwa [← getD_get hq ByteArray.empty,← getD_get hp ByteArray.empty] at this
theorem textsT2 (a : List ByteArray) : qR Tryz.prog 12 [.one (.sl .str a),.one (.sl .str a)] (ib true):=by
  have:=texts_c a a
  rwa [decide_eq_true rfl] at this
theorem stanzasT (a : List (List Fld)) : qR Tryz.prog 25 [.one (.sl (.sl rFld) a),.one (.sl (.sl rFld) a)] (ib true):=by
  have:=stanzasEq_c a a
  rwa [decide_eq_true rfl] at this
theorem unt_lst2 (t : List (List ByteArray)) : unt (lst t) = t:=by
  unfold unt lst;rw [List.map_map]
  conv=>rhs;rw [← List.map_id t]
  refine List.map_congr_left fun r _=>?_
  show uns (lss r) = r;unfold uns;rw [List.map_map]
  conv=>rhs;rw [← List.map_id r]
  exact List.map_congr_left fun s _=>xK s
theorem imp_back {keys : List ByteArray} {ss : List Stz} {W : List (List Fld)} (hw : ss.map (·.2) = W) (h0 : 0 < keys.length) (hn : keys.Nodup) (hk : keysOk keys = true) (hx : ∀ x ∈ ss,x.2.map (·.1) = keys) (hv : ∀ x ∈ ss,∀ g ∈ x.2,¬ g.2 = ⟨#[]⟩) (hz : (bytes (yK (lst (rowsX keys ss)))).size ≤ 60000) :
    qR Tryz.prog 24 [is (bytes (yK (lst (rowsX keys ss))))] (.tup [(false,[.sl (.sl rFld) W]),(false,[.lit .nilIface])]):=by
  have hg : xB (lst (rowsX keys ss)) = true:=by
    have:=good_unt (lst (rowsX keys ss));rw [unt_lst2,rowsX_good h0 ss] at this;exact this.symm
  have hrd : shReadP (ls (bytes (yK (lst (rowsX keys ss))))) = some (lst (rowsX keys ss)):=by
    rw [show ls (bytes (yK (lst (rowsX keys ss)))) = yK (lst (rowsX keys ss)) from qT _];exact shread_write hg
  have h:=imp_some _ hz _ hrd;rw [unt_lst2,imp_all hn hk hx hv,hw] at h;exact h
theorem SheetBack_c (keys : List ByteArray) (vs : List (List ByteArray)) : qR Tryz.prog 5 [.one (.sl .str keys),.one (.sl (.sl .str) vs)] (ib true):=by
  have hof:=of_ok ⟨#[]⟩ (by decide) e_parse;have hlz : LOk 9000 (bL (wantB keys vs) 0):=of_lok (s:=⟨#[]⟩) (by decide) e_parse;rw [show ofT [] = (bE (wantB keys vs) 0,1,0) from rfl] at hof;refine qP (rs:=[4]) Tryz.func5 rfl rfl rfl teOk rfl ?_;refine qC ?_;refine qB ?_;refine qC ?_;refine qC ?_;refine qB ?_;refine Or.inl ?_;refine zai (rfl) ?_;refine zei _ (zai (alive28_c) ?_);refine qK rfl (fun h27=>?_) (fun h27=>?_)
  ·try simp only [Bool.not_eq_true'] at h27
   try simp only [zds] at h27
   simp at h27
  ·try simp only [Bool.not_eq_false'] at h27
   try simp only [zds] at h27
   refine qM ?_;refine qC ?_;refine qC ?_;refine qB ?_;intro l3_1
   try simp only [zds] at l3_1
   refine zai (fun h=>trivial) ?_;refine zai (fun h=>⟨⟨h,trivial⟩,trivial⟩) ?_;refine zai (fun h=>⟨⟨h,trivial⟩,trivial⟩) ?_;refine zai (by first|(intro h;rw [h];rfl)|(intro h;cases h)) ?_;refine zai (fun h=>trivial) ?_;refine zai (fun h=>⟨⟨h,trivial⟩,trivial⟩) ?_;refine zai (fun h=>⟨⟨h,trivial⟩,trivial⟩) ?_;refine zai (by first|(intro h;rw [h];rfl)|(intro h;cases h)) ?_;refine qK rfl (fun h40=>?_) (fun h40=>?_)
   ·try simp only [decide_eq_true_eq,Bool.or_eq_true] at h40
    try simp only [zds] at h40
    refine qC ?_;refine qB ?_;refine qL ?_
    first|rfl|(refine ib_eq ?_;rw [List.eq_nil_of_length_eq_zero (show (stzL (bE W W.length)).length = 0 by omega)];rfl)|exact ib_eq (by simp)
   ·try simp only [decide_eq_false_iff_not,Bool.or_eq_false_iff,Int.not_lt] at h40
    try simp only [zds] at h40
    obtain ⟨⟨hk0,hk8⟩,hv12⟩:=h40;refine qM ?_;refine qC ?_;refine qC ?_;refine qB ?_;intro l5_1
    try simp only [zds] at l5_1
    refine qN ?_;refine qU (fun (i : Nat)=>i ≤ keys.length ∧ ∀ p,p < i → ∀ q,q < p → ¬ keys.getD q ByteArray.empty = keys.getD p ByteArray.empty) (fun (i : Nat)=>[(0,.one (.sl .str keys)),(1,.one (.sl (.sl .str) vs)),(41,.one (.sl .str keys)),(42,ii .i64 keys.length),(43,ii .i64 i)]) (fun (i : Nat)=>[]) 0 (fun (i : Nat)=>keys.length - i) 0 (⟨Nat.zero_le _,fun p hp=>by omega⟩) (qQ ⟨rfl,rfl,rfl,rfl,rfl⟩ trivial rfl) ?_;intro i hI0;obtain ⟨hi,hdis⟩:=hI0;refine qC ?_;refine qB ?_;refine qC ?_;refine qK rfl (fun h44=>?_) (fun h44=>?_)
    ·try simp only [decide_eq_true_eq] at h44
     try simp only [zds] at h44
     have hil : i < keys.length:=(by omega);have hti : (keys.take i).length = i:=(by rw [List.length_take];omega);refine qM ?_;refine qC ?_;refine qN ?_;refine qC ?_;refine qB ?_;refine zai (by first|omega|assumption|decide|(simp only [zds];omega)|(simp <;> omega)) ?_;refine qC ?_;refine qB ?_;refine zai (by first|omega|assumption|decide|(simp only [zds];omega)|(simp <;> omega)) ?_;intro l8_3
     try simp only [Int.toNat_natCast] at l8_3
     refine qN ?_;refine qU (fun (k : Nat)=>k ≤ i ∧ ∀ q,q < k → ¬ keys.getD q ByteArray.empty = keys.getD i ByteArray.empty) (fun (k : Nat)=>[(0,.one (.sl .str keys)),(1,.one (.sl (.sl .str) vs)),(6,is (keys.getD i ByteArray.empty)),(41,.one (.sl .str keys)),(42,ii .i64 keys.length),(43,ii .i64 i),(50,.one (.sl .str (keys.take i))),(51,ii .i64 (keys.take i).length),(52,ii .i64 k)]) (fun (k : Nat)=>[]) 0 (fun (k : Nat)=>i - k) 0 (⟨Nat.zero_le _,fun q hq=>by omega⟩) (qQ ⟨rfl,rfl,rfl,rfl,rfl,rfl,rfl,rfl,rfl⟩ trivial rfl) ?_;intro k hI2;obtain ⟨hki,hdk⟩:=hI2;refine qC ?_;refine qB ?_;refine qC ?_;refine qK rfl (fun h53=>?_) (fun h53=>?_)
     ·try simp only [decide_eq_true_eq] at h53
      try simp only [zds] at h53
      have hkl : k < i:=(by omega);have htg:=take_getD (l:=keys) hkl;refine qM ?_;refine qC ?_;refine qN ?_;refine qC ?_;refine qB ?_;refine zai (by first|omega|assumption|decide|(simp only [zds];omega)|(simp <;> omega)) ?_;refine qC ?_;refine qB ?_;refine qK rfl (fun h58=>?_) (fun h58=>?_)
      ·try simp only [decide_eq_true_eq] at h58
       try simp only [Int.toNat_natCast,qE] at h58
       refine qC ?_;refine qB ?_;refine qL ?_
       first|rfl|(refine ib_eq ?_;rw [List.eq_nil_of_length_eq_zero (show (stzL (bE W W.length)).length = 0 by omega)];rfl)|exact ib_eq (by simp)
      ·try simp only [decide_eq_false_iff_not] at h58
       try simp only [Int.toNat_natCast,qE] at h58
       refine qM ?_;refine qB ?_;refine zai (by first|omega|assumption|decide|(simp only [zds];omega)|(simp <;> omega)) ?_;exact ⟨k + 1,⟨by omega,fun q hq=>by rcases Nat.lt_or_eq_of_le (Nat.le_of_lt_succ hq) with h|rfl;exact hdk q h;rw [← htg];exact h58⟩,by first|omega|(simp <;> omega),qQ ⟨rfl,rfl,rfl,rfl,rfl,rfl,rfl,rfl,(yP (by omega))⟩ trivial rfl⟩
     ·try simp only [decide_eq_false_iff_not,Int.not_lt] at h53
      try simp only [zds] at h53
      refine qY ?_;have hkie : k = i:=(by omega);subst hkie;refine qB ?_;refine zai (by first|omega|assumption|decide|(simp only [zds];omega)|(simp <;> omega)) ?_;exact ⟨k + 1,⟨by omega,fun p hp q hq=>by rcases Nat.lt_or_eq_of_le (Nat.le_of_lt_succ hp) with h|rfl;exact hdis p h q hq;exact hdk q hq⟩,by first|omega|(simp <;> omega),qQ ⟨rfl,rfl,rfl,rfl,(yP (by omega))⟩ trivial rfl⟩
    ·try simp only [decide_eq_false_iff_not,Int.not_lt] at h44
     try simp only [zds] at h44
     refine qY ?_;have hnd : keys.Nodup:=nodup_of (fun p hp q hq=>hdis p (by omega) q hq);refine qC ?_;refine qB ?_;refine Or.inr (Or.inl (zei [] (zei [] (zei _ (zei _ (zei _ (zei _ (zei _ (zai (hof) (zai rfl (zai True.intro (zai rfl ?_))))))))))));refine qC ?_;refine qC ?_;refine qB ?_;refine qK rfl (fun h66=>?_) (fun h66=>?_)
     ·try simp only [Bool.not_eq_true'] at h66
      try simp only [zds] at h66
      simp at h66
     ·try simp only [Bool.not_eq_false'] at h66
      try simp only [zds] at h66
      refine qM ?_;refine qC ?_;refine qB ?_;refine qC ?_;refine qC ?_;refine qB ?_;intro l19_1
      try simp only [zds] at l19_1
      refine qN ?_;refine qU (fun (i : Nat)=>i ≤ vs.length) (fun (i : Nat)=>[(0,.one (.sl .str keys)),(9,.one (.own 0 0)),(11,.one (.vec 2)),(68,.one (.sl (.sl .str) vs)),(69,ii .i64 vs.length),(70,ii .i64 i)]) (fun (i : Nat)=>[(0,.box 79 [.vec 1,.lit (.int .i64 1),.lit (.int .i64 0)]),(1,.vec 83 rEnt (bE (wantB keys vs) 0)),(2,.vec 53 (.sl rFld) (wantB keys (vs.take i)))]) 3 (fun (i : Nat)=>vs.length - i) 0 (Nat.zero_le _) (qQ ⟨rfl,rfl,rfl,rfl,rfl,rfl⟩ ⟨rfl,rfl,rfl⟩ rfl) ?_;intro i hI4;refine qC ?_;refine qB ?_;refine qC ?_;refine qK rfl (fun h71=>?_) (fun h71=>?_)
      ·try simp only [decide_eq_true_eq] at h71
       try simp only [zds] at h71
       have hvl : i < vs.length:=(by omega);have hsn:=wantB_snoc keys hvl;have hwl : (wantB keys (vs.take i)).length ≤ 12:=(by unfold wantB;rw [List.length_map,List.length_take];omega);refine qM ?_;refine qC ?_;refine qN ?_;refine qC ?_;refine qB ?_;refine zai (by first|omega|assumption|decide|(simp only [zds];omega)|(simp <;> omega)) ?_;refine qC ?_;refine qB ?_;refine qC ?_;refine qC ?_;refine qB ?_;intro l23_1
       try simp only [zds] at l23_1
       refine qN ?_;refine qU (fun (j : Nat)=>j ≤ keys.length) (fun (j : Nat)=>[(0,.one (.sl .str keys)),(9,.one (.own 0 0)),(11,.one (.vec 2)),(13,.one (.sl .str (vs.getD i ([] : List ByteArray)))),(14,.one (.vec 3)),(68,.one (.sl (.sl .str) vs)),(69,ii .i64 vs.length),(70,ii .i64 i),(75,.one (.sl .str keys)),(76,ii .i64 keys.length),(77,ii .i64 j)]) (fun (j : Nat)=>[(0,.box 79 [.vec 1,.lit (.int .i64 1),.lit (.int .i64 0)]),(1,.vec 83 rEnt (bE (wantB keys vs) 0)),(2,.vec 53 (.sl rFld) (wantB keys (vs.take i))),(3,.vec 66 rFld (fldB keys (vs.getD i ([] : List ByteArray)) j))]) 4 (fun (j : Nat)=>keys.length - j) 0 (Nat.zero_le _) (qQ ⟨rfl,rfl,rfl,rfl,rfl,rfl,rfl,rfl,rfl,rfl,rfl⟩ ⟨rfl,rfl,rfl,rfl⟩ rfl) ?_;intro j hI6;refine qC ?_;refine qB ?_;refine qC ?_;refine qK rfl (fun h78=>?_) (fun h78=>?_)
       ·try simp only [decide_eq_true_eq] at h78
        try simp only [zds] at h78
        have hjl : j < keys.length:=(by omega);have hfs:=fldB_snoc keys (vs.getD i ([] : List ByteArray)) j;have hfl:=fldB_len keys (vs.getD i ([] : List ByteArray)) j;refine qM ?_;refine qC ?_;refine qN ?_;refine qC ?_;refine qB ?_;refine zai (by first|omega|assumption|decide|(simp only [zds];omega)|(simp <;> omega)) ?_;refine qC ?_;refine qB ?_;refine qC ?_;refine qC ?_;refine qB ?_;intro l27_2
        try simp only [zds] at l27_2
        refine zai (fun h=>trivial) ?_;refine zai (fun h=>trivial) ?_;refine zai (fun h=>⟨⟨⟨h,trivial⟩,⟨h,trivial⟩,trivial⟩,by first|omega|decide|(simp only [zds];omega)|(have h9:=of_decide_eq_true h;omega)|(simp [gq] at h;omega)⟩) ?_;refine zai (fun h=>⟨⟨h,trivial⟩,trivial⟩) ?_;refine zai (fun h=>⟨⟨h,trivial⟩,trivial⟩) ?_;refine zai (by exact fun h=>h) ?_;refine qK rfl (fun h92=>?_) (fun h92=>?_)
        ·try simp only [decide_eq_true_eq,decide_eq_false_iff_not,Bool.and_eq_true,Bool.not_eq_true'] at h92
         try simp only [Int.toNat_natCast,qE] at h92
         have hcell : cellB (vs.getD i ([] : List ByteArray)) j = (vs.getD i ([] : List ByteArray)).getD j ByteArray.empty:=if_pos ⟨by have:=h92.1;omega,h92.2⟩;rw [hcell] at hfs;refine qB ?_;refine zai (by have:=h92.1;first|omega|(simp only [Int.toNat_natCast];omega)) ?_;refine qB ?_;refine zai (by exact qS (show (fldB keys (vs.getD i ([] : List ByteArray)) j).length + 1 ≤ 1000000000 by omega) (by decide)) ?_;refine qB ?_;refine zai (by first|omega|assumption|decide|(simp only [zds];omega)|(simp <;> omega)) ?_;exact ⟨j + 1,by omega,by first|omega|(simp <;> omega),qQ ⟨rfl,rfl,rfl,rfl,rfl,rfl,rfl,rfl,rfl,rfl,(yP (by omega))⟩ ⟨rfl,rfl,rfl,(yF (by rw [hfs];try exact rfl))⟩ rfl⟩
        ·try simp only [decide_eq_true_eq,decide_eq_false_iff_not,Bool.not_eq_false',Bool.and_eq_false_iff,Int.not_lt] at h92
         try simp only [Int.toNat_natCast,qE] at h92
         have hcell : cellB (vs.getD i ([] : List ByteArray)) j = ⟨#[120]⟩:=if_neg (fun h=>by have h1:=h.1;simp at h1;simp at h92;rcases h92 with h9|h9;omega;exact h.2 (by simpa using h9));rw [hcell] at hfs;refine qM ?_;refine qB ?_;refine zai (by exact qS (show (fldB keys (vs.getD i ([] : List ByteArray)) j).length + 1 ≤ 1000000000 by omega) (by decide)) ?_;refine qB ?_;refine zai (by first|omega|assumption|decide|(simp only [zds];omega)|(simp <;> omega)) ?_;exact ⟨j + 1,by omega,by first|omega|(simp <;> omega),qQ ⟨rfl,rfl,rfl,rfl,rfl,rfl,rfl,rfl,rfl,rfl,(yP (by omega))⟩ ⟨rfl,rfl,rfl,(yF (by rw [hfs];try exact rfl))⟩ rfl⟩
       ·try simp only [decide_eq_false_iff_not,Int.not_lt] at h78
        try simp only [zds] at h78
        refine qY ?_;have hje : j = keys.length:=(by omega);subst hje;refine qB ?_;refine zai (by exact qS (show (wantB keys (vs.take i)).length + 1 ≤ 1000000000 by omega) (by decide)) ?_;refine qB ?_;refine zai (by first|omega|assumption|decide|(simp only [zds];omega)|(simp <;> omega)) ?_;exact ⟨i + 1,by omega,by first|omega|(simp <;> omega),qQ ⟨rfl,rfl,rfl,rfl,rfl,(yP (by omega))⟩ ⟨rfl,rfl,(yF (by rw [hsn];try exact rfl))⟩ rfl⟩
      ·try simp only [decide_eq_false_iff_not,Int.not_lt] at h71
       try simp only [zds] at h71
       refine qY ?_;rw [List.take_of_length_le (show vs.length ≤ i by omega)];have hWl : (wantB keys vs).length ≤ 12:=(by unfold wantB;rw [List.length_map];omega);have hWk:=@wantB_keys keys vs;have hWn:=@wantB_ne keys vs;obtain ⟨W,hW⟩ : ∃ W,wantB keys vs = W:=⟨_,rfl⟩;rw [hW] at hWl hWk hWn hlz ⊢;refine qC ?_;refine qB ?_;refine qC ?_;refine qC ?_;refine acode_frz [2] ?_;refine qB ?_;intro l34_1
       try simp only [zds] at l34_1
       refine qN ?_;refine qU (fun (i : Nat)=>i ≤ W.length ∧ LOk (9000 + i) (bL W i) ∧ ∀ q,q < i → (chkR (W.getD q ([] : List Fld))).2 = 0) (fun (i : Nat)=>[(0,.one (.sl .str keys)),(9,.one (.own 0 0)),(11,.one (.sl (.sl rFld) W)),(18,ii .i64 i),(109,.one (.sl (.sl rFld) W)),(110,ii .i64 W.length),(111,ii .i64 i)]) (fun (i : Nat)=>[(0,.box 79 [.vec 1,.lit (.int .i64 (1 + (i : Int))),.lit (.int .i64 (i : Int))]),(1,.vec 83 rEnt (bE W i))]) 3 (fun (i : Nat)=>W.length - i) 0 (⟨Nat.zero_le _,hlz,fun q hq=>by omega⟩) (qQ ⟨rfl,rfl,rfl,rfl,rfl,rfl,rfl⟩ ⟨rfl,rfl⟩ rfl) ?_;intro i hI8;obtain ⟨hi8,hLk,hall⟩:=hI8;refine qC ?_;refine qB ?_;refine qC ?_;refine qK rfl (fun h112=>?_) (fun h112=>?_)
       ·try simp only [decide_eq_true_eq] at h112
        try simp only [zds] at h112
        have hil : i < W.length:=(by omega);have hnl : ¬ (atE (bL W i).1 (i : Int) < 0 ∧ (i : Int) ≠ 0):=(by rw [show (bL W i).1 = bE W i from rfl,bE_at];omega);have hins:=ins_casesA (κ:=0) hLk (by omega) (i : Int) (W.getD i ([] : List Fld)) hnl;refine qM ?_;refine qC ?_;refine qN ?_;refine qC ?_;refine qB ?_;refine zai (by first|omega|assumption|decide|(simp only [zds];omega)|(simp <;> omega)) ?_;refine qC ?_;rcases hins with ⟨k9,hc⟩|⟨a9,k9,hc⟩|⟨hck,hdo,hc⟩
        ·refine qB ?_;refine Or.inr (Or.inl (zei [] (zei [0,1] (zei _ (zei _ (zei _ (zei _ (zei _ (zai (hc) (zai rfl (zai (zai (zai rfl rfl) (zai (zai rfl rfl) True.intro)) (zai rfl ?_))))))))))));refine qC ?_;refine qC ?_;refine qB ?_;refine qK rfl (fun h123=>?_) (fun h123=>?_)
         ·skip
          refine qC ?_;refine qB ?_;refine qL ?_
          first|rfl|(refine ib_eq ?_;rw [List.eq_nil_of_length_eq_zero (show (stzL (bE W W.length)).length = 0 by omega)];rfl)|exact ib_eq (by simp)
         ·try simp only [zbq] at h123
          try simp only [zds] at h123
          simp at h123
        ·refine qB ?_;refine Or.inr (Or.inl (zei [] (zei [0,1] (zei _ (zei _ (zei _ (zei _ (zei _ (zai (hc) (zai rfl (zai (zai (zai rfl rfl) (zai (zai rfl rfl) True.intro)) (zai rfl ?_))))))))))));refine qC ?_;refine qC ?_;refine qB ?_;refine qK rfl (fun h123=>?_) (fun h123=>?_)
         ·skip
          refine qC ?_;refine qB ?_;refine qL ?_
          first|rfl|(refine ib_eq ?_;rw [List.eq_nil_of_length_eq_zero (show (stzL (bE W W.length)).length = 0 by omega)];rfl)|exact ib_eq (by simp)
         ·try simp only [zbq] at h123
          try simp only [zds] at h123
          simp at h123
        ·refine qB ?_;have hzs:=bL_succ hdo;have hLn:=doL_ok (e:=(3,(i : Int),W.getD i ([] : List Fld))) hLk (chk_flds hck);rw [hzs] at hc hLn;refine Or.inr (Or.inl (zei [] (zei [0,1] (zei _ (zei _ (zei _ (zei _ (zei _ (zai (hc) (zai rfl (zai (zai (zai rfl rfl) (zai (zai rfl rfl) True.intro)) (zai rfl ?_))))))))))));refine qC ?_;refine qC ?_;refine qB ?_;refine qK rfl (fun h123=>?_) (fun h123=>?_)
         ·try simp only [Bool.not_eq_true'] at h123
          try simp only [zds] at h123
          simp at h123
         ·try simp only [Bool.not_eq_false'] at h123
          try simp only [zds] at h123
          refine qM ?_;refine qB ?_;refine qB ?_;refine zai (by first|omega|assumption|decide|(simp only [zds];omega)|(simp <;> omega)) ?_;exact ⟨i + 1,⟨by omega,hLn,fun q hq=>by rcases Nat.lt_or_eq_of_le (Nat.le_of_lt_succ hq) with h|rfl;exact hall q h;exact hck⟩,by first|omega|(simp <;> omega),qQ ⟨rfl,rfl,rfl,(yP (show (1 + (i : Int)) = ((i + 1 : Nat) : Int) by omega)),rfl,rfl,(yP (by omega))⟩ ⟨rfl,rfl⟩ rfl⟩
       ·try simp only [decide_eq_false_iff_not,Int.not_lt] at h112
        try simp only [zds] at h112
        refine qY ?_;have hix : i = W.length:=(by omega);subst hix;have hEl : (bE W W.length).length ≤ 1000000:=(by rw [bE_len];omega);have hEf : ∀ e ∈ (bE W W.length),e.1.2.2.length ≤ 1000:=(fun e he=>(hLk.flds e he).1);have hrw:=bE_rows W;have hsl : (stzL (bE W W.length)).length = W.length:=(by have:=congrArg List.length hrw;rwa [List.length_map] at this);have hmem : ∀ x ∈ stzL (bE W W.length),x.2 ∈ W:=(fun x hx=>by rw [← hrw];exact List.mem_map_of_mem (f:=fun y : Stz=>y.2) hx);have hWq : ∀ f ∈ W,(chkR f).2 = 0:=(fun f hf=>by obtain ⟨q,hq,rfl⟩:=List.getElem_of_mem hf;rw [getD_get hq ([] : List Fld)];exact hall q hq);have hx1 : ∀ x ∈ stzL (bE W W.length),x.2.length ≤ 1000:=(fun x hx=>(chk_flds (hWq _ (hmem x hx))).1);have hkc:=keys_c (k:=1) (bE W W.length) (1 + (W.length : Int)) (W.length : Int) hEl hEf (by omega) hx1;refine qC ?_;refine qC ?_;refine qB ?_;intro l42_1
        try simp only [zds] at l42_1
        refine qK rfl (fun h128=>?_) (fun h128=>?_)
        ·try simp only [decide_eq_true_eq] at h128
         try simp only [zds] at h128
         refine qC ?_;refine qB ?_;refine Or.inr (Or.inr (Or.inl ?_));refine zai rfl ?_;refine zei _ (zai (hkc) ?_);intro l43_2
         try simp only [zds] at l43_2
         refine qL ?_
         first|rfl|(refine ib_eq ?_;rw [List.eq_nil_of_length_eq_zero (show (stzL (bE W W.length)).length = 0 by omega)];rfl)|exact ib_eq (by simp)
        ·try simp only [decide_eq_false_iff_not] at h128
         try simp only [zds] at h128
         have hW0 : 0 < W.length:=(by omega);have hsk : ∀ x ∈ stzL (bE W W.length),x.2.map (·.1) = keys:=(fun x hx=>hWk (hmem x hx));have hne : stzL (bE W W.length) ≠ []:=(fun e=>by rw [e] at hsl;simp at hsl;omega);have hkx:=keysX_all hnd hne hsk;rw [hkx] at hkc;have hko : keysOk keys = true:=(List.all_eq_true.2 (fun k hk=>by have h9:=yW hW0 ([] : List Fld);rw [← hWk h9] at hk;obtain ⟨g,hg,rfl⟩:=List.mem_map.1 hk;exact ((chk_small (hWq _ h9)).2 g hg).1));have hkl : 0 < keys.length:=(by omega);have hev:=exp_ok (k:=1) (bE W W.length) (1 + (W.length : Int)) (W.length : Int) keys hkl hko hEl (fun e he=>Nat.le_trans (hEf e he) (by decide)) (by omega) (fun x hx f hf=>((chk_small (hWq _ (hmem x hx))).2 f hf).2.2) (by omega);refine qM ?_;refine qC ?_;refine qB ?_;refine Or.inr (Or.inr (Or.inl ?_));refine zai rfl ?_;refine zei _ (zai (hkc) ?_);refine Or.inr (Or.inr (Or.inl ?_));refine zai rfl ?_;refine zei _ (zai (hev) ?_);refine qC ?_;refine qC ?_;refine qB ?_;refine qK rfl (fun h142=>?_) (fun h142=>?_)
         ·try simp only [decide_eq_true_eq] at h142
          try simp only [zds] at h142
          refine qC ?_;refine qB ?_;refine qL ?_
          first|rfl|(refine ib_eq ?_;rw [List.eq_nil_of_length_eq_zero (show (stzL (bE W W.length)).length = 0 by omega)];rfl)|exact ib_eq (by simp)
         ·try simp only [decide_eq_false_iff_not,Int.not_lt] at h142
          try simp only [zds] at h142
          have him:=imp_back hrw hkl hnd hko hsk (fun x hx=>hWn (hmem x hx)) (by omega);refine qM ?_;refine qC ?_;refine qB ?_;refine Or.inl ?_;refine zai (rfl) ?_;refine zei _ (zai (him) ?_);refine qC ?_;refine qB ?_;refine zai (fun h=>trivial) ?_;refine zai (fun h=>⟨⟨h,trivial⟩,trivial⟩) ?_;refine zai (by exact fun h=>h) ?_;refine zai (fun h=>trivial) ?_;refine Or.inl ?_;refine zai (rfl) ?_;refine zei _ (zai (fun h=>⟨⟨⟨h,trivial⟩,trivial⟩,hkc⟩) ?_);refine zai (fun h=>trivial) ?_;refine Or.inl ?_;refine zai (rfl) ?_;refine zei _ (zai (fun h=>⟨⟨⟨h,trivial⟩,⟨h,trivial⟩,trivial⟩,textsT2 keys⟩) ?_);refine zai (by exact fun h=>h) ?_;refine zai (fun h=>trivial) ?_;refine zai (fun h=>trivial) ?_;refine Or.inl ?_;refine zai (rfl) ?_;refine zei _ (zai (fun h=>⟨⟨⟨h,trivial⟩,⟨h,trivial⟩,trivial⟩,stanzasT W⟩) ?_);refine zai (by exact fun h=>h) ?_;refine qL ?_
          first|rfl|(refine ib_eq ?_;rw [List.eq_nil_of_length_eq_zero (show (stzL (bE W W.length)).length = 0 by omega)];rfl)|exact ib_eq (by simp)
end Q
end Ab
end Go.Proofs.YtehmiepjeffloaaGreatDoor
namespace Go.Proofs.YtehmiepjeffloaaGreatDoor
open Go.RowKit
namespace Ab
set_option maxRecDepth 100000
theorem o_str : Opens Tryz.prog 9 .str:=opens_str Tryz.underlying9 (by kernel_rfl)
theorem globAt {W : World} (h : W.ShapedOpen Tryz.prog) : GlobAt AllOk W:=by
  have hc : GlobCell W:=cell_of_shapedOpen_int (g:=0) (t:=3) (zero:=#[.int .i64 0]) h (of_decide_eq_true (by kernel_rfl)) (by kernel_rfl) rfl (by kernel_rfl) (by kernel_rfl) Tryz.underlying3;refine ⟨trivial,?_,hc⟩;obtain ⟨m,hm⟩:=hc;rcases Nat.lt_or_ge 0 W.heap.size with h1|h1
  · exact h1
  · exfalso
    simp only [World.cell?,Array.getElem?_eq_none h1] at hm;cases hm
end Ab
end Go.Proofs.YtehmiepjeffloaaGreatDoor
namespace Go.Proofs.YtehmiepjeffloaaGreatDoor
open Go.RowKit
namespace Ab
set_option maxRecDepth 100000
theorem o_strs : Opens Tryz.prog 22 (.sl .str):=opens_sl (by decide) Tryz.underlying22 (by kernel_rfl) o_str
theorem open_strs {H : Type} {enc : TypeId × Value → H} {W : World} {base : Nat} {v : Value} {d : DataW H} {p : List MemPlace} (hv : Value.okWide Tryz.prog W .any base 22 v) (h : DataW.Trod enc Tryz.prog W 0 (fun _=>true) true 22 v d p) :
    ∃ xs,(C.sl .str xs).rep AllOk yG W v:=open_sl Tryz.underlying22 o_strs hv h
theorem o_strss : Opens Tryz.prog 64 (.sl (.sl .str)):=opens_sl (by decide) Tryz.underlying64 (by kernel_rfl) o_strs
theorem open_strss {H : Type} {enc : TypeId × Value → H} {W : World} {base : Nat} {v : Value} {d : DataW H} {p : List MemPlace} (hv : Value.okWide Tryz.prog W .any base 64 v) (h : DataW.Trod enc Tryz.prog W 0 (fun _=>true) true 64 v d p) :
    ∃ xs,(C.sl (.sl .str) xs).rep AllOk yG W v:=open_sl Tryz.underlying64 o_strss hv h
end Ab
end Go.Proofs.YtehmiepjeffloaaGreatDoor
