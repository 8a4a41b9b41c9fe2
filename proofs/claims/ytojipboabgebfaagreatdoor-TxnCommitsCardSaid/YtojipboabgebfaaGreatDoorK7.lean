/-
  The texts of this proof, joined: abstract values, the library, the functions of the program and what they compute (part 7). No condition.
-/
import Derived.Shelf.Vars
import Derived.KernelRfl
import Derived.LaidHandle
import Derived.LaidSub
import Derived.LaidMore
import Derived.Lay
import Derived.FnData
import Derived.Test.YtojipboabgebfaaGreatDoorK1
import Derived.Test.YtojipboabgebfaaGreatDoorK2
import Derived.Test.YtojipboabgebfaaGreatDoorK3
import Derived.Test.YtojipboabgebfaaGreatDoorK4
import Derived.Test.YtojipboabgebfaaGreatDoorK5
import Derived.Test.YtojipboabgebfaaGreatDoorK6
namespace Go.Proofs.YtojipboabgebfaaGreatDoor
open Go.RowKit
namespace Ab
set_option maxRecDepth 100000
namespace Q
theorem act1 {sts : List TSt0} {x : Edt} (h : x.1 = 1) : actT sts x = stepT sts (1,x.2.1,x.2.2):=by
  unfold actT;rw [if_pos h,← h]
theorem act2 {sts : List TSt0} {x : Edt} (h : x.1 = 2) : actT sts x = stepT sts (2,x.2.1,[]):=by
  unfold actT;rw [if_neg (by omega),if_pos h]
theorem act3 {sts : List TSt0} {x : Edt} (h : x.1 = 3) : actT sts x = stepT sts (3,x.2.1,x.2.2):=by
  unfold actT;rw [if_neg (by omega),if_neg (by omega),if_pos h,← h]
theorem act4 {sts : List TSt0} {x : Edt} (h : x.1 = 4) : actT sts x = backT sts x.2.1:=by
  unfold actT;rw [if_neg (by omega),if_neg (by omega),if_neg (by omega),if_pos h]
theorem act0 {sts : List TSt0} {x : Edt} (h1 : x.1 ≠ 1) (h2 : x.1 ≠ 2) (h3 : x.1 ≠ 3) (h4 : x.1 ≠ 4) : actT sts x = sts:=by
  unfold actT;rw [if_neg h1,if_neg h2,if_neg h3,if_neg h4]
theorem TCom_big (s : ByteArray) (a : List Edt) (h : 2000 < s.size ∨ heavyB a = true) : qX Tryz.prog 7 [is s,.one (.sl rEdt a)] (ib true):=by
  have hva:=heavy_c a;refine qW (rs:=[4]) Tryz.func7 rfl rfl rfl teOk rfl ?_;refine qD ?_;refine qB ?_;refine qD ?_;refine qD ?_;refine qB ?_;refine Or.inl ?_;refine zai (rfl) ?_;refine zei _ (zai (alive17_c) ?_);refine qM rfl (fun h19=>?_) (fun h19=>?_)
  ·try simp only [Bool.not_eq_true'] at h19
   try simp only [zds] at h19
   simp at h19
  ·try simp only [Bool.not_eq_false'] at h19
   try simp only [zds] at h19
   refine qO ?_;refine qD ?_;refine qD ?_;refine qB ?_;refine zai (fun h=>trivial) ?_;refine Or.inl ?_;refine zai (rfl) ?_;refine zei _ (zai (fun h=>⟨⟨⟨h,trivial⟩,trivial⟩,hva⟩) ?_);refine zai (by first|(intro h;rw [h];rfl)|(intro h;cases h)) ?_;refine qM rfl (fun h26=>?_) (fun h26=>?_)
   ·try simp only [decide_eq_true_eq,Bool.or_eq_true] at h26
    try simp only [zds] at h26
    refine qD ?_;refine qB ?_;refine qN ?_;rfl
   ·try simp only [decide_eq_false_iff_not,Bool.or_eq_false_iff,Int.not_lt] at h26
    try simp only [zds] at h26
    obtain ⟨g1,g2⟩:=h26;exact absurd h (fun h=>by rcases h with h|h;omega;rw [h] at g2;cases g2)
theorem TCom_err (s : ByteArray) (a : List Edt) (hs : ¬ 2000 < s.size) (ha : heavyB a = false) {at_ n : Int} (hp : xJ s = .inl (at_,n)) : qX Tryz.prog 7 [is s,.one (.sl rEdt a)] (ib true):=by
  have hva:=heavy_c a;rw [ha] at hva;have hl:=of_err s (by omega) hp;refine qW (rs:=[4]) Tryz.func7 rfl rfl rfl teOk rfl ?_;refine qD ?_;refine qB ?_;refine qD ?_;refine qD ?_;refine qB ?_;refine Or.inl ?_;refine zai (rfl) ?_;refine zei _ (zai (alive17_c) ?_);refine qM rfl (fun h19=>?_) (fun h19=>?_)
  ·try simp only [Bool.not_eq_true'] at h19
   try simp only [zds] at h19
   simp at h19
  ·try simp only [Bool.not_eq_false'] at h19
   try simp only [zds] at h19
   refine qO ?_;refine qD ?_;refine qD ?_;refine qB ?_;refine zai (fun h=>trivial) ?_;refine Or.inl ?_;refine zai (rfl) ?_;refine zei _ (zai (fun h=>⟨⟨⟨h,trivial⟩,trivial⟩,hva⟩) ?_);refine zai (by first|(intro h;rw [h];rfl)|(intro h;cases h)) ?_;refine qM rfl (fun h26=>?_) (fun h26=>?_)
   ·try simp only [decide_eq_true_eq,Bool.or_eq_true] at h26
    try simp only [zds] at h26
    exfalso
    simp at h26;omega
   ·try simp only [decide_eq_false_iff_not,Bool.or_eq_false_iff,Int.not_lt] at h26
    try simp only [zds] at h26
    refine qO ?_;refine qD ?_;refine qB ?_;refine Or.inl ?_;refine zai (rfl) ?_;refine zei _ (zai (hl) ?_);refine qD ?_;refine qD ?_;refine qB ?_;refine qM rfl (fun h33=>?_) (fun h33=>?_)
    ·skip
     refine qD ?_;refine qB ?_;refine qN ?_;rfl
    ·try simp only [zbq] at h33
     try simp only [zds] at h33
     simp at h33
theorem TCom_zero (s : ByteArray) (a : List Edt) (hs : ¬ 2000 < s.size) (ha : heavyB a = false) {l : List Itm} (hp : xJ s = .inr l) (h1 : (runT [(ofT l,[])] a a.length).length = 1) : qX Tryz.prog 7 [is s,.one (.sl rEdt a)] (ib true):=by
  have hva:=heavy_c a;rw [ha] at hva;obtain ⟨hsa,hma⟩:=heavy_ok ha;have hl:=of_ok s (by omega) hp;have hlk:=of_lok (by omega) hp;have hgd:=ofT_gd hp;obtain ⟨L,hL⟩ : ∃ L,ofT l = L:=⟨_,rfl⟩;rw [hL] at hlk hgd hl h1;have hLl:=hlk.len;have hLs:=hgd.sz;have htx:=textL_c (k:=1) L.1 L.2.1 L.2.2 (by omega) hlk.f1 (txt_ok (by omega) (by omega));have hbe:=(tbegin_o (k:=1) L (by omega)).x;have hch0:=(xM.start (L0:=L)).run hma;have hchE:=hch0 a.length (Nat.le_refl _);obtain ⟨l1,l2,l3,l4⟩:=hchE.last;obtain ⟨sts,hsts⟩ : ∃ sts,runT [(L,[])] a a.length = sts:=⟨_,rfl⟩;rw [hsts] at h1 hchE l1 l2 l3 l4;have hes : (xX sts).2 = []:=List.length_eq_zero_iff.1 (by omega);rw [hes] at l1;have hls:=(tlist_o (k:=1) sts L [] (by omega) (show xX sts = (L,[]) from Prod.ext l1 hes) (by omega)).x;have hcm:=tcommit0_o sts h1;refine qW (rs:=[4]) Tryz.func7 rfl rfl rfl teOk rfl ?_;refine qD ?_;refine qB ?_;refine qD ?_;refine qD ?_;refine qB ?_;refine Or.inl ?_;refine zai (rfl) ?_;refine zei _ (zai (alive17_c) ?_);refine qM rfl (fun h19=>?_) (fun h19=>?_)
  ·try simp only [Bool.not_eq_true'] at h19
   try simp only [zds] at h19
   simp at h19
  ·try simp only [Bool.not_eq_false'] at h19
   try simp only [zds] at h19
   refine qO ?_;refine qD ?_;refine qD ?_;refine qB ?_;refine zai (fun h=>trivial) ?_;refine Or.inl ?_;refine zai (rfl) ?_;refine zei _ (zai (fun h=>⟨⟨⟨h,trivial⟩,trivial⟩,hva⟩) ?_);refine zai (by first|(intro h;rw [h];rfl)|(intro h;cases h)) ?_;refine qM rfl (fun h26=>?_) (fun h26=>?_)
   ·try simp only [decide_eq_true_eq,Bool.or_eq_true] at h26
    try simp only [zds] at h26
    exfalso
    simp at h26;omega
   ·try simp only [decide_eq_false_iff_not,Bool.or_eq_false_iff,Int.not_lt] at h26
    try simp only [zds] at h26
    refine qO ?_;refine qD ?_;refine qB ?_;refine Or.inr (Or.inl (zei [] (zei [] (zei _ (zei _ (zei _ (zei _ (zei _ (zai (hl) (zai rfl (zai True.intro (zai rfl ?_))))))))))));refine qD ?_;refine qD ?_;refine qB ?_;refine qM rfl (fun h33=>?_) (fun h33=>?_)
    ·try simp only [Bool.not_eq_true'] at h33
     try simp only [zds] at h33
     simp at h33
    ·try simp only [Bool.not_eq_false'] at h33
     try simp only [zds] at h33
     refine qO ?_;refine qD ?_;refine qB ?_;refine Or.inr (Or.inr (Or.inr (zei [] (zei [] (zei _ (zei _ (zei _ (zei _ (zei _ (zai (hbe) (zai rfl (zai True.intro (zai rfl ?_)))))))))))));refine qD ?_;refine qD ?_;refine qB ?_;refine qM rfl (fun h40=>?_) (fun h40=>?_)
     ·try simp only [Bool.not_eq_true'] at h40
      try simp only [zds] at h40
      simp at h40
     ·try simp only [Bool.not_eq_false'] at h40
      try simp only [zds] at h40
      refine qO ?_;refine qD ?_;refine qD ?_;refine qB ?_;intro l11_1
      try simp only [zds] at l11_1
      refine qQ ?_;refine yI (fun (i : Nat)=>i ≤ a.length) (fun (i : Nat)=>[(5,.one (.own 0 0)),(7,.one (.own 5 0)),(41,.one (.sl rEdt a)),(42,ii .i64 a.length),(43,ii .i64 i)]) (fun (i : Nat)=>[(0,.box 134 [.vec 1,.lit (.int .i64 L.2.1),.lit (.int .i64 L.2.2)]),(1,.vec 138 rEnt L.1),(5,.box 123 [.vec 4]),(4,.vec 120 rSt (runT [(L,[])] a i))]) 6 (fun (i : Nat)=>a.length - i) 0 (Nat.zero_le _) (qP ⟨rfl,rfl,rfl,rfl,rfl⟩ ⟨rfl,rfl,rfl,rfl⟩ rfl) ?_;intro i hI0;have hch:=hch0 i hI0;refine qD ?_;refine qB ?_;refine qD ?_;refine qM rfl (fun h44=>?_) (fun h44=>?_)
      ·try simp only [decide_eq_true_eq] at h44
       try simp only [zds] at h44
       have hil : i < a.length:=(by omega);have hsn:=runT_snoc [(L,[])] hil;have hfe:=much_ok (hma _ (yY hil ((0 : Int),(0 : Int),([] : List Fld))));refine qO ?_;refine qD ?_;refine qQ ?_;refine qD ?_;refine qB ?_;refine zai (by first|omega|assumption|decide|(simp only [zds];omega)|(simp <;> omega)) ?_;refine qD ?_;refine qB ?_;refine qQ ?_;refine qD ?_;refine qB ?_;refine qM rfl (fun h49=>?_) (fun h49=>?_)
       ·try simp only [decide_eq_true_eq] at h49
        try simp only [Int.toNat_natCast,qJ,qI,qF] at h49
        refine qB ?_;refine Or.inr (Or.inl (zei [] (zei [5,4] (zei _ (zei _ (zei _ (zei _ (zei _ (zai (tRep_any hlk (by omega) (runT [(L,[])] a i) hch (a.getD i ((0 : Int),(0 : Int),([] : List Fld))).2.1 (a.getD i ((0 : Int),(0 : Int),([] : List Fld))).2.2 hfe) (zai rfl (zai (zai (zai rfl rfl) (zai (zai rfl rfl) True.intro)) (zai rfl ?_))))))))))));refine qB ?_;refine zai (by first|omega|assumption|decide|(simp only [zds];omega)|(simp <;> omega)) ?_;exact ⟨i + 1,by omega,by first|omega|(simp <;> omega),qP ⟨rfl,rfl,rfl,rfl,(yV (by omega))⟩ ⟨rfl,rfl,rfl,(qR (by rw [hsn];first|rw [act1 h49]|rw [act2 h57]|rw [act3 h63]|rw [act4 h74]|rw [act0 h49 h57 h63 h74]))⟩ rfl⟩
       ·try simp only [decide_eq_false_iff_not] at h49
        try simp only [Int.toNat_natCast,qJ,qI,qF] at h49
        refine qD ?_;refine qB ?_;refine qM rfl (fun h57=>?_) (fun h57=>?_)
        ·try simp only [decide_eq_true_eq] at h57
         try simp only [Int.toNat_natCast,qJ,qI,qF] at h57
         refine qB ?_;refine Or.inr (Or.inl (zei [] (zei [5,4] (zei _ (zei _ (zei _ (zei _ (zei _ (zai (tDel_any hlk (by omega) (runT [(L,[])] a i) hch (a.getD i ((0 : Int),(0 : Int),([] : List Fld))).2.1) (zai rfl (zai (zai (zai rfl rfl) (zai (zai rfl rfl) True.intro)) (zai rfl ?_))))))))))));refine qB ?_;refine zai (by first|omega|assumption|decide|(simp only [zds];omega)|(simp <;> omega)) ?_;exact ⟨i + 1,by omega,by first|omega|(simp <;> omega),qP ⟨rfl,rfl,rfl,rfl,(yV (by omega))⟩ ⟨rfl,rfl,rfl,(qR (by rw [hsn];first|rw [act1 h49]|rw [act2 h57]|rw [act3 h63]|rw [act4 h74]|rw [act0 h49 h57 h63 h74]))⟩ rfl⟩
        ·try simp only [decide_eq_false_iff_not] at h57
         try simp only [Int.toNat_natCast,qJ,qI,qF] at h57
         refine qD ?_;refine qB ?_;refine qM rfl (fun h63=>?_) (fun h63=>?_)
         ·try simp only [decide_eq_true_eq] at h63
          try simp only [Int.toNat_natCast,qJ,qI,qF] at h63
          rcases tIns_cases hlk (by omega) (runT [(L,[])] a i) hch (a.getD i ((0 : Int),(0 : Int),([] : List Fld))).2.1 (a.getD i ((0 : Int),(0 : Int),([] : List Fld))).2.2 hfe with ⟨n9,hin⟩|⟨k9,hin⟩|⟨a9,k9,hin⟩
          ·refine qB ?_;refine Or.inr (Or.inl (zei [] (zei [5,4] (zei _ (zei _ (zei _ (zei _ (zei _ (zai (hin) (zai rfl (zai (zai (zai rfl rfl) (zai (zai rfl rfl) True.intro)) (zai rfl ?_))))))))))));refine qB ?_;refine zai (by first|omega|assumption|decide|(simp only [zds];omega)|(simp <;> omega)) ?_;exact ⟨i + 1,by omega,by first|omega|(simp <;> omega),qP ⟨rfl,rfl,rfl,rfl,(yV (by omega))⟩ ⟨rfl,rfl,rfl,(qR (by rw [hsn];first|rw [act1 h49]|rw [act2 h57]|rw [act3 h63]|rw [act4 h74]|rw [act0 h49 h57 h63 h74]))⟩ rfl⟩
          ·refine qB ?_;refine Or.inr (Or.inl (zei [] (zei [5,4] (zei _ (zei _ (zei _ (zei _ (zei _ (zai (hin) (zai rfl (zai (zai (zai rfl rfl) (zai (zai rfl rfl) True.intro)) (zai rfl ?_))))))))))));refine qB ?_;refine zai (by first|omega|assumption|decide|(simp only [zds];omega)|(simp <;> omega)) ?_;exact ⟨i + 1,by omega,by first|omega|(simp <;> omega),qP ⟨rfl,rfl,rfl,rfl,(yV (by omega))⟩ ⟨rfl,rfl,rfl,(qR (by rw [hsn];first|rw [act1 h49]|rw [act2 h57]|rw [act3 h63]|rw [act4 h74]|rw [act0 h49 h57 h63 h74]))⟩ rfl⟩
          ·refine qB ?_;refine Or.inr (Or.inl (zei [] (zei [5,4] (zei _ (zei _ (zei _ (zei _ (zei _ (zai (hin) (zai rfl (zai (zai (zai rfl rfl) (zai (zai rfl rfl) True.intro)) (zai rfl ?_))))))))))));refine qB ?_;refine zai (by first|omega|assumption|decide|(simp only [zds];omega)|(simp <;> omega)) ?_;exact ⟨i + 1,by omega,by first|omega|(simp <;> omega),qP ⟨rfl,rfl,rfl,rfl,(yV (by omega))⟩ ⟨rfl,rfl,rfl,(qR (by rw [hsn];first|rw [act1 h49]|rw [act2 h57]|rw [act3 h63]|rw [act4 h74]|rw [act0 h49 h57 h63 h74]))⟩ rfl⟩
         ·try simp only [decide_eq_false_iff_not] at h63
          try simp only [Int.toNat_natCast,qJ,qI,qF] at h63
          refine qD ?_;refine qB ?_;refine qM rfl (fun h74=>?_) (fun h74=>?_)
          ·try simp only [decide_eq_true_eq] at h74
           try simp only [Int.toNat_natCast,qJ,qI,qF] at h74
           refine qB ?_;refine Or.inr (Or.inl (zei [] (zei [5,4] (zei _ (zei _ (zei _ (zei _ (zei _ (zai (tBack_any (runT [(L,[])] a i) hch (a.getD i ((0 : Int),(0 : Int),([] : List Fld))).2.1) (zai rfl (zai (zai (zai rfl rfl) (zai (zai rfl rfl) True.intro)) (zai rfl ?_))))))))))));refine qB ?_;refine zai (by first|omega|assumption|decide|(simp only [zds];omega)|(simp <;> omega)) ?_;exact ⟨i + 1,by omega,by first|omega|(simp <;> omega),qP ⟨rfl,rfl,rfl,rfl,(yV (by omega))⟩ ⟨rfl,rfl,rfl,(qR (by rw [hsn];first|rw [act1 h49]|rw [act2 h57]|rw [act3 h63]|rw [act4 h74]|rw [act0 h49 h57 h63 h74]))⟩ rfl⟩
          ·try simp only [decide_eq_false_iff_not] at h74
           try simp only [Int.toNat_natCast,qJ,qI,qF] at h74
           refine qO ?_;refine qB ?_;refine zai (by first|omega|assumption|decide|(simp only [zds];omega)|(simp <;> omega)) ?_;exact ⟨i + 1,by omega,by first|omega|(simp <;> omega),qP ⟨rfl,rfl,rfl,rfl,(yV (by omega))⟩ ⟨rfl,rfl,rfl,(qR (by rw [hsn];first|rw [act1 h49]|rw [act2 h57]|rw [act3 h63]|rw [act4 h74]|rw [act0 h49 h57 h63 h74]))⟩ rfl⟩
      ·try simp only [decide_eq_false_iff_not,Int.not_lt] at h44
       try simp only [zds] at h44
       refine yO ?_;have hie : i = a.length:=(by omega);subst hie;rw [hsts];refine qD ?_;refine qB ?_;refine Or.inr (Or.inr (Or.inr (zei [] (zei [] (zei _ (zei _ (zei _ (zei _ (zei _ (zai (hls) (zai rfl (zai True.intro (zai rfl ?_)))))))))))));refine qD ?_;refine qB ?_;refine Or.inr (Or.inl (zei [] (zei [5,4] (zei _ (zei _ (zei _ (zei _ (zei _ (zai (hcm) (zai rfl (zai (zai (zai rfl rfl) (zai (zai rfl rfl) True.intro)) (zai rfl ?_))))))))))));refine qD ?_;refine qD ?_;refine qB ?_;refine qM rfl (fun h89=>?_) (fun h89=>?_)
       ·skip
        refine qD ?_;refine qB ?_;refine Or.inr (Or.inr (Or.inl ?_));refine zai rfl ?_;refine zei _ (zai (htx) ?_);refine Or.inr (Or.inr (Or.inl ?_));refine zai rfl ?_;refine zei _ (zai (htx) ?_);refine qN ?_;exact ib_eq (by simp)
       ·try simp only [zbq] at h89
        try simp only [zds] at h89
        simp at h89
theorem TCom_ok (s : ByteArray) (a : List Edt) (hs : ¬ 2000 < s.size) (ha : heavyB a = false) {l : List Itm} (hp : xJ s = .inr l) (h1 : ¬ (runT [(ofT l,[])] a a.length).length = 1) : qX Tryz.prog 7 [is s,.one (.sl rEdt a)] (ib true):=by
  have hva:=heavy_c a;rw [ha] at hva;obtain ⟨hsa,hma⟩:=heavy_ok ha;have hl:=of_ok s (by omega) hp;have hlk:=of_lok (by omega) hp;have hgd:=ofT_gd hp;obtain ⟨L,hL⟩ : ∃ L,ofT l = L:=⟨_,rfl⟩;rw [hL] at hlk hgd hl h1;have hLl:=hlk.len;have hLs:=hgd.sz;have htx:=textL_c (k:=1) L.1 L.2.1 L.2.2 (by omega) hlk.f1 (txt_ok (by omega) (by omega));have hbe:=(tbegin_o (k:=1) L (by omega)).x;have hch0:=(xM.start (L0:=L)).run hma;have hchE:=hch0 a.length (Nat.le_refl _);obtain ⟨l1,l2,l3,l4⟩:=hchE.last;obtain ⟨sts,hsts⟩ : ∃ sts,runT [(L,[])] a a.length = sts:=⟨_,rfl⟩;rw [hsts] at h1 hchE l1 l2 l3 l4;have hlen:=hchE.len;obtain ⟨es,hes⟩ : ∃ es,(xX sts).2 = es:=⟨_,rfl⟩;rw [hes] at l1 l2 l3 l4;have hnx:=hlk.next;have hfe' : ∀ e ∈ es,yP e.2.2:=fun e he=>much_ok (l4 e he).2
  have hfl : ∀ e ∈ es,e.2.2.length ≤ 1000000:=fun e he=>Nat.le_trans (hfe' e he).1 (by decide)
  have hce : (chkB es).2 = 0:=by rw [chkB_no (by omega) fun e he=>(l4 e he).1]
  have hsq:=sqz_yes (next:=L.2.1) (l:=es) (by omega);have hzf:=mem_sqz (next:=L.2.1) hfe';have hzl:=sqz_le L.2.1 es;have hzg : ∀ e ∈ sqz L.2.1 es,xR e = 0:=by rw [hsq];exact good_fate fun e he=>(l4 e he).1
  have hz1 : sqz L.2.1 es ≠ []:=by rw [hsq];exact sq_some (List.ne_nil_of_length_pos (by omega))
  have hz2:=List.length_pos_iff.2 hz1;have hcz : (chkB (sqz L.2.1 es)).2 = 0:=by rw [chkB_no (by omega) hzg]
  obtain ⟨hr1,hr2⟩:=sim_run es hlk (Int.le_refl _) (SimS.start es L fun e he=>(hlk.ids e he).2) l3 (fun e he=>⟨(l4 e he).1,hfe' e he⟩);rw [← hsq] at hr1 hr2;have hdx:=(doOk_o (κ:=0) (κ':=0) (k:=1) L es hlk (by omega) hfe' hce (takes_to _ _ l3)).x;have hdy:=(doOk_o (κ:=0) (κ':=0) (k:=1) L (sqz L.2.1 es) hlk (by omega) hzf hcz (takes_to _ _ hr1)).x;have hpl:=run_ok hlk hfe';have hpg:=plays_gd hlk hgd (fun e he=>(l4 e he).2) es.length (Nat.le_refl _);rw [run_plays] at hdx hdy hpg;rw [hr2] at hdy;have hls:=(tlist_o (k:=1) sts (runL L es) es (by omega) (show xX sts = (runL L es,es) from Prod.ext l1 hes) (by have:=hpl.len;omega)).x;have hcm:=tcommit_o sts (runL L es) es (by omega) (show xX sts = (runL L es,es) from Prod.ext l1 hes) hfl (by omega);obtain ⟨W,hW⟩ : ∃ W,runL L es = W:=⟨_,rfl⟩;rw [hW] at hdx hdy hpl hpg hls;have hWl:=hpl.len;have hWs:=hpg.sz;have htw:=textL_c (k:=1) W.1 W.2.1 W.2.2 (by omega) hpl.f1 (txt_ok (by omega) (by omega));have hsw:=stanzasL_c (k:=1) W.1 W.2.1 W.2.2 (by omega) hpl.f1;have hnw:=next_c (k:=1) W.1 W.2.1 W.2.2;refine qW (rs:=[4]) Tryz.func7 rfl rfl rfl teOk rfl ?_;refine qD ?_;refine qB ?_;refine qD ?_;refine qD ?_;refine qB ?_;refine Or.inl ?_;refine zai (rfl) ?_;refine zei _ (zai (alive17_c) ?_);refine qM rfl (fun h19=>?_) (fun h19=>?_)
  ·try simp only [Bool.not_eq_true'] at h19
   try simp only [zds] at h19
   simp at h19
  ·try simp only [Bool.not_eq_false'] at h19
   try simp only [zds] at h19
   refine qO ?_;refine qD ?_;refine qD ?_;refine qB ?_;refine zai (fun h=>trivial) ?_;refine Or.inl ?_;refine zai (rfl) ?_;refine zei _ (zai (fun h=>⟨⟨⟨h,trivial⟩,trivial⟩,hva⟩) ?_);refine zai (by first|(intro h;rw [h];rfl)|(intro h;cases h)) ?_;refine qM rfl (fun h26=>?_) (fun h26=>?_)
   ·try simp only [decide_eq_true_eq,Bool.or_eq_true] at h26
    try simp only [zds] at h26
    exfalso
    simp at h26;omega
   ·try simp only [decide_eq_false_iff_not,Bool.or_eq_false_iff,Int.not_lt] at h26
    try simp only [zds] at h26
    refine qO ?_;refine qD ?_;refine qB ?_;refine Or.inr (Or.inl (zei [] (zei [] (zei _ (zei _ (zei _ (zei _ (zei _ (zai (hl) (zai rfl (zai True.intro (zai rfl ?_))))))))))));refine qD ?_;refine qD ?_;refine qB ?_;refine qM rfl (fun h33=>?_) (fun h33=>?_)
    ·try simp only [Bool.not_eq_true'] at h33
     try simp only [zds] at h33
     simp at h33
    ·try simp only [Bool.not_eq_false'] at h33
     try simp only [zds] at h33
     refine qO ?_;refine qD ?_;refine qB ?_;refine Or.inr (Or.inr (Or.inr (zei [] (zei [] (zei _ (zei _ (zei _ (zei _ (zei _ (zai (hbe) (zai rfl (zai True.intro (zai rfl ?_)))))))))))));refine qD ?_;refine qD ?_;refine qB ?_;refine qM rfl (fun h40=>?_) (fun h40=>?_)
     ·try simp only [Bool.not_eq_true'] at h40
      try simp only [zds] at h40
      simp at h40
     ·try simp only [Bool.not_eq_false'] at h40
      try simp only [zds] at h40
      refine qO ?_;refine qD ?_;refine qD ?_;refine qB ?_;intro l11_1
      try simp only [zds] at l11_1
      refine qQ ?_;refine yI (fun (i : Nat)=>i ≤ a.length) (fun (i : Nat)=>[(5,.one (.own 0 0)),(7,.one (.own 5 0)),(41,.one (.sl rEdt a)),(42,ii .i64 a.length),(43,ii .i64 i)]) (fun (i : Nat)=>[(0,.box 134 [.vec 1,.lit (.int .i64 L.2.1),.lit (.int .i64 L.2.2)]),(1,.vec 138 rEnt L.1),(5,.box 123 [.vec 4]),(4,.vec 120 rSt (runT [(L,[])] a i))]) 6 (fun (i : Nat)=>a.length - i) 0 (Nat.zero_le _) (qP ⟨rfl,rfl,rfl,rfl,rfl⟩ ⟨rfl,rfl,rfl,rfl⟩ rfl) ?_;intro i hI0;have hch:=hch0 i hI0;refine qD ?_;refine qB ?_;refine qD ?_;refine qM rfl (fun h44=>?_) (fun h44=>?_)
      ·try simp only [decide_eq_true_eq] at h44
       try simp only [zds] at h44
       have hil : i < a.length:=(by omega);have hsn:=runT_snoc [(L,[])] hil;have hfe:=much_ok (hma _ (yY hil ((0 : Int),(0 : Int),([] : List Fld))));refine qO ?_;refine qD ?_;refine qQ ?_;refine qD ?_;refine qB ?_;refine zai (by first|omega|assumption|decide|(simp only [zds];omega)|(simp <;> omega)) ?_;refine qD ?_;refine qB ?_;refine qQ ?_;refine qD ?_;refine qB ?_;refine qM rfl (fun h49=>?_) (fun h49=>?_)
       ·try simp only [decide_eq_true_eq] at h49
        try simp only [Int.toNat_natCast,qJ,qI,qF] at h49
        refine qB ?_;refine Or.inr (Or.inl (zei [] (zei [5,4] (zei _ (zei _ (zei _ (zei _ (zei _ (zai (tRep_any hlk (by omega) (runT [(L,[])] a i) hch (a.getD i ((0 : Int),(0 : Int),([] : List Fld))).2.1 (a.getD i ((0 : Int),(0 : Int),([] : List Fld))).2.2 hfe) (zai rfl (zai (zai (zai rfl rfl) (zai (zai rfl rfl) True.intro)) (zai rfl ?_))))))))))));refine qB ?_;refine zai (by first|omega|assumption|decide|(simp only [zds];omega)|(simp <;> omega)) ?_;exact ⟨i + 1,by omega,by first|omega|(simp <;> omega),qP ⟨rfl,rfl,rfl,rfl,(yV (by omega))⟩ ⟨rfl,rfl,rfl,(qR (by rw [hsn];first|rw [act1 h49]|rw [act2 h57]|rw [act3 h63]|rw [act4 h74]|rw [act0 h49 h57 h63 h74]))⟩ rfl⟩
       ·try simp only [decide_eq_false_iff_not] at h49
        try simp only [Int.toNat_natCast,qJ,qI,qF] at h49
        refine qD ?_;refine qB ?_;refine qM rfl (fun h57=>?_) (fun h57=>?_)
        ·try simp only [decide_eq_true_eq] at h57
         try simp only [Int.toNat_natCast,qJ,qI,qF] at h57
         refine qB ?_;refine Or.inr (Or.inl (zei [] (zei [5,4] (zei _ (zei _ (zei _ (zei _ (zei _ (zai (tDel_any hlk (by omega) (runT [(L,[])] a i) hch (a.getD i ((0 : Int),(0 : Int),([] : List Fld))).2.1) (zai rfl (zai (zai (zai rfl rfl) (zai (zai rfl rfl) True.intro)) (zai rfl ?_))))))))))));refine qB ?_;refine zai (by first|omega|assumption|decide|(simp only [zds];omega)|(simp <;> omega)) ?_;exact ⟨i + 1,by omega,by first|omega|(simp <;> omega),qP ⟨rfl,rfl,rfl,rfl,(yV (by omega))⟩ ⟨rfl,rfl,rfl,(qR (by rw [hsn];first|rw [act1 h49]|rw [act2 h57]|rw [act3 h63]|rw [act4 h74]|rw [act0 h49 h57 h63 h74]))⟩ rfl⟩
        ·try simp only [decide_eq_false_iff_not] at h57
         try simp only [Int.toNat_natCast,qJ,qI,qF] at h57
         refine qD ?_;refine qB ?_;refine qM rfl (fun h63=>?_) (fun h63=>?_)
         ·try simp only [decide_eq_true_eq] at h63
          try simp only [Int.toNat_natCast,qJ,qI,qF] at h63
          rcases tIns_cases hlk (by omega) (runT [(L,[])] a i) hch (a.getD i ((0 : Int),(0 : Int),([] : List Fld))).2.1 (a.getD i ((0 : Int),(0 : Int),([] : List Fld))).2.2 hfe with ⟨n9,hin⟩|⟨k9,hin⟩|⟨a9,k9,hin⟩
          ·refine qB ?_;refine Or.inr (Or.inl (zei [] (zei [5,4] (zei _ (zei _ (zei _ (zei _ (zei _ (zai (hin) (zai rfl (zai (zai (zai rfl rfl) (zai (zai rfl rfl) True.intro)) (zai rfl ?_))))))))))));refine qB ?_;refine zai (by first|omega|assumption|decide|(simp only [zds];omega)|(simp <;> omega)) ?_;exact ⟨i + 1,by omega,by first|omega|(simp <;> omega),qP ⟨rfl,rfl,rfl,rfl,(yV (by omega))⟩ ⟨rfl,rfl,rfl,(qR (by rw [hsn];first|rw [act1 h49]|rw [act2 h57]|rw [act3 h63]|rw [act4 h74]|rw [act0 h49 h57 h63 h74]))⟩ rfl⟩
          ·refine qB ?_;refine Or.inr (Or.inl (zei [] (zei [5,4] (zei _ (zei _ (zei _ (zei _ (zei _ (zai (hin) (zai rfl (zai (zai (zai rfl rfl) (zai (zai rfl rfl) True.intro)) (zai rfl ?_))))))))))));refine qB ?_;refine zai (by first|omega|assumption|decide|(simp only [zds];omega)|(simp <;> omega)) ?_;exact ⟨i + 1,by omega,by first|omega|(simp <;> omega),qP ⟨rfl,rfl,rfl,rfl,(yV (by omega))⟩ ⟨rfl,rfl,rfl,(qR (by rw [hsn];first|rw [act1 h49]|rw [act2 h57]|rw [act3 h63]|rw [act4 h74]|rw [act0 h49 h57 h63 h74]))⟩ rfl⟩
          ·refine qB ?_;refine Or.inr (Or.inl (zei [] (zei [5,4] (zei _ (zei _ (zei _ (zei _ (zei _ (zai (hin) (zai rfl (zai (zai (zai rfl rfl) (zai (zai rfl rfl) True.intro)) (zai rfl ?_))))))))))));refine qB ?_;refine zai (by first|omega|assumption|decide|(simp only [zds];omega)|(simp <;> omega)) ?_;exact ⟨i + 1,by omega,by first|omega|(simp <;> omega),qP ⟨rfl,rfl,rfl,rfl,(yV (by omega))⟩ ⟨rfl,rfl,rfl,(qR (by rw [hsn];first|rw [act1 h49]|rw [act2 h57]|rw [act3 h63]|rw [act4 h74]|rw [act0 h49 h57 h63 h74]))⟩ rfl⟩
         ·try simp only [decide_eq_false_iff_not] at h63
          try simp only [Int.toNat_natCast,qJ,qI,qF] at h63
          refine qD ?_;refine qB ?_;refine qM rfl (fun h74=>?_) (fun h74=>?_)
          ·try simp only [decide_eq_true_eq] at h74
           try simp only [Int.toNat_natCast,qJ,qI,qF] at h74
           refine qB ?_;refine Or.inr (Or.inl (zei [] (zei [5,4] (zei _ (zei _ (zei _ (zei _ (zei _ (zai (tBack_any (runT [(L,[])] a i) hch (a.getD i ((0 : Int),(0 : Int),([] : List Fld))).2.1) (zai rfl (zai (zai (zai rfl rfl) (zai (zai rfl rfl) True.intro)) (zai rfl ?_))))))))))));refine qB ?_;refine zai (by first|omega|assumption|decide|(simp only [zds];omega)|(simp <;> omega)) ?_;exact ⟨i + 1,by omega,by first|omega|(simp <;> omega),qP ⟨rfl,rfl,rfl,rfl,(yV (by omega))⟩ ⟨rfl,rfl,rfl,(qR (by rw [hsn];first|rw [act1 h49]|rw [act2 h57]|rw [act3 h63]|rw [act4 h74]|rw [act0 h49 h57 h63 h74]))⟩ rfl⟩
          ·try simp only [decide_eq_false_iff_not] at h74
           try simp only [Int.toNat_natCast,qJ,qI,qF] at h74
           refine qO ?_;refine qB ?_;refine zai (by first|omega|assumption|decide|(simp only [zds];omega)|(simp <;> omega)) ?_;exact ⟨i + 1,by omega,by first|omega|(simp <;> omega),qP ⟨rfl,rfl,rfl,rfl,(yV (by omega))⟩ ⟨rfl,rfl,rfl,(qR (by rw [hsn];first|rw [act1 h49]|rw [act2 h57]|rw [act3 h63]|rw [act4 h74]|rw [act0 h49 h57 h63 h74]))⟩ rfl⟩
      ·try simp only [decide_eq_false_iff_not,Int.not_lt] at h44
       try simp only [zds] at h44
       refine yO ?_;have hie : i = a.length:=(by omega);subst hie;rw [hsts];refine qD ?_;refine qB ?_;refine Or.inr (Or.inr (Or.inr (zei [] (zei [] (zei _ (zei _ (zei _ (zei _ (zei _ (zai (hls) (zai rfl (zai True.intro (zai rfl ?_)))))))))))));refine qD ?_;refine qB ?_;refine Or.inr (Or.inl (zei [] (zei [5,4] (zei _ (zei _ (zei _ (zei _ (zei _ (zai (hcm) (zai rfl (zai (zai (zai rfl rfl) (zai (zai rfl rfl) True.intro)) (zai rfl ?_))))))))))));refine qD ?_;refine qD ?_;refine qB ?_;refine qM rfl (fun h89=>?_) (fun h89=>?_)
       ·try simp only [Bool.not_eq_true'] at h89
        try simp only [zds] at h89
        simp at h89
       ·try simp only [Bool.not_eq_false'] at h89
        try simp only [zds] at h89
        refine qO ?_;refine qD ?_;refine qB ?_;refine Or.inr (Or.inr (Or.inl ?_));refine zai rfl ?_;refine zei _ (zai (next_c L.1 L.2.1 L.2.2) ?_);refine Or.inr (Or.inr (Or.inl ?_));refine zai rfl ?_;refine zei _ (zai (squeeze_c (κ:=0) (κ':=0) L.2.1 es hfl (by omega)) ?_);refine qD ?_;refine qB ?_;refine Or.inr (Or.inr (Or.inr (zei [] (zei [] (zei _ (zei _ (zei _ (zei _ (zei _ (zai (hdx) (zai rfl (zai True.intro (zai rfl ?_)))))))))))));refine qD ?_;refine qB ?_;refine Or.inr (Or.inr (Or.inr (zei [] (zei [] (zei _ (zei _ (zei _ (zei _ (zei _ (zai (hdy) (zai rfl (zai True.intro (zai rfl ?_)))))))))))));refine qD ?_;refine qB ?_;refine zai (fun h=>trivial) ?_;refine zai (fun h=>⟨⟨h,trivial⟩,trivial⟩) ?_;refine zai (by exact fun h=>h) ?_;refine zai (fun h=>trivial) ?_;refine zai (fun h=>⟨⟨h,trivial⟩,trivial⟩) ?_;refine zai (fun h=>trivial) ?_;refine zai (fun h=>⟨⟨h,trivial⟩,trivial⟩) ?_;refine zai (fun h=>⟨⟨h,trivial⟩,⟨h,trivial⟩,trivial⟩) ?_;refine zai (by exact fun h=>h) ?_;refine zai (fun h=>trivial) ?_;refine Or.inr (zai (by simp [gq,hzl]) (zai (by repeat' (first|exact True.intro|apply zai|rfl|(simp [gq,hzl];done))) ?_));refine Or.inr (Or.inr (Or.inl ?_));refine zai rfl ?_;refine zei _ (zai (htw) ?_);refine zai (fun h=>trivial) ?_;refine Or.inr (zai (by simp [gq,hzl]) (zai (by repeat' (first|exact True.intro|apply zai|rfl|(simp [gq,hzl];done))) ?_));refine Or.inr (Or.inr (Or.inl ?_));refine zai rfl ?_;refine zei _ (zai (htw) ?_);refine zai (fun h=>trivial) ?_;refine zai (by exact fun h=>h) ?_;refine zai (fun h=>trivial) ?_;refine Or.inr (zai (by simp [gq,hzl]) (zai (by repeat' (first|exact True.intro|apply zai|rfl|(simp [gq,hzl];done))) ?_));refine Or.inr (Or.inr (Or.inl ?_));refine zai rfl ?_;refine zei _ (zai (htw) ?_);refine zai (fun h=>trivial) ?_;refine Or.inr (zai (by simp [gq,hzl]) (zai (by repeat' (first|exact True.intro|apply zai|rfl|(simp [gq,hzl];done))) ?_));refine Or.inr (Or.inr (Or.inl ?_));refine zai rfl ?_;refine zei _ (zai (htw) ?_);refine zai (fun h=>trivial) ?_;refine zai (by exact fun h=>h) ?_;refine zai (fun h=>trivial) ?_;refine Or.inr (zai (by simp [gq,hzl]) (zai (by repeat' (first|exact True.intro|apply zai|rfl|(simp [gq,hzl];done))) ?_));refine Or.inr (Or.inr (Or.inl ?_));refine zai rfl ?_;refine zei _ (zai (hnw) ?_);refine zai (fun h=>trivial) ?_;refine Or.inr (zai (by simp [gq,hzl]) (zai (by repeat' (first|exact True.intro|apply zai|rfl|(simp [gq,hzl];done))) ?_));refine Or.inr (Or.inr (Or.inl ?_));refine zai rfl ?_;refine zei _ (zai (hnw) ?_);refine zai (fun h=>trivial) ?_;refine zai (by exact fun h=>h) ?_;refine zai (fun h=>trivial) ?_;refine Or.inr (zai (by simp [gq,hzl]) (zai (by repeat' (first|exact True.intro|apply zai|rfl|(simp [gq,hzl];done))) ?_));refine Or.inr (Or.inr (Or.inl ?_));refine zai rfl ?_;refine zei _ (zai (hsw) ?_);refine zai (fun h=>trivial) ?_;refine Or.inr (zai (by simp [gq,hzl]) (zai (by repeat' (first|exact True.intro|apply zai|rfl|(simp [gq,hzl];done))) ?_));refine Or.inr (Or.inr (Or.inl ?_));refine zai rfl ?_;refine zei _ (zai (hsw) ?_);refine Or.inr (zai (by simp [gq,hzl]) (zai (by repeat' (first|exact True.intro|apply zai|rfl|(simp [gq,hzl];done))) ?_));refine Or.inr (Or.inr (Or.inl ?_));refine zai rfl ?_;refine zei _ (zai (stz7_c (κ:=0) (κ':=0) _ _) ?_);refine qN ?_;exact ib_eq (by simp [hzl])
theorem TxnCommits_c (s : ByteArray) (a : List Edt) : qX Tryz.prog 7 [is s,.one (.sl rEdt a)] (ib true):=by
  by_cases h : 2000 < s.size ∨ heavyB a = true
  · exact TCom_big s a h
  · have hs : ¬ 2000 < s.size:=fun e=>h (.inl e)
    have ha : heavyB a = false:=by simpa using fun e=>h (.inr e)
    rcases hp : xJ s with ⟨i,n⟩|l
    · exact TCom_err s a hs ha hp
    · by_cases h0 : (runT [(ofT l,[])] a a.length).length = 1
      · exact TCom_zero s a hs ha hp h0
      · exact TCom_ok s a hs ha hp h0
end Q
end Ab
end Go.Proofs.YtojipboabgebfaaGreatDoor
namespace Go.Proofs.YtojipboabgebfaaGreatDoor
open Go.RowKit
namespace Ab
set_option maxRecDepth 100000
theorem o_str : Opens Tryz.prog 9 .str:=opens_str Tryz.underlying9 (by kernel_rfl)
theorem o_int : Opens Tryz.prog 3 (.int .i64):=opens_int Tryz.underlying3 (by kernel_rfl)
theorem o_field : Opens Tryz.prog 107 (.st .str .str):=opens_st Tryz.underlying107 (by kernel_rfl) (.cons rfl o_str (.one rfl o_str))
theorem o_fields : Opens Tryz.prog 29 (.sl (.st .str .str)):=opens_sl (by decide) Tryz.underlying29 (by kernel_rfl) o_field
theorem maxAt {W : World} (h : W.ShapedOpen Tryz.prog) : MaxCell W:=cell_of_shapedOpen_int (g:=1) (t:=3) (zero:=#[.int .i64 0]) h (of_decide_eq_true (by kernel_rfl)) (by kernel_rfl) rfl (by kernel_rfl) (by kernel_rfl) Tryz.underlying3
theorem lt_of_cell0 {W : World} {b : Nat} {v : Value} (h : W.cell? ⟨b,0,none⟩ = some v) : b < W.heap.size:=by
  rcases Nat.lt_or_ge b W.heap.size with h1|h1
  · exact h1
  · exfalso
    simp only [World.cell?,Array.getElem?_eq_none h1] at h;cases h
theorem o_edit : Opens Tryz.prog 31 (.st (.int .i64) (.st (.int .i64) (.sl (.st .str .str)))):=opens_st Tryz.underlying31 (by kernel_rfl) (.cons rfl o_int (.cons rfl o_int (.one rfl o_fields)))
theorem o_edits : Opens Tryz.prog 22 (.sl (.st (.int .i64) (.st (.int .i64) (.sl (.st .str .str))))):=opens_sl (by decide) Tryz.underlying22 (by kernel_rfl) o_edit
theorem open_edits {H : Type} {enc : TypeId × Value → H} {W : World} {base : Nat} {v : Value} {d : DataW H} {p : List MemPlace} (hv : Value.okWide Tryz.prog W .any base 22 v) (h : DataW.Trod enc Tryz.prog W 0 (fun _=>true) true 22 v d p) :
    ∃ xs,(C.sl (.st (.int .i64) (.st (.int .i64) (.sl (.st .str .str)))) xs).rep AllOk yK W v:=open_sl Tryz.underlying22 o_edits hv h
theorem et : Tryz.prog.globalNamed "errors.errorType" = some 0 := by kernel_rfl
theorem rt : (Tryz.prog.cutTypes.find? (·.1 == "internal/reflectlite.rtype")).map (·.2) = some 311 := by kernel_rfl
theorem oneRow : ((List.range Tryz.prog.types.size).filter fun t=>Tryz.prog.rowNamed t [101,114,114,111,114]) = [37]:=by kernel_rfl
theorem errHandle : typeHandle Tryz.prog 37 = .pointer (some ⟨3 + 1,37,none⟩):=by kernel_rfl
abbrev errDatum : String × DataW Unit := ("errors.errorType", .iface "internal/reflectlite.rtype" (.agg [.ptr (.lit (.string [101, 114, 114, 111, 114]))]))
theorem errAt {W : World} {l : List (String × DataW Unit)} (hm : errDatum ∈ l) (h : laidMetH Tryz.prog l W) : W.cell? ⟨0,0,none⟩ = some (.iface 311 (.agg #[.pointer (some ⟨3 + 1,37,none⟩)])):=by
  obtain ⟨name,u,ty,e1,e2,e3,e4,e5⟩:=(laidMetH_iff.1 h).2 _ (List.mem_filter.2 ⟨hm,rfl⟩);have en : name = [101,114,114,111,114]:=(Option.some.inj e1).symm;subst en;obtain rfl:=Option.some.inj (rt.symm.trans e2);have hm : ty ∈ (List.range Tryz.prog.types.size).filter fun t=>Tryz.prog.rowNamed t [101,114,114,111,114]:=List.mem_filter.2 ⟨List.mem_range.2 e3,e4⟩
  rw [oneRow] at hm;obtain rfl:=List.mem_singleton.1 hm;rw [errHandle] at e5
  simpa using World.var?_cell et e5 0
theorem globAtH {W : World} (h : W.ShapedOpen Tryz.prog) {l : List (String × DataW Unit)} (hm : errDatum ∈ l) (hL : laidMetH Tryz.prog l W) : GlobAt AllOk W:=by
  have hc : GlobCell W:=⟨maxAt h,errAt hm hL⟩;refine ⟨fun _ _=>trivial,?_,hc⟩;obtain ⟨⟨m,h1⟩,h2⟩:=hc;have h1:=lt_of_cell0 h1;have h2:=lt_of_cell0 h2;unfold nGlob;omega
theorem laidMet_lay {P : Program} {w0 : World} {laid : List (String × DataW Unit)} (args : Array Value)
    (hf : w0.layFits P laid [] = true) (hi : w0.layIfaces P laid (w0.layVars P laid) = true) : laidMet P laid ((w0.layVars P laid).forCall (fun _ _=>0) ⟨#[],args,[]⟩).memory:=by
  have e1 : (laid.filter fun x=>(laid.map (·.1)).contains x.1) = laid:=List.filter_eq_self.2 fun x hx=>List.contains_iff_mem.2 (List.mem_map.2 ⟨x,hx,rfl⟩)
  have e2 : (laid.filter fun x=>!(laid.map (·.1)).contains x.1) = []:=List.filter_eq_nil_iff.2 fun x hx=>by rw [List.contains_iff_mem.2 (List.mem_map.2 ⟨x,hx,rfl⟩)];simp
  have h : laidMet P laid (w0.layVars P laid):=laidMet_layVars (w0:=w0) (laid.map (·.1)) [] (by rw [e1]) (by rw [e1];exact hf) (by rw [e1];exact hi) (by rw [e2];exact LaidIn.none);exact h.of_heap (by simp [World.memory,World.forCall,Input.heap])
noncomputable def errWorld (os : Os) : World :=
  let w0:=World.holding Tryz.prog os ⟨#[],#[],[]⟩
  { w0 with heap:=w0.heap.modify 0 fun
      | .cells _ t frozen=>.cells #[.iface 311 (.agg #[.pointer (some ⟨3 + 1,37,none⟩)])] t frozen
      | o=>o }
noncomputable def laidWit (os : Os) (l : List (String × DataW Unit)) : World:=(errWorld os).layVars Tryz.prog (l.filter fun x=>x.2.handleName?.isNone)
theorem laidWit_os (os : Os) (l : List (String × DataW Unit)) : (laidWit os l).os = os:=World.layVars_os _ _ _
end Ab
end Go.Proofs.YtojipboabgebfaaGreatDoor
