/-
  The texts of this proof, joined: abstract values, the library, the functions of the program and what they compute (part 7). No condition.
-/
import Derived.Shelf.Vars
import Derived.KernelRfl
import Derived.LaidHandle
import Derived.LaidSub
import Derived.LaidMore
import Derived.Lay
import Derived.FnData
import Derived.Test.YtojipboabgebfaaGreatDoorK1
import Derived.Test.YtojipboabgebfaaGreatDoorK2
import Derived.Test.YtojipboabgebfaaGreatDoorK3
import Derived.Test.YtojipboabgebfaaGreatDoorK4
import Derived.Test.YtojipboabgebfaaGreatDoorK5
import Derived.Test.YtojipboabgebfaaGreatDoorK6
namespace Go.Proofs.YtojipboabgebfaaGreatDoor
open Go.RowKit
namespace Ab
set_option maxRecDepth 100000
namespace Q
abbrev zRL9 : List C:=[.lit (.slice none 0 0),.lit (.int .i64 0)]
theorem kA {c : Nat} (L : Lst) (h : LOk c L) (hc : c ≤ 200000) (e : Edt) (hf : yO e.2.2) : qX Tryz.prog 41 [.agg (toL rRL (L.1,L.2.1)),.agg (toL rEdt e)] (.tup [(true,toL rRL ((doL L e).1,(doL L e).2.1)),(false,[.lit (.int .i64 (newN L e))]),(false,[.lit (.int .i64 (oneN L e))])]):=by
  have hln:=h.len;have hnx:=h.next;obtain ⟨g1,g2,g3⟩:=ref_one h e;have hr1:=refRep_c L.1 L.2.1 e.2.1 e.2.2 hf (by omega);have hr2:=refDel_c L.1 L.2.1 e.2.1 (by omega);have hr3:=refIns_c L.1 L.2.1 e.2.1 e.2.2 hf (by omega) (by omega);refine yV (rs:=[.cell 4 60,.tmp 5,.tmp 6]) Tryz.func41 rfl rfl rfl teOk rfl ?_;refine qB ?_;refine qJ ?_;refine qB ?_;refine qK rfl (fun h18=>?_) (fun h18=>?_)
  ·try simp only [decide_eq_true_eq] at h18
   try simp only [zds] at h18
   refine qB ?_;refine Or.inl ?_;refine zai (rfl) ?_;refine zei _ (zai (hr1) ?_);refine qB ?_;refine qM ?_;rw [← (g1 h18).1,← (g1 h18).2,show newN L e = 0 from by unfold newN;rw [if_pos (.inl h18)]];exact rfl
  ·try simp only [decide_eq_false_iff_not] at h18
   try simp only [zds] at h18
   refine qL ?_;refine qJ ?_;refine qB ?_;refine qK rfl (fun h33=>?_) (fun h33=>?_)
   ·try simp only [decide_eq_true_eq] at h33
    try simp only [zds] at h33
    refine qB ?_;refine Or.inl ?_;refine zai (rfl) ?_;refine zei _ (zai (hr2) ?_);refine qB ?_;refine qM ?_;rw [← (g2 h33).1,← (g2 h33).2,show newN L e = 0 from by unfold newN;rw [if_pos (.inr h33)]];exact rfl
   ·try simp only [decide_eq_false_iff_not] at h33
    try simp only [zds] at h33
    refine qL ?_;refine qB ?_;refine Or.inl ?_;refine zai (rfl) ?_;refine zei _ (zai (hr3) ?_);refine qB ?_;refine qM ?_;rw [← (g3 h18 h33).1,← (g3 h18 h33).2.1,← (g3 h18 h33).2.2];exact rfl
theorem refDoC_c (L : Lst) (s : List Edt) (hf : ∀ e ∈ s,yO e.2.2) (hl : s.length ≤ 1000000) (h : (chkB s).2 ≠ 0) : qX Tryz.prog 53 [.agg (toL rRL (L.1,L.2.1)),.one (.sl rEdt s)] (.tup [(true,toL rRL (L.1,L.2.1)),(false,[.lit (.slice none 0 0)]),(false,[.lit (.int .i64 (chkB s).1)]),(false,[.lit (.int .i64 (chkB s).2)])]):=by
  have hr:=refCheck9_c s hf hl;refine yV (rs:=[.cell 4 60,.tmp 5,.tmp 6,.tmp 7]) Tryz.func53 rfl rfl rfl teOk rfl ?_;refine qB ?_;refine qJ ?_;refine qB ?_;refine Or.inl ?_;refine zai (rfl) ?_;refine zei _ (zai (hr) ?_);refine qB ?_;refine qK rfl (fun h22=>?_) (fun h22=>?_)
  ·try simp only [decide_eq_false_iff_not,Bool.not_eq_true'] at h22
   try simp only [zds] at h22
   refine qB ?_;refine qM ?_;rfl
  ·try simp only [decide_eq_true_eq,Bool.not_eq_false'] at h22
   try simp only [zds] at h22
   exact absurd h22 h
theorem xF {L M : Lst} (h : M = L) : some (Ob.box 60 (toL rRL (L.1,L.2.1))) = some (Ob.box 60 (toL rRL (M.1,M.2.1))):=by rw [h]
theorem refDoBad_c {c : Nat} (L : Lst) (s : List Edt) (hL : LOk c L) (hc : c + s.length ≤ 200000) (hf : ∀ e ∈ s,yO e.2.2) (h : (chkB s).2 = 0) (q : Nat) (hq : q < s.length) (hb : oneN (yB L s q) (s.getD q ((0 : Int),(0 : Int),([] : List Fld))) ≠ 0) (ht : ∀ j,j < q → oneN (yB L s j) (s.getD j ((0 : Int),(0 : Int),([] : List Fld))) = 0) :
    qX Tryz.prog 53 [.agg (toL rRL (L.1,L.2.1)),.one (.sl rEdt s)] (.tup [(true,toL rRL (L.1,L.2.1)),(false,[.lit (.slice none 0 0)]),(false,[.lit (.int .i64 q)]),(false,[.lit (.int .i64 (oneN (yB L s q) (s.getD q ((0 : Int),(0 : Int),([] : List Fld)))))])]):=by
  obtain ⟨hln,hgd⟩:=chkB_zero h;have hr:=refCheck9_c s hf (by omega);rw [chkB_good h] at hr;have hlen:=hL.len;refine yV (rs:=[.cell 4 60,.tmp 5,.tmp 6,.tmp 7]) Tryz.func53 rfl rfl rfl teOk rfl ?_;refine qB ?_;refine qJ ?_;refine qB ?_;refine Or.inl ?_;refine zai (rfl) ?_;refine zei _ (zai (hr) ?_);refine qB ?_;refine qK rfl (fun h22=>?_) (fun h22=>?_)
  ·try simp only [decide_eq_false_iff_not,Bool.not_eq_true'] at h22
   try simp only [zds] at h22
   simp at h22
  ·try simp only [decide_eq_true_eq,Bool.not_eq_false'] at h22
   try simp only [zds] at h22
   refine qL ?_;refine qB ?_;refine qB ?_;refine qJ ?_;refine qJ ?_;refine yW 11 3 (.int .i64) rfl ?_;refine qI ?_;refine qQ ?_;refine qW (fun (i : Nat)=>i ≤ q) (fun (i : Nat)=>[(1,.one (.sl rEdt s)),(2,.one (.own 0 0)),(4,.one (.own 1 0)),(10,.one (.own 2 0)),(11,.one (.vec 3)),(12,ii .i64 i)]) (fun (i : Nat)=>[(0,.box 60 (toL rRL (L.1,L.2.1))),(1,.box 60 zRL9),(2,.box 60 (toL rRL ((yB L s i).1,(yB L s i).2.1))),(3,.vec 3 (.int .i64) (idsT L s i))]) 4 (fun (i : Nat)=>q - i) 0 (Nat.zero_le _) (qP ⟨rfl,rfl,rfl,rfl,rfl,rfl⟩ ⟨rfl,rfl,rfl,rfl⟩ rfl) ?_;intro i hI0;refine qJ ?_;refine qB ?_;intro l7_2
   try simp only [zds] at l7_2
   refine qK rfl (fun h30=>?_) (fun h30=>?_)
   ·try simp only [decide_eq_true_eq] at h30
    try simp only [zds] at h30
    have hil : i < s.length:=(by omega);obtain ⟨hLi,hfe⟩:=took hL hf hil;have hsn:=plays_snoc L hil;have hin:=idsT_snoc L s i;have hilen:=idsT_len L s i;refine qL ?_;refine qJ ?_;refine qQ ?_;refine qJ ?_;refine yK rfl ?_;refine qN 1 rfl ?_;refine qN 2 rfl ?_;refine qN 3 rfl ?_;refine zob ?_;refine qF [0,4,10] ?_;refine zai ?_ ?_
    ·refine qF [4,10] ?_;refine zai ?_ ?_
     ·refine qF [5,10] ?_;refine zai ?_ ?_
      ·refine Or.inl ?_;refine zai (rfl) ?_;refine zei _ (zai (kA (yB L s i) hLi (by omega) (s.getD i ((0 : Int),(0 : Int),([] : List Fld))) hfe) ?_);refine qN 6 rfl ?_;refine qN 7 rfl ?_;refine qN 8 rfl ?_;refine qN 9 rfl ?_;refine qF [10] ?_;refine qF [11] ?_;refine qN 12 rfl ?_;refine qN 13 rfl ?_;refine qS ?_;refine qJ ?_;refine qB ?_;refine qK rfl (fun h44=>?_) (fun h44=>?_)
       ·try simp only [decide_eq_false_iff_not,Bool.not_eq_true'] at h44
        try simp only [zds] at h44
        have hiq : i = q:=(by rcases Nat.lt_or_ge i q with h1|h1;exact absurd (ht i h1) h44;omega);subst hiq;refine qB ?_;refine qM ?_;rfl
       ·try simp only [decide_eq_true_eq,Bool.not_eq_false'] at h44
        try simp only [zds] at h44
        have hlt : i < q:=(by rcases Nat.lt_or_ge i q with h1|h1;exact h1;have e1 : i = q:=(by omega);rw [e1] at h44;exact absurd h44 hb);refine qL ?_;refine qB ?_;refine qB ?_;refine qK rfl (fun h50=>?_) (fun h50=>?_)
        ·try simp only [decide_eq_true_eq] at h50
         try simp only [zds] at h50
         refine qI ?_;refine zai (by first|exact qO (by first|omega|(simp only [List.length_cons,List.length_nil];omega)|(simp;omega)) (by decide)|omega|assumption|decide|(simp only [zds];omega)|(simp <;> omega)) ?_;refine qI ?_;refine zob ?_;exact ⟨i + 1,by omega,by first|omega|(simp <;> omega),qP ⟨rfl,rfl,rfl,rfl,rfl,(qT (by omega))⟩ ⟨rfl,rfl,(xF hsn),(qR (by rw [hin];(try rw [if_pos (by omega)]);(try rw [if_neg (by omega),List.append_nil]);(try exact rfl)))⟩ rfl⟩
        ·try simp only [decide_eq_false_iff_not,Int.not_lt] at h50
         try simp only [zds] at h50
         refine qL ?_;refine qI ?_;refine zob ?_;exact ⟨i + 1,by omega,by first|omega|(simp <;> omega),qP ⟨rfl,rfl,rfl,rfl,rfl,(qT (by omega))⟩ ⟨rfl,rfl,(xF hsn),(qR (by rw [hin];(try rw [if_pos (by omega)]);(try rw [if_neg (by omega),List.append_nil]);(try exact rfl)))⟩ rfl⟩
      ·refine qF [5] ?_;refine Or.inl ?_;refine zai (rfl) ?_;refine zei _ (zai (kA (yB L s i) hLi (by omega) (s.getD i ((0 : Int),(0 : Int),([] : List Fld))) hfe) ?_);refine qN 6 rfl ?_;refine qN 7 rfl ?_;refine qN 8 rfl ?_;refine qN 9 rfl ?_;refine qF [11] ?_;refine qN 12 rfl ?_;refine qN 13 rfl ?_;refine qS ?_;refine qJ ?_;refine qB ?_;refine qK rfl (fun h44=>?_) (fun h44=>?_)
       ·try simp only [decide_eq_false_iff_not,Bool.not_eq_true'] at h44
        try simp only [zds] at h44
        have hiq : i = q:=(by rcases Nat.lt_or_ge i q with h1|h1;exact absurd (ht i h1) h44;omega);subst hiq;refine qB ?_;refine qM ?_;rfl
       ·try simp only [decide_eq_true_eq,Bool.not_eq_false'] at h44
        try simp only [zds] at h44
        have hlt : i < q:=(by rcases Nat.lt_or_ge i q with h1|h1;exact h1;have e1 : i = q:=(by omega);rw [e1] at h44;exact absurd h44 hb);refine qL ?_;refine qB ?_;refine qB ?_;refine qK rfl (fun h50=>?_) (fun h50=>?_)
        ·try simp only [decide_eq_true_eq] at h50
         try simp only [zds] at h50
         refine qI ?_;refine zai (by first|exact qO (by first|omega|(simp only [List.length_cons,List.length_nil];omega)|(simp;omega)) (by decide)|omega|assumption|decide|(simp only [zds];omega)|(simp <;> omega)) ?_;refine qI ?_;refine zob ?_;exact ⟨i + 1,by omega,by first|omega|(simp <;> omega),qP ⟨rfl,rfl,rfl,rfl,rfl,(qT (by omega))⟩ ⟨rfl,rfl,(xF hsn),(qR (by rw [hin];(try rw [if_pos (by omega)]);(try rw [if_neg (by omega),List.append_nil]);(try exact rfl)))⟩ rfl⟩
        ·try simp only [decide_eq_false_iff_not,Int.not_lt] at h50
         try simp only [zds] at h50
         refine qL ?_;refine qI ?_;refine zob ?_;exact ⟨i + 1,by omega,by first|omega|(simp <;> omega),qP ⟨rfl,rfl,rfl,rfl,rfl,(qT (by omega))⟩ ⟨rfl,rfl,(xF hsn),(qR (by rw [hin];(try rw [if_pos (by omega)]);(try rw [if_neg (by omega),List.append_nil]);(try exact rfl)))⟩ rfl⟩
     ·refine qF [4] ?_;refine qF [5] ?_;refine Or.inl ?_;refine zai (rfl) ?_;refine zei _ (zai (kA (yB L s i) hLi (by omega) (s.getD i ((0 : Int),(0 : Int),([] : List Fld))) hfe) ?_);refine qN 6 rfl ?_;refine qN 7 rfl ?_;refine qN 8 rfl ?_;refine qN 9 rfl ?_;refine qF [11] ?_;refine qN 12 rfl ?_;refine qN 13 rfl ?_;refine qS ?_;refine qJ ?_;refine qB ?_;refine qK rfl (fun h44=>?_) (fun h44=>?_)
      ·try simp only [decide_eq_false_iff_not,Bool.not_eq_true'] at h44
       try simp only [zds] at h44
       have hiq : i = q:=(by rcases Nat.lt_or_ge i q with h1|h1;exact absurd (ht i h1) h44;omega);subst hiq;refine qB ?_;refine qM ?_;rfl
      ·try simp only [decide_eq_true_eq,Bool.not_eq_false'] at h44
       try simp only [zds] at h44
       have hlt : i < q:=(by rcases Nat.lt_or_ge i q with h1|h1;exact h1;have e1 : i = q:=(by omega);rw [e1] at h44;exact absurd h44 hb);refine qL ?_;refine qB ?_;refine qB ?_;refine qK rfl (fun h50=>?_) (fun h50=>?_)
       ·try simp only [decide_eq_true_eq] at h50
        try simp only [zds] at h50
        refine qI ?_;refine zai (by first|exact qO (by first|omega|(simp only [List.length_cons,List.length_nil];omega)|(simp;omega)) (by decide)|omega|assumption|decide|(simp only [zds];omega)|(simp <;> omega)) ?_;refine qI ?_;refine zob ?_;exact ⟨i + 1,by omega,by first|omega|(simp <;> omega),qP ⟨rfl,rfl,rfl,rfl,rfl,(qT (by omega))⟩ ⟨rfl,rfl,(xF hsn),(qR (by rw [hin];(try rw [if_pos (by omega)]);(try rw [if_neg (by omega),List.append_nil]);(try exact rfl)))⟩ rfl⟩
       ·try simp only [decide_eq_false_iff_not,Int.not_lt] at h50
        try simp only [zds] at h50
        refine qL ?_;refine qI ?_;refine zob ?_;exact ⟨i + 1,by omega,by first|omega|(simp <;> omega),qP ⟨rfl,rfl,rfl,rfl,rfl,(qT (by omega))⟩ ⟨rfl,rfl,(xF hsn),(qR (by rw [hin];(try rw [if_pos (by omega)]);(try rw [if_neg (by omega),List.append_nil]);(try exact rfl)))⟩ rfl⟩
    refine zai ?_ ?_
    ·refine qF [0,10] ?_;refine zai ?_ ?_
     ·refine qF [5,10] ?_;refine zai ?_ ?_
      ·refine Or.inl ?_;refine zai (rfl) ?_;refine zei _ (zai (kA (yB L s i) hLi (by omega) (s.getD i ((0 : Int),(0 : Int),([] : List Fld))) hfe) ?_);refine qN 6 rfl ?_;refine qN 7 rfl ?_;refine qN 8 rfl ?_;refine qN 9 rfl ?_;refine qF [10] ?_;refine qF [11] ?_;refine qN 12 rfl ?_;refine qN 13 rfl ?_;refine qS ?_;refine qJ ?_;refine qB ?_;refine qK rfl (fun h44=>?_) (fun h44=>?_)
       ·try simp only [decide_eq_false_iff_not,Bool.not_eq_true'] at h44
        try simp only [zds] at h44
        have hiq : i = q:=(by rcases Nat.lt_or_ge i q with h1|h1;exact absurd (ht i h1) h44;omega);subst hiq;refine qB ?_;refine qM ?_;rfl
       ·try simp only [decide_eq_true_eq,Bool.not_eq_false'] at h44
        try simp only [zds] at h44
        have hlt : i < q:=(by rcases Nat.lt_or_ge i q with h1|h1;exact h1;have e1 : i = q:=(by omega);rw [e1] at h44;exact absurd h44 hb);refine qL ?_;refine qB ?_;refine qB ?_;refine qK rfl (fun h50=>?_) (fun h50=>?_)
        ·try simp only [decide_eq_true_eq] at h50
         try simp only [zds] at h50
         refine qI ?_;refine zai (by first|exact qO (by first|omega|(simp only [List.length_cons,List.length_nil];omega)|(simp;omega)) (by decide)|omega|assumption|decide|(simp only [zds];omega)|(simp <;> omega)) ?_;refine qI ?_;refine zob ?_;exact ⟨i + 1,by omega,by first|omega|(simp <;> omega),qP ⟨rfl,rfl,rfl,rfl,rfl,(qT (by omega))⟩ ⟨rfl,rfl,(xF hsn),(qR (by rw [hin];(try rw [if_pos (by omega)]);(try rw [if_neg (by omega),List.append_nil]);(try exact rfl)))⟩ rfl⟩
        ·try simp only [decide_eq_false_iff_not,Int.not_lt] at h50
         try simp only [zds] at h50
         refine qL ?_;refine qI ?_;refine zob ?_;exact ⟨i + 1,by omega,by first|omega|(simp <;> omega),qP ⟨rfl,rfl,rfl,rfl,rfl,(qT (by omega))⟩ ⟨rfl,rfl,(xF hsn),(qR (by rw [hin];(try rw [if_pos (by omega)]);(try rw [if_neg (by omega),List.append_nil]);(try exact rfl)))⟩ rfl⟩
      ·refine qF [5] ?_;refine Or.inl ?_;refine zai (rfl) ?_;refine zei _ (zai (kA (yB L s i) hLi (by omega) (s.getD i ((0 : Int),(0 : Int),([] : List Fld))) hfe) ?_);refine qN 6 rfl ?_;refine qN 7 rfl ?_;refine qN 8 rfl ?_;refine qN 9 rfl ?_;refine qF [11] ?_;refine qN 12 rfl ?_;refine qN 13 rfl ?_;refine qS ?_;refine qJ ?_;refine qB ?_;refine qK rfl (fun h44=>?_) (fun h44=>?_)
       ·try simp only [decide_eq_false_iff_not,Bool.not_eq_true'] at h44
        try simp only [zds] at h44
        have hiq : i = q:=(by rcases Nat.lt_or_ge i q with h1|h1;exact absurd (ht i h1) h44;omega);subst hiq;refine qB ?_;refine qM ?_;rfl
       ·try simp only [decide_eq_true_eq,Bool.not_eq_false'] at h44
        try simp only [zds] at h44
        have hlt : i < q:=(by rcases Nat.lt_or_ge i q with h1|h1;exact h1;have e1 : i = q:=(by omega);rw [e1] at h44;exact absurd h44 hb);refine qL ?_;refine qB ?_;refine qB ?_;refine qK rfl (fun h50=>?_) (fun h50=>?_)
        ·try simp only [decide_eq_true_eq] at h50
         try simp only [zds] at h50
         refine qI ?_;refine zai (by first|exact qO (by first|omega|(simp only [List.length_cons,List.length_nil];omega)|(simp;omega)) (by decide)|omega|assumption|decide|(simp only [zds];omega)|(simp <;> omega)) ?_;refine qI ?_;refine zob ?_;exact ⟨i + 1,by omega,by first|omega|(simp <;> omega),qP ⟨rfl,rfl,rfl,rfl,rfl,(qT (by omega))⟩ ⟨rfl,rfl,(xF hsn),(qR (by rw [hin];(try rw [if_pos (by omega)]);(try rw [if_neg (by omega),List.append_nil]);(try exact rfl)))⟩ rfl⟩
        ·try simp only [decide_eq_false_iff_not,Int.not_lt] at h50
         try simp only [zds] at h50
         refine qL ?_;refine qI ?_;refine zob ?_;exact ⟨i + 1,by omega,by first|omega|(simp <;> omega),qP ⟨rfl,rfl,rfl,rfl,rfl,(qT (by omega))⟩ ⟨rfl,rfl,(xF hsn),(qR (by rw [hin];(try rw [if_pos (by omega)]);(try rw [if_neg (by omega),List.append_nil]);(try exact rfl)))⟩ rfl⟩
     ·refine qF [0] ?_;refine qF [5] ?_;refine Or.inl ?_;refine zai (rfl) ?_;refine zei _ (zai (kA (yB L s i) hLi (by omega) (s.getD i ((0 : Int),(0 : Int),([] : List Fld))) hfe) ?_);refine qN 6 rfl ?_;refine qN 7 rfl ?_;refine qN 8 rfl ?_;refine qN 9 rfl ?_;refine qF [11] ?_;refine qN 12 rfl ?_;refine qN 13 rfl ?_;refine qS ?_;refine qJ ?_;refine qB ?_;refine qK rfl (fun h44=>?_) (fun h44=>?_)
      ·try simp only [decide_eq_false_iff_not,Bool.not_eq_true'] at h44
       try simp only [zds] at h44
       have hiq : i = q:=(by rcases Nat.lt_or_ge i q with h1|h1;exact absurd (ht i h1) h44;omega);subst hiq;refine qB ?_;refine qM ?_;rfl
      ·try simp only [decide_eq_true_eq,Bool.not_eq_false'] at h44
       try simp only [zds] at h44
       have hlt : i < q:=(by rcases Nat.lt_or_ge i q with h1|h1;exact h1;have e1 : i = q:=(by omega);rw [e1] at h44;exact absurd h44 hb);refine qL ?_;refine qB ?_;refine qB ?_;refine qK rfl (fun h50=>?_) (fun h50=>?_)
       ·try simp only [decide_eq_true_eq] at h50
        try simp only [zds] at h50
        refine qI ?_;refine zai (by first|exact qO (by first|omega|(simp only [List.length_cons,List.length_nil];omega)|(simp;omega)) (by decide)|omega|assumption|decide|(simp only [zds];omega)|(simp <;> omega)) ?_;refine qI ?_;refine zob ?_;exact ⟨i + 1,by omega,by first|omega|(simp <;> omega),qP ⟨rfl,rfl,rfl,rfl,rfl,(qT (by omega))⟩ ⟨rfl,rfl,(xF hsn),(qR (by rw [hin];(try rw [if_pos (by omega)]);(try rw [if_neg (by omega),List.append_nil]);(try exact rfl)))⟩ rfl⟩
       ·try simp only [decide_eq_false_iff_not,Int.not_lt] at h50
        try simp only [zds] at h50
        refine qL ?_;refine qI ?_;refine zob ?_;exact ⟨i + 1,by omega,by first|omega|(simp <;> omega),qP ⟨rfl,rfl,rfl,rfl,rfl,(qT (by omega))⟩ ⟨rfl,rfl,(xF hsn),(qR (by rw [hin];(try rw [if_pos (by omega)]);(try rw [if_neg (by omega),List.append_nil]);(try exact rfl)))⟩ rfl⟩
    ·refine qF [0,4] ?_;refine zai ?_ ?_
     ·refine qF [4] ?_;refine qF [5] ?_;refine Or.inl ?_;refine zai (rfl) ?_;refine zei _ (zai (kA (yB L s i) hLi (by omega) (s.getD i ((0 : Int),(0 : Int),([] : List Fld))) hfe) ?_);refine qN 6 rfl ?_;refine qN 7 rfl ?_;refine qN 8 rfl ?_;refine qN 9 rfl ?_;refine qF [11] ?_;refine qN 12 rfl ?_;refine qN 13 rfl ?_;refine qS ?_;refine qJ ?_;refine qB ?_;refine qK rfl (fun h44=>?_) (fun h44=>?_)
      ·try simp only [decide_eq_false_iff_not,Bool.not_eq_true'] at h44
       try simp only [zds] at h44
       have hiq : i = q:=(by rcases Nat.lt_or_ge i q with h1|h1;exact absurd (ht i h1) h44;omega);subst hiq;refine qB ?_;refine qM ?_;rfl
      ·try simp only [decide_eq_true_eq,Bool.not_eq_false'] at h44
       try simp only [zds] at h44
       have hlt : i < q:=(by rcases Nat.lt_or_ge i q with h1|h1;exact h1;have e1 : i = q:=(by omega);rw [e1] at h44;exact absurd h44 hb);refine qL ?_;refine qB ?_;refine qB ?_;refine qK rfl (fun h50=>?_) (fun h50=>?_)
       ·try simp only [decide_eq_true_eq] at h50
        try simp only [zds] at h50
        refine qI ?_;refine zai (by first|exact qO (by first|omega|(simp only [List.length_cons,List.length_nil];omega)|(simp;omega)) (by decide)|omega|assumption|decide|(simp only [zds];omega)|(simp <;> omega)) ?_;refine qI ?_;refine zob ?_;exact ⟨i + 1,by omega,by first|omega|(simp <;> omega),qP ⟨rfl,rfl,rfl,rfl,rfl,(qT (by omega))⟩ ⟨rfl,rfl,(xF hsn),(qR (by rw [hin];(try rw [if_pos (by omega)]);(try rw [if_neg (by omega),List.append_nil]);(try exact rfl)))⟩ rfl⟩
       ·try simp only [decide_eq_false_iff_not,Int.not_lt] at h50
        try simp only [zds] at h50
        refine qL ?_;refine qI ?_;refine zob ?_;exact ⟨i + 1,by omega,by first|omega|(simp <;> omega),qP ⟨rfl,rfl,rfl,rfl,rfl,(qT (by omega))⟩ ⟨rfl,rfl,(xF hsn),(qR (by rw [hin];(try rw [if_pos (by omega)]);(try rw [if_neg (by omega),List.append_nil]);(try exact rfl)))⟩ rfl⟩
     ·refine qF [0] ?_;refine qF [5] ?_;refine Or.inl ?_;refine zai (rfl) ?_;refine zei _ (zai (kA (yB L s i) hLi (by omega) (s.getD i ((0 : Int),(0 : Int),([] : List Fld))) hfe) ?_);refine qN 6 rfl ?_;refine qN 7 rfl ?_;refine qN 8 rfl ?_;refine qN 9 rfl ?_;refine qF [11] ?_;refine qN 12 rfl ?_;refine qN 13 rfl ?_;refine qS ?_;refine qJ ?_;refine qB ?_;refine qK rfl (fun h44=>?_) (fun h44=>?_)
      ·try simp only [decide_eq_false_iff_not,Bool.not_eq_true'] at h44
       try simp only [zds] at h44
       have hiq : i = q:=(by rcases Nat.lt_or_ge i q with h1|h1;exact absurd (ht i h1) h44;omega);subst hiq;refine qB ?_;refine qM ?_;rfl
      ·try simp only [decide_eq_true_eq,Bool.not_eq_false'] at h44
       try simp only [zds] at h44
       have hlt : i < q:=(by rcases Nat.lt_or_ge i q with h1|h1;exact h1;have e1 : i = q:=(by omega);rw [e1] at h44;exact absurd h44 hb);refine qL ?_;refine qB ?_;refine qB ?_;refine qK rfl (fun h50=>?_) (fun h50=>?_)
       ·try simp only [decide_eq_true_eq] at h50
        try simp only [zds] at h50
        refine qI ?_;refine zai (by first|exact qO (by first|omega|(simp only [List.length_cons,List.length_nil];omega)|(simp;omega)) (by decide)|omega|assumption|decide|(simp only [zds];omega)|(simp <;> omega)) ?_;refine qI ?_;refine zob ?_;exact ⟨i + 1,by omega,by first|omega|(simp <;> omega),qP ⟨rfl,rfl,rfl,rfl,rfl,(qT (by omega))⟩ ⟨rfl,rfl,(xF hsn),(qR (by rw [hin];(try rw [if_pos (by omega)]);(try rw [if_neg (by omega),List.append_nil]);(try exact rfl)))⟩ rfl⟩
       ·try simp only [decide_eq_false_iff_not,Int.not_lt] at h50
        try simp only [zds] at h50
        refine qL ?_;refine qI ?_;refine zob ?_;exact ⟨i + 1,by omega,by first|omega|(simp <;> omega),qP ⟨rfl,rfl,rfl,rfl,rfl,(qT (by omega))⟩ ⟨rfl,rfl,(xF hsn),(qR (by rw [hin];(try rw [if_pos (by omega)]);(try rw [if_neg (by omega),List.append_nil]);(try exact rfl)))⟩ rfl⟩
   ·try simp only [decide_eq_false_iff_not,Int.not_lt] at h30
    try simp only [zds] at h30
    omega
theorem refDoOk_c {c : Nat} (L : Lst) (s : List Edt) (hL : LOk c L) (hc : c + s.length ≤ 200000) (hf : ∀ e ∈ s,yO e.2.2) (h : (chkB s).2 = 0) (ht : ∀ j,j < s.length → oneN (yB L s j) (s.getD j ((0 : Int),(0 : Int),([] : List Fld))) = 0) :
    qX Tryz.prog 53 [.agg (toL rRL (L.1,L.2.1)),.one (.sl rEdt s)] (.tup [(true,toL rRL ((yB L s s.length).1,(yB L s s.length).2.1)),(false,[.sl (.int .i64) (idsT L s s.length)]),(false,[.lit (.int .i64 (-9))]),(false,[.lit (.int .i64 0)])]):=by
  obtain ⟨hln,hgd⟩:=chkB_zero h;have hr:=refCheck9_c s hf (by omega);rw [chkB_good h] at hr;have hlen:=hL.len;refine yV (rs:=[.cell 4 60,.tmp 5,.tmp 6,.tmp 7]) Tryz.func53 rfl rfl rfl teOk rfl ?_;refine qB ?_;refine qJ ?_;refine qB ?_;refine Or.inl ?_;refine zai (rfl) ?_;refine zei _ (zai (hr) ?_);refine qB ?_;refine qK rfl (fun h22=>?_) (fun h22=>?_)
  ·try simp only [decide_eq_false_iff_not,Bool.not_eq_true'] at h22
   try simp only [zds] at h22
   simp at h22
  ·try simp only [decide_eq_true_eq,Bool.not_eq_false'] at h22
   try simp only [zds] at h22
   refine qL ?_;refine qB ?_;refine qB ?_;refine qJ ?_;refine qJ ?_;refine yW 11 3 (.int .i64) rfl ?_;refine qI ?_;refine qQ ?_;refine qW (fun (i : Nat)=>i ≤ s.length) (fun (i : Nat)=>[(1,.one (.sl rEdt s)),(2,.one (.own 0 0)),(4,.one (.own 1 0)),(10,.one (.own 2 0)),(11,.one (.vec 3)),(12,ii .i64 i)]) (fun (i : Nat)=>[(0,.box 60 (toL rRL (L.1,L.2.1))),(1,.box 60 zRL9),(2,.box 60 (toL rRL ((yB L s i).1,(yB L s i).2.1))),(3,.vec 3 (.int .i64) (idsT L s i))]) 4 (fun (i : Nat)=>s.length - i) 0 (Nat.zero_le _) (qP ⟨rfl,rfl,rfl,rfl,rfl,rfl⟩ ⟨rfl,rfl,rfl,rfl⟩ rfl) ?_;intro i hI0;refine qJ ?_;refine qB ?_;intro l7_2
   try simp only [zds] at l7_2
   refine qK rfl (fun h30=>?_) (fun h30=>?_)
   ·try simp only [decide_eq_true_eq] at h30
    try simp only [zds] at h30
    have hil : i < s.length:=(by omega);obtain ⟨hLi,hfe⟩:=took hL hf hil;have hsn:=plays_snoc L hil;have hin:=idsT_snoc L s i;have hilen:=idsT_len L s i;refine qL ?_;refine qJ ?_;refine qQ ?_;refine qJ ?_;refine yK rfl ?_;refine qN 1 rfl ?_;refine qN 2 rfl ?_;refine qN 3 rfl ?_;refine zob ?_;refine qF [0,4,10] ?_;refine zai ?_ ?_
    ·refine qF [4,10] ?_;refine zai ?_ ?_
     ·refine qF [5,10] ?_;refine zai ?_ ?_
      ·refine Or.inl ?_;refine zai (rfl) ?_;refine zei _ (zai (kA (yB L s i) hLi (by omega) (s.getD i ((0 : Int),(0 : Int),([] : List Fld))) hfe) ?_);refine qN 6 rfl ?_;refine qN 7 rfl ?_;refine qN 8 rfl ?_;refine qN 9 rfl ?_;refine qF [10] ?_;refine qF [11] ?_;refine qN 12 rfl ?_;refine qN 13 rfl ?_;refine qS ?_;refine qJ ?_;refine qB ?_;refine qK rfl (fun h44=>?_) (fun h44=>?_)
       ·try simp only [decide_eq_false_iff_not,Bool.not_eq_true'] at h44
        try simp only [zds] at h44
        exact absurd (ht i hil) h44
       ·try simp only [decide_eq_true_eq,Bool.not_eq_false'] at h44
        try simp only [zds] at h44
        refine qL ?_;refine qB ?_;refine qB ?_;refine qK rfl (fun h50=>?_) (fun h50=>?_)
        ·try simp only [decide_eq_true_eq] at h50
         try simp only [zds] at h50
         refine qI ?_;refine zai (by first|exact qO (by first|omega|(simp only [List.length_cons,List.length_nil];omega)|(simp;omega)) (by decide)|omega|assumption|decide|(simp only [zds];omega)|(simp <;> omega)) ?_;refine qI ?_;refine zob ?_;exact ⟨i + 1,by omega,by first|omega|(simp <;> omega),qP ⟨rfl,rfl,rfl,rfl,rfl,(qT (by omega))⟩ ⟨rfl,rfl,(xF hsn),(qR (by rw [hin];(try rw [if_pos (by omega)]);(try rw [if_neg (by omega),List.append_nil]);(try exact rfl)))⟩ rfl⟩
        ·try simp only [decide_eq_false_iff_not,Int.not_lt] at h50
         try simp only [zds] at h50
         refine qL ?_;refine qI ?_;refine zob ?_;exact ⟨i + 1,by omega,by first|omega|(simp <;> omega),qP ⟨rfl,rfl,rfl,rfl,rfl,(qT (by omega))⟩ ⟨rfl,rfl,(xF hsn),(qR (by rw [hin];(try rw [if_pos (by omega)]);(try rw [if_neg (by omega),List.append_nil]);(try exact rfl)))⟩ rfl⟩
      ·refine qF [5] ?_;refine Or.inl ?_;refine zai (rfl) ?_;refine zei _ (zai (kA (yB L s i) hLi (by omega) (s.getD i ((0 : Int),(0 : Int),([] : List Fld))) hfe) ?_);refine qN 6 rfl ?_;refine qN 7 rfl ?_;refine qN 8 rfl ?_;refine qN 9 rfl ?_;refine qF [11] ?_;refine qN 12 rfl ?_;refine qN 13 rfl ?_;refine qS ?_;refine qJ ?_;refine qB ?_;refine qK rfl (fun h44=>?_) (fun h44=>?_)
       ·try simp only [decide_eq_false_iff_not,Bool.not_eq_true'] at h44
        try simp only [zds] at h44
        exact absurd (ht i hil) h44
       ·try simp only [decide_eq_true_eq,Bool.not_eq_false'] at h44
        try simp only [zds] at h44
        refine qL ?_;refine qB ?_;refine qB ?_;refine qK rfl (fun h50=>?_) (fun h50=>?_)
        ·try simp only [decide_eq_true_eq] at h50
         try simp only [zds] at h50
         refine qI ?_;refine zai (by first|exact qO (by first|omega|(simp only [List.length_cons,List.length_nil];omega)|(simp;omega)) (by decide)|omega|assumption|decide|(simp only [zds];omega)|(simp <;> omega)) ?_;refine qI ?_;refine zob ?_;exact ⟨i + 1,by omega,by first|omega|(simp <;> omega),qP ⟨rfl,rfl,rfl,rfl,rfl,(qT (by omega))⟩ ⟨rfl,rfl,(xF hsn),(qR (by rw [hin];(try rw [if_pos (by omega)]);(try rw [if_neg (by omega),List.append_nil]);(try exact rfl)))⟩ rfl⟩
        ·try simp only [decide_eq_false_iff_not,Int.not_lt] at h50
         try simp only [zds] at h50
         refine qL ?_;refine qI ?_;refine zob ?_;exact ⟨i + 1,by omega,by first|omega|(simp <;> omega),qP ⟨rfl,rfl,rfl,rfl,rfl,(qT (by omega))⟩ ⟨rfl,rfl,(xF hsn),(qR (by rw [hin];(try rw [if_pos (by omega)]);(try rw [if_neg (by omega),List.append_nil]);(try exact rfl)))⟩ rfl⟩
     ·refine qF [4] ?_;refine qF [5] ?_;refine Or.inl ?_;refine zai (rfl) ?_;refine zei _ (zai (kA (yB L s i) hLi (by omega) (s.getD i ((0 : Int),(0 : Int),([] : List Fld))) hfe) ?_);refine qN 6 rfl ?_;refine qN 7 rfl ?_;refine qN 8 rfl ?_;refine qN 9 rfl ?_;refine qF [11] ?_;refine qN 12 rfl ?_;refine qN 13 rfl ?_;refine qS ?_;refine qJ ?_;refine qB ?_;refine qK rfl (fun h44=>?_) (fun h44=>?_)
      ·try simp only [decide_eq_false_iff_not,Bool.not_eq_true'] at h44
       try simp only [zds] at h44
       exact absurd (ht i hil) h44
      ·try simp only [decide_eq_true_eq,Bool.not_eq_false'] at h44
       try simp only [zds] at h44
       refine qL ?_;refine qB ?_;refine qB ?_;refine qK rfl (fun h50=>?_) (fun h50=>?_)
       ·try simp only [decide_eq_true_eq] at h50
        try simp only [zds] at h50
        refine qI ?_;refine zai (by first|exact qO (by first|omega|(simp only [List.length_cons,List.length_nil];omega)|(simp;omega)) (by decide)|omega|assumption|decide|(simp only [zds];omega)|(simp <;> omega)) ?_;refine qI ?_;refine zob ?_;exact ⟨i + 1,by omega,by first|omega|(simp <;> omega),qP ⟨rfl,rfl,rfl,rfl,rfl,(qT (by omega))⟩ ⟨rfl,rfl,(xF hsn),(qR (by rw [hin];(try rw [if_pos (by omega)]);(try rw [if_neg (by omega),List.append_nil]);(try exact rfl)))⟩ rfl⟩
       ·try simp only [decide_eq_false_iff_not,Int.not_lt] at h50
        try simp only [zds] at h50
        refine qL ?_;refine qI ?_;refine zob ?_;exact ⟨i + 1,by omega,by first|omega|(simp <;> omega),qP ⟨rfl,rfl,rfl,rfl,rfl,(qT (by omega))⟩ ⟨rfl,rfl,(xF hsn),(qR (by rw [hin];(try rw [if_pos (by omega)]);(try rw [if_neg (by omega),List.append_nil]);(try exact rfl)))⟩ rfl⟩
    refine zai ?_ ?_
    ·refine qF [0,10] ?_;refine zai ?_ ?_
     ·refine qF [5,10] ?_;refine zai ?_ ?_
      ·refine Or.inl ?_;refine zai (rfl) ?_;refine zei _ (zai (kA (yB L s i) hLi (by omega) (s.getD i ((0 : Int),(0 : Int),([] : List Fld))) hfe) ?_);refine qN 6 rfl ?_;refine qN 7 rfl ?_;refine qN 8 rfl ?_;refine qN 9 rfl ?_;refine qF [10] ?_;refine qF [11] ?_;refine qN 12 rfl ?_;refine qN 13 rfl ?_;refine qS ?_;refine qJ ?_;refine qB ?_;refine qK rfl (fun h44=>?_) (fun h44=>?_)
       ·try simp only [decide_eq_false_iff_not,Bool.not_eq_true'] at h44
        try simp only [zds] at h44
        exact absurd (ht i hil) h44
       ·try simp only [decide_eq_true_eq,Bool.not_eq_false'] at h44
        try simp only [zds] at h44
        refine qL ?_;refine qB ?_;refine qB ?_;refine qK rfl (fun h50=>?_) (fun h50=>?_)
        ·try simp only [decide_eq_true_eq] at h50
         try simp only [zds] at h50
         refine qI ?_;refine zai (by first|exact qO (by first|omega|(simp only [List.length_cons,List.length_nil];omega)|(simp;omega)) (by decide)|omega|assumption|decide|(simp only [zds];omega)|(simp <;> omega)) ?_;refine qI ?_;refine zob ?_;exact ⟨i + 1,by omega,by first|omega|(simp <;> omega),qP ⟨rfl,rfl,rfl,rfl,rfl,(qT (by omega))⟩ ⟨rfl,rfl,(xF hsn),(qR (by rw [hin];(try rw [if_pos (by omega)]);(try rw [if_neg (by omega),List.append_nil]);(try exact rfl)))⟩ rfl⟩
        ·try simp only [decide_eq_false_iff_not,Int.not_lt] at h50
         try simp only [zds] at h50
         refine qL ?_;refine qI ?_;refine zob ?_;exact ⟨i + 1,by omega,by first|omega|(simp <;> omega),qP ⟨rfl,rfl,rfl,rfl,rfl,(qT (by omega))⟩ ⟨rfl,rfl,(xF hsn),(qR (by rw [hin];(try rw [if_pos (by omega)]);(try rw [if_neg (by omega),List.append_nil]);(try exact rfl)))⟩ rfl⟩
      ·refine qF [5] ?_;refine Or.inl ?_;refine zai (rfl) ?_;refine zei _ (zai (kA (yB L s i) hLi (by omega) (s.getD i ((0 : Int),(0 : Int),([] : List Fld))) hfe) ?_);refine qN 6 rfl ?_;refine qN 7 rfl ?_;refine qN 8 rfl ?_;refine qN 9 rfl ?_;refine qF [11] ?_;refine qN 12 rfl ?_;refine qN 13 rfl ?_;refine qS ?_;refine qJ ?_;refine qB ?_;refine qK rfl (fun h44=>?_) (fun h44=>?_)
       ·try simp only [decide_eq_false_iff_not,Bool.not_eq_true'] at h44
        try simp only [zds] at h44
        exact absurd (ht i hil) h44
       ·try simp only [decide_eq_true_eq,Bool.not_eq_false'] at h44
        try simp only [zds] at h44
        refine qL ?_;refine qB ?_;refine qB ?_;refine qK rfl (fun h50=>?_) (fun h50=>?_)
        ·try simp only [decide_eq_true_eq] at h50
         try simp only [zds] at h50
         refine qI ?_;refine zai (by first|exact qO (by first|omega|(simp only [List.length_cons,List.length_nil];omega)|(simp;omega)) (by decide)|omega|assumption|decide|(simp only [zds];omega)|(simp <;> omega)) ?_;refine qI ?_;refine zob ?_;exact ⟨i + 1,by omega,by first|omega|(simp <;> omega),qP ⟨rfl,rfl,rfl,rfl,rfl,(qT (by omega))⟩ ⟨rfl,rfl,(xF hsn),(qR (by rw [hin];(try rw [if_pos (by omega)]);(try rw [if_neg (by omega),List.append_nil]);(try exact rfl)))⟩ rfl⟩
        ·try simp only [decide_eq_false_iff_not,Int.not_lt] at h50
         try simp only [zds] at h50
         refine qL ?_;refine qI ?_;refine zob ?_;exact ⟨i + 1,by omega,by first|omega|(simp <;> omega),qP ⟨rfl,rfl,rfl,rfl,rfl,(qT (by omega))⟩ ⟨rfl,rfl,(xF hsn),(qR (by rw [hin];(try rw [if_pos (by omega)]);(try rw [if_neg (by omega),List.append_nil]);(try exact rfl)))⟩ rfl⟩
     ·refine qF [0] ?_;refine qF [5] ?_;refine Or.inl ?_;refine zai (rfl) ?_;refine zei _ (zai (kA (yB L s i) hLi (by omega) (s.getD i ((0 : Int),(0 : Int),([] : List Fld))) hfe) ?_);refine qN 6 rfl ?_;refine qN 7 rfl ?_;refine qN 8 rfl ?_;refine qN 9 rfl ?_;refine qF [11] ?_;refine qN 12 rfl ?_;refine qN 13 rfl ?_;refine qS ?_;refine qJ ?_;refine qB ?_;refine qK rfl (fun h44=>?_) (fun h44=>?_)
      ·try simp only [decide_eq_false_iff_not,Bool.not_eq_true'] at h44
       try simp only [zds] at h44
       exact absurd (ht i hil) h44
      ·try simp only [decide_eq_true_eq,Bool.not_eq_false'] at h44
       try simp only [zds] at h44
       refine qL ?_;refine qB ?_;refine qB ?_;refine qK rfl (fun h50=>?_) (fun h50=>?_)
       ·try simp only [decide_eq_true_eq] at h50
        try simp only [zds] at h50
        refine qI ?_;refine zai (by first|exact qO (by first|omega|(simp only [List.length_cons,List.length_nil];omega)|(simp;omega)) (by decide)|omega|assumption|decide|(simp only [zds];omega)|(simp <;> omega)) ?_;refine qI ?_;refine zob ?_;exact ⟨i + 1,by omega,by first|omega|(simp <;> omega),qP ⟨rfl,rfl,rfl,rfl,rfl,(qT (by omega))⟩ ⟨rfl,rfl,(xF hsn),(qR (by rw [hin];(try rw [if_pos (by omega)]);(try rw [if_neg (by omega),List.append_nil]);(try exact rfl)))⟩ rfl⟩
       ·try simp only [decide_eq_false_iff_not,Int.not_lt] at h50
        try simp only [zds] at h50
        refine qL ?_;refine qI ?_;refine zob ?_;exact ⟨i + 1,by omega,by first|omega|(simp <;> omega),qP ⟨rfl,rfl,rfl,rfl,rfl,(qT (by omega))⟩ ⟨rfl,rfl,(xF hsn),(qR (by rw [hin];(try rw [if_pos (by omega)]);(try rw [if_neg (by omega),List.append_nil]);(try exact rfl)))⟩ rfl⟩
    ·refine qF [0,4] ?_;refine zai ?_ ?_
     ·refine qF [4] ?_;refine qF [5] ?_;refine Or.inl ?_;refine zai (rfl) ?_;refine zei _ (zai (kA (yB L s i) hLi (by omega) (s.getD i ((0 : Int),(0 : Int),([] : List Fld))) hfe) ?_);refine qN 6 rfl ?_;refine qN 7 rfl ?_;refine qN 8 rfl ?_;refine qN 9 rfl ?_;refine qF [11] ?_;refine qN 12 rfl ?_;refine qN 13 rfl ?_;refine qS ?_;refine qJ ?_;refine qB ?_;refine qK rfl (fun h44=>?_) (fun h44=>?_)
      ·try simp only [decide_eq_false_iff_not,Bool.not_eq_true'] at h44
       try simp only [zds] at h44
       exact absurd (ht i hil) h44
      ·try simp only [decide_eq_true_eq,Bool.not_eq_false'] at h44
       try simp only [zds] at h44
       refine qL ?_;refine qB ?_;refine qB ?_;refine qK rfl (fun h50=>?_) (fun h50=>?_)
       ·try simp only [decide_eq_true_eq] at h50
        try simp only [zds] at h50
        refine qI ?_;refine zai (by first|exact qO (by first|omega|(simp only [List.length_cons,List.length_nil];omega)|(simp;omega)) (by decide)|omega|assumption|decide|(simp only [zds];omega)|(simp <;> omega)) ?_;refine qI ?_;refine zob ?_;exact ⟨i + 1,by omega,by first|omega|(simp <;> omega),qP ⟨rfl,rfl,rfl,rfl,rfl,(qT (by omega))⟩ ⟨rfl,rfl,(xF hsn),(qR (by rw [hin];(try rw [if_pos (by omega)]);(try rw [if_neg (by omega),List.append_nil]);(try exact rfl)))⟩ rfl⟩
       ·try simp only [decide_eq_false_iff_not,Int.not_lt] at h50
        try simp only [zds] at h50
        refine qL ?_;refine qI ?_;refine zob ?_;exact ⟨i + 1,by omega,by first|omega|(simp <;> omega),qP ⟨rfl,rfl,rfl,rfl,rfl,(qT (by omega))⟩ ⟨rfl,rfl,(xF hsn),(qR (by rw [hin];(try rw [if_pos (by omega)]);(try rw [if_neg (by omega),List.append_nil]);(try exact rfl)))⟩ rfl⟩
     ·refine qF [0] ?_;refine qF [5] ?_;refine Or.inl ?_;refine zai (rfl) ?_;refine zei _ (zai (kA (yB L s i) hLi (by omega) (s.getD i ((0 : Int),(0 : Int),([] : List Fld))) hfe) ?_);refine qN 6 rfl ?_;refine qN 7 rfl ?_;refine qN 8 rfl ?_;refine qN 9 rfl ?_;refine qF [11] ?_;refine qN 12 rfl ?_;refine qN 13 rfl ?_;refine qS ?_;refine qJ ?_;refine qB ?_;refine qK rfl (fun h44=>?_) (fun h44=>?_)
      ·try simp only [decide_eq_false_iff_not,Bool.not_eq_true'] at h44
       try simp only [zds] at h44
       exact absurd (ht i hil) h44
      ·try simp only [decide_eq_true_eq,Bool.not_eq_false'] at h44
       try simp only [zds] at h44
       refine qL ?_;refine qB ?_;refine qB ?_;refine qK rfl (fun h50=>?_) (fun h50=>?_)
       ·try simp only [decide_eq_true_eq] at h50
        try simp only [zds] at h50
        refine qI ?_;refine zai (by first|exact qO (by first|omega|(simp only [List.length_cons,List.length_nil];omega)|(simp;omega)) (by decide)|omega|assumption|decide|(simp only [zds];omega)|(simp <;> omega)) ?_;refine qI ?_;refine zob ?_;exact ⟨i + 1,by omega,by first|omega|(simp <;> omega),qP ⟨rfl,rfl,rfl,rfl,rfl,(qT (by omega))⟩ ⟨rfl,rfl,(xF hsn),(qR (by rw [hin];(try rw [if_pos (by omega)]);(try rw [if_neg (by omega),List.append_nil]);(try exact rfl)))⟩ rfl⟩
       ·try simp only [decide_eq_false_iff_not,Int.not_lt] at h50
        try simp only [zds] at h50
        refine qL ?_;refine qI ?_;refine zob ?_;exact ⟨i + 1,by omega,by first|omega|(simp <;> omega),qP ⟨rfl,rfl,rfl,rfl,rfl,(qT (by omega))⟩ ⟨rfl,rfl,(xF hsn),(qR (by rw [hin];(try rw [if_pos (by omega)]);(try rw [if_neg (by omega),List.append_nil]);(try exact rfl)))⟩ rfl⟩
   ·try simp only [decide_eq_false_iff_not,Int.not_lt] at h30
    try simp only [zds] at h30
    refine yA ?_;refine qB ?_;refine qM ?_;rw [show i = s.length by omega];exact rfl
abbrev lsO12 (L : Lst) : Obs:=[(1,.box 134 [.vec 2,.lit (.int .i64 L.2.1),.lit (.int .i64 L.2.2)]),(2,.vec 138 rEnt L.1)]
theorem lists_ok (s : ByteArray) (hs : s.size ≤ 60000) {l : List Itm} (hp : xG s = .inr l) : yE Tryz.prog 51 [is s] [] 0 (.tup [(false,[.own 1 0]),(true,toL rRL ((ofT l).1,(ofT l).2.1)),(false,[.lit (.bool true)])]) (lsO12 (ofT l)) 3:=by
  have hof:=of_ok s hs hp;have hrf:=refOf_ok s hs hp;refine acallo_ofc3 (p:=2) (t:=3) (ty:=60) (u:=4) Tryz.func51 rfl rfl rfl teOk rfl rfl rfl ?_;refine qB ?_;refine qB ?_;refine Or.inr (Or.inl (zei [] (zei [] (zei _ (zei _ (zei _ (zei _ (zei _ (zai (hof) (zai rfl (zai True.intro (zai rfl ?_))))))))))));refine qB ?_;refine Or.inl ?_;refine zai (rfl) ?_;refine zei _ (zai (hrf) ?_);refine qJ ?_;refine yK rfl ?_;refine qN 0 rfl ?_;refine qN 2 rfl ?_;refine qF [1,3] ?_;refine zai ?_ ?_
  · refine qF [3] ?_;refine qN 4 rfl ?_;refine xI 5 rfl rfl rfl (by kernel_rfl) ?_;refine zai (fun h=>trivial) ?_;refine qF [6] ?_;refine zai (fun h=>⟨⟨h,trivial⟩,trivial⟩) ?_;refine qN 7 rfl ?_;refine zai (by exact fun h=>h) ?_;refine qN 8 rfl ?_;refine xI 9 rfl rfl rfl (by kernel_rfl) ?_;refine zai (fun h=>trivial) ?_;refine xI 10 rfl rfl rfl (by kernel_rfl) ?_;refine zai (fun h=>⟨⟨h,trivial⟩,trivial⟩) ?_;refine qN 11 rfl ?_;refine zai (by exact fun h=>h) ?_;refine qN 12 rfl ?_;refine qF [13] ?_;refine qN 14 rfl ?_;refine qS ?_;refine qM ?_;exact ⟨rfl,⟨rfl,rfl⟩,rfl⟩
  · refine qN 4 rfl ?_;refine xI 5 rfl rfl rfl (by kernel_rfl) ?_;refine zai (fun h=>trivial) ?_;refine qF [1,6] ?_;refine zai ?_ ?_
    · refine qF [6] ?_;refine zai (fun h=>⟨⟨h,trivial⟩,trivial⟩) ?_;refine qN 7 rfl ?_;refine zai (by exact fun h=>h) ?_;refine qN 8 rfl ?_;refine xI 9 rfl rfl rfl (by kernel_rfl) ?_;refine zai (fun h=>trivial) ?_;refine xI 10 rfl rfl rfl (by kernel_rfl) ?_;refine zai (fun h=>⟨⟨h,trivial⟩,trivial⟩) ?_;refine qN 11 rfl ?_;refine zai (by exact fun h=>h) ?_;refine qN 12 rfl ?_;refine qF [13] ?_;refine qN 14 rfl ?_;refine qS ?_;refine qM ?_;exact ⟨rfl,⟨rfl,rfl⟩,rfl⟩
    · refine zai (fun h=>⟨⟨h,trivial⟩,trivial⟩) ?_;refine qN 7 rfl ?_;refine zai (by exact fun h=>h) ?_;refine qN 8 rfl ?_;refine xI 9 rfl rfl rfl (by kernel_rfl) ?_;refine zai (fun h=>trivial) ?_;refine xI 10 rfl rfl rfl (by kernel_rfl) ?_;refine zai (fun h=>⟨⟨h,trivial⟩,trivial⟩) ?_;refine qN 11 rfl ?_;refine zai (by exact fun h=>h) ?_;refine qN 12 rfl ?_;refine qF [1] ?_;refine qF [13] ?_;refine qN 14 rfl ?_;refine qS ?_;refine qM ?_;exact ⟨rfl,⟨rfl,rfl⟩,rfl⟩
theorem lists_err (s : ByteArray) (hs : s.size ≤ 60000) {e : Int × Int} (hp : xG s = .inl e) : yE Tryz.prog 51 [is s] [] 0 (.tup [(false,[.lit (.pointer none)]),(true,zRL9),(false,[.lit (.bool false)])]) [] 0:=by
  have hof:=of_err s hs (at_:=e.1) (n:=e.2) hp;have hrf:=refOf_err s hs (at_:=e.1) (n:=e.2) hp;refine acallo_ofc3 (p:=2) (t:=3) (ty:=60) (u:=4) Tryz.func51 rfl rfl rfl teOk rfl rfl rfl ?_;refine qB ?_;refine qB ?_;refine Or.inl ?_;refine zai (rfl) ?_;refine zei _ (zai (hof) ?_);refine qB ?_;refine Or.inl ?_;refine zai (rfl) ?_;refine zei _ (zai (hrf) ?_);refine qJ ?_;refine yK rfl ?_;refine qN 0 rfl ?_;refine qN 2 rfl ?_;refine qF [1,3] ?_;refine zai ?_ ?_
  · refine qF [3] ?_;refine qN 4 rfl ?_;refine xI 5 rfl rfl rfl (by kernel_rfl) ?_;refine zai (fun h=>trivial) ?_;refine qF [6] ?_;refine zai (fun h=>⟨⟨h,trivial⟩,trivial⟩) ?_;refine qN 7 rfl ?_;refine zai (by exact fun h=>h) ?_;refine qN 8 rfl ?_;refine xI 9 rfl rfl rfl (by kernel_rfl) ?_;refine zai (fun h=>trivial) ?_;refine xI 10 rfl rfl rfl (by kernel_rfl) ?_;refine zai (fun h=>⟨⟨h,trivial⟩,trivial⟩) ?_;refine qN 11 rfl ?_;refine zai (by exact fun h=>h) ?_;refine qN 12 rfl ?_;refine qF [13] ?_;refine qN 14 rfl ?_;refine qS ?_;refine qM ?_;exact ⟨rfl,trivial,rfl⟩
  · refine qN 4 rfl ?_;refine xI 5 rfl rfl rfl (by kernel_rfl) ?_;refine zai (fun h=>trivial) ?_;refine qF [1,6] ?_;refine zai ?_ ?_
    · refine qF [6] ?_;refine zai (fun h=>⟨⟨h,trivial⟩,trivial⟩) ?_;refine qN 7 rfl ?_;refine zai (by exact fun h=>h) ?_;refine qN 8 rfl ?_;refine xI 9 rfl rfl rfl (by kernel_rfl) ?_;refine zai (fun h=>trivial) ?_;refine xI 10 rfl rfl rfl (by kernel_rfl) ?_;refine zai (fun h=>⟨⟨h,trivial⟩,trivial⟩) ?_;refine qN 11 rfl ?_;refine zai (by exact fun h=>h) ?_;refine qN 12 rfl ?_;refine qF [13] ?_;refine qN 14 rfl ?_;refine qS ?_;refine qM ?_;exact ⟨rfl,trivial,rfl⟩
    · refine zai (fun h=>⟨⟨h,trivial⟩,trivial⟩) ?_;refine qN 7 rfl ?_;refine zai (by exact fun h=>h) ?_;refine qN 8 rfl ?_;refine xI 9 rfl rfl rfl (by kernel_rfl) ?_;refine zai (fun h=>trivial) ?_;refine xI 10 rfl rfl rfl (by kernel_rfl) ?_;refine zai (fun h=>⟨⟨h,trivial⟩,trivial⟩) ?_;refine qN 11 rfl ?_;refine zai (by exact fun h=>h) ?_;refine qN 12 rfl ?_;refine qF [1] ?_;refine qF [13] ?_;refine qN 14 rfl ?_;refine qS ?_;refine qM ?_;exact ⟨rfl,trivial,rfl⟩
end Q
end Ab
end Go.Proofs.YtojipboabgebfaaGreatDoor
namespace Go.Proofs.YtojipboabgebfaaGreatDoor
open Go.RowKit
namespace Ab
set_option maxRecDepth 100000
abbrev rPr : Rd (Int × Int):=.st (.int .i64) (.int .i64)
namespace Q
theorem renamed_c {κ : Nat} (ps : List (Int × Int)) (id : Int) (hl : ps.length ≤ 1000000) : qX Tryz.prog 97 [.one (.slk κ rPr ps),ii .i64 id] (ii .i64 (renT ps id)):=by
  refine qV (rs:=[4]) Tryz.func97 rfl rfl rfl teOk rfl ?_;refine qB ?_;refine qJ ?_;refine qB ?_;intro l1_1
  try simp only [zds] at l1_1
  refine zob ?_;refine qQ ?_;refine qW (fun (i : Nat)=>i ≤ ps.length ∧ renT ps id = renT (ps.take i) id) (fun (i : Nat)=>[(0,.one (.slk κ rPr ps)),(1,ii .i64 id),(5,ii .i64 ((i : Int) - 1))]) (fun (i : Nat)=>[]) 0 (fun (i : Nat)=>i) ps.length (⟨Nat.le_refl _,by rw [List.take_length]⟩) (qP ⟨rfl,rfl,rfl⟩ trivial rfl) ?_;intro i hI0;obtain ⟨hil,hrn⟩:=hI0;refine qJ ?_;refine qB ?_;refine qK rfl (fun h10=>?_) (fun h10=>?_)
  ·try simp only [decide_eq_true_eq] at h10
   try simp only [zds] at h10
   obtain ⟨p,rfl⟩ : ∃ p,i = p + 1:=⟨i - 1,by omega⟩;have hpl : p < ps.length:=(by omega);have htk:=yL ((0 : Int),(0 : Int)) hpl;rw [← htk,ren_snoc] at hrn;rw [show ((p + 1 : Nat) : Int) - 1 = (p : Int) by omega];refine qL ?_;refine qJ ?_;refine qQ ?_;refine qB ?_;refine zai (by omega) ?_;refine zai (by decide) ?_;refine qK rfl (fun h19=>?_) (fun h19=>?_)
   ·try simp only [decide_eq_true_eq] at h19
    try simp only [Int.toNat_natCast,qG,qD] at h19
    have h19 : (ps.getD p ((0 : Int),(0 : Int))).1 = id:=h19;rw [if_pos h19] at hrn;refine qB ?_;refine zai (by omega) ?_;refine zai (by decide) ?_;refine qM ?_;exact qT hrn.symm
   ·try simp only [decide_eq_false_iff_not] at h19
    try simp only [Int.toNat_natCast,qG,qD] at h19
    have h19 : ¬ (ps.getD p ((0 : Int),(0 : Int))).1 = id:=h19;rw [if_neg h19] at hrn;refine qL ?_;refine qI ?_;refine zob ?_;exact ⟨p,⟨by omega,hrn⟩,by first|omega|(simp <;> omega),qP ⟨rfl,rfl,(qT (by omega))⟩ trivial rfl⟩
  ·try simp only [decide_eq_false_iff_not,Int.not_le] at h10
   try simp only [zds] at h10
   refine yA ?_;refine qB ?_;refine qM ?_;have e0 : i = 0:=by omega
   subst e0;exact qT hrn.symm
def befL (L : Lst) (s : List Edt) (i : Nat) : List RLs:=(List.range (i + 1)).map fun j=>((yB L s j).1,(yB L s j).2.1)
theorem bef_len (L : Lst) (s : List Edt) (i : Nat) : (befL L s i).length = i + 1:=by unfold befL;rw [List.length_map,List.length_range]
theorem bef_snoc (L : Lst) (s : List Edt) (i : Nat) : befL L s (i + 1) = befL L s i ++ [((yB L s (i + 1)).1,(yB L s (i + 1)).2.1)]:=by
  unfold befL;rw [List.range_succ (n:=i + 1),List.map_append];rfl
theorem bef_get (L : Lst) (s : List Edt) {i j : Nat} (h : j ≤ i) : (befL L s i).getD j (([] : List Ent),(0 : Int)) = ((yB L s j).1,(yB L s j).2.1):=by
  unfold befL;rw [List.getD_eq_getElem?_getD,List.getElem?_map,List.getElem?_range (by omega)];rfl
def idsB (L : Lst) (s : List Edt) (i : Nat) : List Int:=(List.range i).map fun j=>newN (yB L s j) (s.getD j ((0 : Int),(0 : Int),([] : List Fld)))
theorem ids_len' (L : Lst) (s : List Edt) (i : Nat) : (idsB L s i).length = i:=by unfold idsB;rw [List.length_map,List.length_range]
theorem ids_snoc' (L : Lst) (s : List Edt) (i : Nat) : idsB L s (i + 1) = idsB L s i ++ [newN (yB L s i) (s.getD i ((0 : Int),(0 : Int),([] : List Fld)))]:=by
  unfold idsB;rw [List.range_succ,List.map_append];rfl
theorem ids_get' (L : Lst) (s : List Edt) {i j : Nat} (h : j < i) : (idsB L s i).getD j 0 = newN (yB L s j) (s.getD j ((0 : Int),(0 : Int),([] : List Fld))):=by
  unfold idsB;rw [List.getD_eq_getElem?_getD,List.getElem?_map,List.getElem?_range h];rfl
theorem rk_rep {P : Lst} {x : Edt} (q : Bst) (h : x.1 = 1) : rkS (stpA P x) q = (q.1,q.2.1,q.2.2 ++ [(1,renT q.1 x.2.1,wasL P x.2.1)]):=by
  have hn : newN P x = 0:=by unfold newN;rw [if_pos (.inl h)]
  rw [rkS1 (s:=stpA P x) q h];unfold stpA;simp only [hn];rfl
theorem rk_del {P : Lst} {x : Edt} (q : Bst) (h : x.1 = 2) : rkS (stpA P x) q = (q.1 ++ [(x.2.1,q.2.1)],q.2.1 + 1,q.2.2 ++ [(3,renT q.1 (ahdL P.1 x.2.1),wasL P x.2.1)]):=by
  have hn : newN P x = 0:=by unfold newN;rw [if_pos (.inr h)]
  rw [rkS2 (s:=stpA P x) q h];unfold stpA;simp only [hn];rfl
theorem rk_ins {P : Lst} {x : Edt} (q : Bst) (h1 : ¬ x.1 = 1) (h2 : ¬ x.1 = 2) (h : 0 < newN P x) : rkS (stpA P x) q = (q.1,q.2.1,q.2.2 ++ [(2,renT q.1 (newN P x),[])]):=by
  rw [rkS3 (s:=stpA P x) q h1 h2];unfold stpA;simp only [if_pos h]
theorem acall_res {P : Program} {f : FuncId} {xs : List A} {r r' : A} (h : ∀ ok ρ w u,r.rep ok ρ w u → r'.rep ok ρ w u) (hc : qX P f xs r) : qX P f xs r' :=
  ⟨hc.1,fun ok w vs h1 h2=>(hc.2 ok w vs h1 h2).mono fun _ _ ⟨v,e1,e2,e3⟩=>⟨v,e1,e2,h _ _ _ _ e3⟩⟩
def itmW (P : Lst) (id : Int) : Itm:=(if atE P.1 id < 0 then 0 else (P.1.getD (atE P.1 id).toNat (((0 : Int),ByteArray.empty,([] : List Fld)),(0 : Int))).1.1,if atE P.1 id < 0 then ⟨#[]⟩ else (P.1.getD (atE P.1 id).toNat (((0 : Int),ByteArray.empty,([] : List Fld)),(0 : Int))).1.2.1,wasL P id)
theorem refGetW_c (P : Lst) (id : Int) : qX Tryz.prog 96 [.agg (toL rRL (P.1,P.2.1)),ii .i64 id] (.tup [(true,toL rItm (itmW P id)),(false,[.lit (.bool (decide (¬ atE P.1 id < 0)))])]):=by
  by_cases h : atE P.1 id < 0
  · refine acall_res (fun ok ρ w u hr=>?_) (refGet_no P.1 P.2.1 id h);obtain ⟨vs,e,v,r,e1,⟨cs,e5,hc⟩,v2,r2,e2,⟨b,t2,hb,hb2,ht2⟩,h3⟩:=hr;obtain ⟨a1,b1,f1,k1,a2,b2,f2,k2,a3,b3,f3,k3,k4⟩:=hc;refine ⟨vs,e,v,r,e1,⟨cs,e5,⟨a1,b1,f1,?_,a2,b2,f2,?_,a3,b3,f3,?_,k4⟩⟩,v2,r2,e2,⟨b,t2,hb,(by rw [decide_eq_false (fun g=>g h)];exact hb2),ht2⟩,h3⟩
    · unfold itmW;simp only [if_pos h];exact k1
    · unfold itmW;simp only [if_pos h];exact k2
    · unfold itmW wasL;simp only [if_pos h];rw [show a3 = _ from k3];exact slOk_nil
  · refine acall_res (fun ok ρ w u hr=>?_) (refGet_c P.1 P.2.1 id h);obtain ⟨vs,e,v,r,e1,hc,v2,r2,e2,⟨b,t2,hb,hb2,ht2⟩,h3⟩:=hr;refine ⟨vs,e,v,r,e1,?_,v2,r2,e2,⟨b,t2,hb,(by rw [decide_eq_true h];exact hb2),ht2⟩,h3⟩;have e9 : itmW P id = (P.1.getD (atE P.1 id).toNat (((0 : Int),ByteArray.empty,([] : List Fld)),(0 : Int))).1:=by unfold itmW wasL getL;simp only [if_neg h]
    rw [e9];exact hc
set_option maxHeartbeats 8000000 in
theorem refBack_c {c : Nat} (L : Lst) (s : List Edt) (hL : LOk c L) (hc : c + s.length ≤ 200000) (hf : ∀ e ∈ s,yO e.2.2) (h : (chkB s).2 = 0) (ht : ∀ j,j < s.length → oneN (yB L s j) (s.getD j ((0 : Int),(0 : Int),([] : List Fld))) = 0) :
    qX Tryz.prog 56 [.agg (toL rRL (L.1,L.2.1)),.one (.sl rEdt s)] (.one (.sl rEdt (bkL L s))):=by
  have hpl:=(plays_ok hL hf s.length (Nat.le_refl _)).next;have hbe : bkL L s = (rkR (yB L s s.length).2.1 (stps L s)).2.2:=by rw [(rk_eq _ _).2];unfold bkL;rw [run_plays]
  have hsl:=stps_len s L;have hkd:=kinds_good h;obtain ⟨T,hT⟩ : ∃ T,stps L s = T:=⟨_,rfl⟩;have hgT : ∀ p,p < s.length → T.getD p (((0 : Int),(0 : Int),([] : List Fld)),([] : List Fld),(0 : Int)) = stpA (yB L s p) (s.getD p ((0 : Int),(0 : Int),([] : List Fld))):=fun p hp=>by rw [← hT];exact stps_get s L p hp
  rw [hT] at hbe hsl;obtain ⟨N,hN⟩ : ∃ N,(yB L s s.length).2.1 = N:=⟨_,rfl⟩;rw [hN] at hpl hbe;refine qV (rs:=[4]) Tryz.func56 rfl rfl rfl teOk rfl ?_;refine qB ?_;refine qB ?_;refine qB ?_;refine qJ ?_;refine qJ ?_;refine yW 6 3 (.int .i64) rfl ?_;refine qI ?_;refine qQ ?_;refine qW (fun (i : Nat)=>i ≤ s.length) (fun (i : Nat)=>[(1,.one (.sl rEdt s)),(5,.one (.vec 1)),(6,.one (.vec 2)),(7,ii .i64 i)]) (fun (i : Nat)=>[(1,.vec 60 rRL (befL L s i)),(2,.vec 3 (.int .i64) (idsB L s i))]) 3 (fun (i : Nat)=>s.length - i) 0 (Nat.zero_le _) (qP ⟨rfl,rfl,rfl,rfl⟩ ⟨rfl,rfl⟩ rfl) ?_;intro i hI0;have hbl:=bef_len L s i;have hil':=ids_len' L s i;refine qJ ?_;refine qB ?_;intro l4_2
  try simp only [zds] at l4_2
  refine qK rfl (fun h25=>?_) (fun h25=>?_)
  ·try simp only [decide_eq_true_eq] at h25
   try simp only [zds] at h25
   have hil : i < s.length:=(by omega);obtain ⟨hLi,hfe⟩:=took hL hf hil;have hsn:=plays_snoc L hil;have hbg:=bef_get L s (Nat.le_refl i);have hbs:=bef_snoc L s i;have hids:=ids_snoc' L s i;have hone:=kA (yB L s i) hLi (by omega) (s.getD i ((0 : Int),(0 : Int),([] : List Fld))) hfe;rw [← hbg,← hsn] at hone;refine qL ?_;refine qJ ?_;refine qQ ?_;refine qJ ?_;refine yK rfl ?_;refine qN 0 rfl ?_;refine qN 1 rfl ?_;refine qN 2 rfl ?_;refine zai (by omega) ?_;refine qN 4 rfl ?_;refine qN 5 rfl ?_;refine qN 6 rfl ?_;refine zai (by omega) ?_;refine qF [3,7,13] ?_;refine zai ?_ ?_
   ·refine zai (by (simp only [Int.toNat_natCast];omega)) ?_;refine qF [7,13] ?_;refine zai ?_ ?_
    ·refine qF [8,13] ?_;refine zai ?_ ?_
     ·refine Or.inl ?_;refine zai (rfl) ?_;refine zei _ (zai (hone) ?_);refine qN 9 rfl ?_;refine qN 10 rfl ?_;refine qN 11 rfl ?_;refine qN 12 rfl ?_;refine qF [13] ?_;refine qF [14] ?_;refine qN 15 rfl ?_;refine qN 16 rfl ?_;refine qS ?_;refine qB ?_;refine zai (by exact qO (show (befL L s i).length + 1 ≤ 1000000000 by omega) (by decide)) ?_;refine qI ?_;refine zai (by exact qO (show (idsB L s i).length + 1 ≤ 1000000000 by omega) (by decide)) ?_;refine qI ?_;refine zob ?_;exact ⟨i + 1,by omega,by first|omega|(simp <;> omega),qP ⟨rfl,rfl,rfl,(qT (by omega))⟩ ⟨(qR (by rw [hbs];try exact rfl)),(qR (by rw [hids];try exact rfl))⟩ rfl⟩
     ·refine qF [8] ?_;refine Or.inl ?_;refine zai (rfl) ?_;refine zei _ (zai (hone) ?_);refine qN 9 rfl ?_;refine qN 10 rfl ?_;refine qN 11 rfl ?_;refine qN 12 rfl ?_;refine qF [14] ?_;refine qN 15 rfl ?_;refine qN 16 rfl ?_;refine qS ?_;refine qB ?_;refine zai (by exact qO (show (befL L s i).length + 1 ≤ 1000000000 by omega) (by decide)) ?_;refine qI ?_;refine zai (by exact qO (show (idsB L s i).length + 1 ≤ 1000000000 by omega) (by decide)) ?_;refine qI ?_;refine zob ?_;exact ⟨i + 1,by omega,by first|omega|(simp <;> omega),qP ⟨rfl,rfl,rfl,(qT (by omega))⟩ ⟨(qR (by rw [hbs];try exact rfl)),(qR (by rw [hids];try exact rfl))⟩ rfl⟩
    ·refine qF [7] ?_;refine qF [8] ?_;refine Or.inl ?_;refine zai (rfl) ?_;refine zei _ (zai (hone) ?_);refine qN 9 rfl ?_;refine qN 10 rfl ?_;refine qN 11 rfl ?_;refine qN 12 rfl ?_;refine qF [14] ?_;refine qN 15 rfl ?_;refine qN 16 rfl ?_;refine qS ?_;refine qB ?_;refine zai (by exact qO (show (befL L s i).length + 1 ≤ 1000000000 by omega) (by decide)) ?_;refine qI ?_;refine zai (by exact qO (show (idsB L s i).length + 1 ≤ 1000000000 by omega) (by decide)) ?_;refine qI ?_;refine zob ?_;exact ⟨i + 1,by omega,by first|omega|(simp <;> omega),qP ⟨rfl,rfl,rfl,(qT (by omega))⟩ ⟨(qR (by rw [hbs];try exact rfl)),(qR (by rw [hids];try exact rfl))⟩ rfl⟩
   refine zai ?_ ?_
   ·refine qF [3,13] ?_;refine zai ?_ ?_
    ·refine zai (by (simp only [Int.toNat_natCast];omega)) ?_;refine qF [8,13] ?_;refine zai ?_ ?_
     ·refine Or.inl ?_;refine zai (rfl) ?_;refine zei _ (zai (hone) ?_);refine qN 9 rfl ?_;refine qN 10 rfl ?_;refine qN 11 rfl ?_;refine qN 12 rfl ?_;refine qF [13] ?_;refine qF [14] ?_;refine qN 15 rfl ?_;refine qN 16 rfl ?_;refine qS ?_;refine qB ?_;refine zai (by exact qO (show (befL L s i).length + 1 ≤ 1000000000 by omega) (by decide)) ?_;refine qI ?_;refine zai (by exact qO (show (idsB L s i).length + 1 ≤ 1000000000 by omega) (by decide)) ?_;refine qI ?_;refine zob ?_;exact ⟨i + 1,by omega,by first|omega|(simp <;> omega),qP ⟨rfl,rfl,rfl,(qT (by omega))⟩ ⟨(qR (by rw [hbs];try exact rfl)),(qR (by rw [hids];try exact rfl))⟩ rfl⟩
     ·refine qF [8] ?_;refine Or.inl ?_;refine zai (rfl) ?_;refine zei _ (zai (hone) ?_);refine qN 9 rfl ?_;refine qN 10 rfl ?_;refine qN 11 rfl ?_;refine qN 12 rfl ?_;refine qF [14] ?_;refine qN 15 rfl ?_;refine qN 16 rfl ?_;refine qS ?_;refine qB ?_;refine zai (by exact qO (show (befL L s i).length + 1 ≤ 1000000000 by omega) (by decide)) ?_;refine qI ?_;refine zai (by exact qO (show (idsB L s i).length + 1 ≤ 1000000000 by omega) (by decide)) ?_;refine qI ?_;refine zob ?_;exact ⟨i + 1,by omega,by first|omega|(simp <;> omega),qP ⟨rfl,rfl,rfl,(qT (by omega))⟩ ⟨(qR (by rw [hbs];try exact rfl)),(qR (by rw [hids];try exact rfl))⟩ rfl⟩
    ·refine qF [3] ?_;refine zai (by (simp only [Int.toNat_natCast];omega)) ?_;refine qF [8] ?_;refine Or.inl ?_;refine zai (rfl) ?_;refine zei _ (zai (hone) ?_);refine qN 9 rfl ?_;refine qN 10 rfl ?_;refine qN 11 rfl ?_;refine qN 12 rfl ?_;refine qF [14] ?_;refine qN 15 rfl ?_;refine qN 16 rfl ?_;refine qS ?_;refine qB ?_;refine zai (by exact qO (show (befL L s i).length + 1 ≤ 1000000000 by omega) (by decide)) ?_;refine qI ?_;refine zai (by exact qO (show (idsB L s i).length + 1 ≤ 1000000000 by omega) (by decide)) ?_;refine qI ?_;refine zob ?_;exact ⟨i + 1,by omega,by first|omega|(simp <;> omega),qP ⟨rfl,rfl,rfl,(qT (by omega))⟩ ⟨(qR (by rw [hbs];try exact rfl)),(qR (by rw [hids];try exact rfl))⟩ rfl⟩
   ·refine qF [3,7] ?_;refine zai ?_ ?_
    ·refine zai (by (simp only [Int.toNat_natCast];omega)) ?_;refine qF [7] ?_;refine qF [8] ?_;refine Or.inl ?_;refine zai (rfl) ?_;refine zei _ (zai (hone) ?_);refine qN 9 rfl ?_;refine qN 10 rfl ?_;refine qN 11 rfl ?_;refine qN 12 rfl ?_;refine qF [14] ?_;refine qN 15 rfl ?_;refine qN 16 rfl ?_;refine qS ?_;refine qB ?_;refine zai (by exact qO (show (befL L s i).length + 1 ≤ 1000000000 by omega) (by decide)) ?_;refine qI ?_;refine zai (by exact qO (show (idsB L s i).length + 1 ≤ 1000000000 by omega) (by decide)) ?_;refine qI ?_;refine zob ?_;exact ⟨i + 1,by omega,by first|omega|(simp <;> omega),qP ⟨rfl,rfl,rfl,(qT (by omega))⟩ ⟨(qR (by rw [hbs];try exact rfl)),(qR (by rw [hids];try exact rfl))⟩ rfl⟩
    ·refine qF [3] ?_;refine zai (by (simp only [Int.toNat_natCast];omega)) ?_;refine qF [8] ?_;refine Or.inl ?_;refine zai (rfl) ?_;refine zei _ (zai (hone) ?_);refine qN 9 rfl ?_;refine qN 10 rfl ?_;refine qN 11 rfl ?_;refine qN 12 rfl ?_;refine qF [14] ?_;refine qN 15 rfl ?_;refine qN 16 rfl ?_;refine qS ?_;refine qB ?_;refine zai (by exact qO (show (befL L s i).length + 1 ≤ 1000000000 by omega) (by decide)) ?_;refine qI ?_;refine zai (by exact qO (show (idsB L s i).length + 1 ≤ 1000000000 by omega) (by decide)) ?_;refine qI ?_;refine zob ?_;exact ⟨i + 1,by omega,by first|omega|(simp <;> omega),qP ⟨rfl,rfl,rfl,(qT (by omega))⟩ ⟨(qR (by rw [hbs];try exact rfl)),(qR (by rw [hids];try exact rfl))⟩ rfl⟩
  ·try simp only [decide_eq_false_iff_not,Int.not_lt] at h25
   try simp only [zds] at h25
   refine yA ?_;have hie : i = s.length:=(by omega);subst hie;have hbg:=bef_get L s (Nat.le_refl s.length);refine qB ?_;intro l9_2
   try simp only [zds] at l9_2
   refine zai (by omega) ?_;refine zai (by (simp only [Int.toNat_natCast];omega)) ?_;refine qB ?_;refine qB ?_;refine qJ ?_;refine qJ ?_;refine yW 12 185 rPr rfl ?_;refine yW 13 31 rEdt rfl ?_;refine qI ?_;intro l12_1
   try simp only [zds] at l12_1
   refine zob ?_;refine qQ ?_;refine qW (fun (i : Nat)=>i ≤ s.length) (fun (i : Nat)=>[(1,.one (.sl rEdt s)),(5,.one (.vec 1)),(6,.one (.vec 2)),(11,ii .i64 (rkR N (T.drop (T.length - i))).2.1),(12,.one (.vec 3)),(13,.one (.vec 4)),(14,ii .i64 ((s.length : Int) - 1 - i))]) (fun (i : Nat)=>[(1,.vec 60 rRL (befL L s s.length)),(2,.vec 3 (.int .i64) (idsB L s s.length)),(3,.vec 185 rPr (rkR N (T.drop (T.length - i))).1),(4,.vec 31 rEdt (rkR N (T.drop (T.length - i))).2.2)]) 5 (fun (i : Nat)=>s.length - i) 0 (Nat.zero_le _) (qP ⟨rfl,rfl,rfl,(qT (by rw [Nat.sub_zero,List.drop_length];exact (congrArg Prod.snd hbg).trans hN)),rfl,rfl,(qT (by omega))⟩ ⟨rfl,rfl,(qR (by rw [Nat.sub_zero,List.drop_length];rfl)),(qR (by rw [Nat.sub_zero,List.drop_length];rfl))⟩ rfl) ?_;intro i hI2;refine qJ ?_;refine qB ?_;refine qK rfl (fun h59=>?_) (fun h59=>?_)
   ·try simp only [decide_eq_true_eq] at h59
    try simp only [zds] at h59
    have hil : i < s.length:=(by omega);have eS:=rk_back N T (show i < T.length by omega);have hql:=rkR_len N (T.drop (T.length - i));rw [List.length_drop] at hql;obtain ⟨p,hp⟩ : ∃ p,s.length - 1 - i = p:=⟨_,rfl⟩;have hps : p < s.length:=(by omega);rw [show T.length - 1 - i = p by omega,hgT p hps] at eS;rw [show (s.length : Int) - 1 - (i : Int) = (p : Int) by omega];obtain ⟨q,hq⟩ : ∃ q,rkR N (T.drop (T.length - i)) = q:=⟨_,rfl⟩;rw [hq] at eS hql ⊢;obtain ⟨hLp,hfp⟩:=took hL hf hps;have h1p:=ht p hps;have hkp:=hkd _ (yT hps ((0 : Int),(0 : Int),([] : List Fld)));have hbp:=bef_get L s (show p ≤ s.length by omega);have hip:=ids_get' L s hps;have hLl:=hLp.len;have hLn:=hLp.next;have hbl':=bef_len L s s.length;have hil2:=ids_len' L s s.length;have hre1:=renamed_c (κ:=1) q.1 (s.getD p ((0 : Int),(0 : Int),([] : List Fld))).2.1 (by omega);have hre2:=renamed_c (κ:=1) q.1 (newN (yB L s p) (s.getD p ((0 : Int),(0 : Int),([] : List Fld)))) (by omega);have hre3:=renamed_c (κ:=1) q.1 (ahdL (yB L s p).1 (s.getD p ((0 : Int),(0 : Int),([] : List Fld))).2.1) (by omega);rw [← hip] at hre2;have hgw:=refGetW_c (yB L s p) (s.getD p ((0 : Int),(0 : Int),([] : List Fld))).2.1;have hplc:=refPlc_c (yB L s p).1 (yB L s p).2.1 (s.getD p ((0 : Int),(0 : Int),([] : List Fld))).2.1 (by omega);have hrst:=refStz_c (yB L s p).1 (yB L s p).2.1 (by omega);have hplt:=plc_lt (yB L s p).1 (s.getD p ((0 : Int),(0 : Int),([] : List Fld))).2.1;have hstl:=stz_le (yB L s p).1;rw [← hbp] at hgw hplc hrst;refine qL ?_;refine qJ ?_;refine qQ ?_;refine qB ?_;refine zai (by omega) ?_;refine acode_cut (fun (u : Unit)=>True) (fun (u : Unit)=>[(1,.one (.sl rEdt s)),(5,.one (.vec 1)),(6,.one (.vec 2)),(11,ii .i64 q.2.1),(12,.one (.vec 3)),(13,.one (.vec 4)),(14,ii .i64 p),(15,.one (.own 5 0)),(16,.one (.own 6 0))]) (fun (u : Unit)=>[(1,.vec 60 rRL (befL L s s.length)),(2,.vec 3 (.int .i64) (idsB L s s.length)),(3,.vec 185 rPr q.1),(4,.vec 31 rEdt q.2.2),(5,.box 31 (toL rEdt (s.getD p ((0 : Int),(0 : Int),([] : List Fld))))),(6,.box 136 (toL rItm (itmW (yB L s p) (s.getD p ((0 : Int),(0 : Int),([] : List Fld))).2.1)))]) 7 ?_ ?_
    ·refine yK rfl ?_;refine qN 0 rfl ?_;refine qN 1 rfl ?_;refine qN 2 rfl ?_;refine zai (by omega) ?_;refine qN 4 rfl ?_;refine qF [3,5,10] ?_;refine zai ?_ ?_
     ·refine zai (by (simp only [Int.toNat_natCast];omega)) ?_;refine qF [5,10] ?_;refine zai ?_ ?_
      ·refine qF [6,10] ?_;refine zai ?_ ?_
       ·refine Or.inl ?_;refine zai (rfl) ?_;refine zei _ (zai (hgw) ?_);refine qN 7 rfl ?_;refine qN 8 rfl ?_;refine qN 9 rfl ?_;refine qF [10] ?_;refine qF [11] ?_;refine qN 12 rfl ?_;refine qS ?_;exact ⟨(),trivial,qP ⟨rfl,rfl,rfl,rfl,rfl,rfl,rfl,rfl,rfl⟩ ⟨rfl,rfl,rfl,rfl,rfl,rfl⟩ rfl⟩
       ·refine qF [6] ?_;refine Or.inl ?_;refine zai (rfl) ?_;refine zei _ (zai (hgw) ?_);refine qN 7 rfl ?_;refine qN 8 rfl ?_;refine qN 9 rfl ?_;refine qF [11] ?_;refine qN 12 rfl ?_;refine qS ?_;exact ⟨(),trivial,qP ⟨rfl,rfl,rfl,rfl,rfl,rfl,rfl,rfl,rfl⟩ ⟨rfl,rfl,rfl,rfl,rfl,rfl⟩ rfl⟩
      ·refine qF [5] ?_;refine qF [6] ?_;refine Or.inl ?_;refine zai (rfl) ?_;refine zei _ (zai (hgw) ?_);refine qN 7 rfl ?_;refine qN 8 rfl ?_;refine qN 9 rfl ?_;refine qF [11] ?_;refine qN 12 rfl ?_;refine qS ?_;exact ⟨(),trivial,qP ⟨rfl,rfl,rfl,rfl,rfl,rfl,rfl,rfl,rfl⟩ ⟨rfl,rfl,rfl,rfl,rfl,rfl⟩ rfl⟩
     refine zai ?_ ?_
     ·refine qF [3,10] ?_;refine zai ?_ ?_
      ·refine zai (by (simp only [Int.toNat_natCast];omega)) ?_;refine qF [6,10] ?_;refine zai ?_ ?_
       ·refine Or.inl ?_;refine zai (rfl) ?_;refine zei _ (zai (hgw) ?_);refine qN 7 rfl ?_;refine qN 8 rfl ?_;refine qN 9 rfl ?_;refine qF [10] ?_;refine qF [11] ?_;refine qN 12 rfl ?_;refine qS ?_;exact ⟨(),trivial,qP ⟨rfl,rfl,rfl,rfl,rfl,rfl,rfl,rfl,rfl⟩ ⟨rfl,rfl,rfl,rfl,rfl,rfl⟩ rfl⟩
       ·refine qF [6] ?_;refine Or.inl ?_;refine zai (rfl) ?_;refine zei _ (zai (hgw) ?_);refine qN 7 rfl ?_;refine qN 8 rfl ?_;refine qN 9 rfl ?_;refine qF [11] ?_;refine qN 12 rfl ?_;refine qS ?_;exact ⟨(),trivial,qP ⟨rfl,rfl,rfl,rfl,rfl,rfl,rfl,rfl,rfl⟩ ⟨rfl,rfl,rfl,rfl,rfl,rfl⟩ rfl⟩
      ·refine qF [3] ?_;refine zai (by (simp only [Int.toNat_natCast];omega)) ?_;refine qF [6] ?_;refine Or.inl ?_;refine zai (rfl) ?_;refine zei _ (zai (hgw) ?_);refine qN 7 rfl ?_;refine qN 8 rfl ?_;refine qN 9 rfl ?_;refine qF [11] ?_;refine qN 12 rfl ?_;refine qS ?_;exact ⟨(),trivial,qP ⟨rfl,rfl,rfl,rfl,rfl,rfl,rfl,rfl,rfl⟩ ⟨rfl,rfl,rfl,rfl,rfl,rfl⟩ rfl⟩
     ·refine qF [3,5] ?_;refine zai ?_ ?_
      ·refine zai (by (simp only [Int.toNat_natCast];omega)) ?_;refine qF [5] ?_;refine qF [6] ?_;refine Or.inl ?_;refine zai (rfl) ?_;refine zei _ (zai (hgw) ?_);refine qN 7 rfl ?_;refine qN 8 rfl ?_;refine qN 9 rfl ?_;refine qF [11] ?_;refine qN 12 rfl ?_;refine qS ?_;exact ⟨(),trivial,qP ⟨rfl,rfl,rfl,rfl,rfl,rfl,rfl,rfl,rfl⟩ ⟨rfl,rfl,rfl,rfl,rfl,rfl⟩ rfl⟩
      ·refine qF [3] ?_;refine zai (by (simp only [Int.toNat_natCast];omega)) ?_;refine qF [6] ?_;refine Or.inl ?_;refine zai (rfl) ?_;refine zei _ (zai (hgw) ?_);refine qN 7 rfl ?_;refine qN 8 rfl ?_;refine qN 9 rfl ?_;refine qF [11] ?_;refine qN 12 rfl ?_;refine qS ?_;exact ⟨(),trivial,qP ⟨rfl,rfl,rfl,rfl,rfl,rfl,rfl,rfl,rfl⟩ ⟨rfl,rfl,rfl,rfl,rfl,rfl⟩ rfl⟩
    ·intro u hcut17;refine qB ?_;refine qK rfl (fun h78=>?_) (fun h78=>?_)
     ·try simp only [decide_eq_true_eq] at h78
      try simp only [zds] at h78
      rw [rk_rep q h78] at eS;refine yK rfl ?_;refine qN 0 rfl ?_;refine qN 1 rfl ?_;refine qN 2 rfl ?_;refine qN 5 rfl ?_;refine qF [3,6] ?_;refine zai ?_ ?_
      ·refine qF [4,6] ?_;refine zai ?_ ?_
       ·refine Or.inr (Or.inr (Or.inl ?_));refine zai rfl ?_;refine zei _ (zai (hre1) ?_);refine qF [6] ?_;refine qF [7] ?_;refine qF [8] ?_;refine qF [9] ?_;refine zai (by exact qO (show q.2.2.length + 1 ≤ 1000000000 by omega) (by decide)) ?_;refine qN 10 rfl ?_;refine qS ?_;refine qI ?_;refine zob ?_;exact ⟨i + 1,by omega,by first|omega|(simp <;> omega),qP ⟨rfl,rfl,rfl,(qT (by rw [eS])),rfl,rfl,(qT (by omega))⟩ ⟨rfl,rfl,(qR (by rw [eS];try exact rfl)),(qR (by rw [eS];first|exact rfl|(rw [← hip];exact rfl)))⟩ rfl⟩
       ·refine qF [4] ?_;refine Or.inr (Or.inr (Or.inl ?_));refine zai rfl ?_;refine zei _ (zai (hre1) ?_);refine qF [7] ?_;refine qF [8] ?_;refine qF [9] ?_;refine zai (by exact qO (show q.2.2.length + 1 ≤ 1000000000 by omega) (by decide)) ?_;refine qN 10 rfl ?_;refine qS ?_;refine qI ?_;refine zob ?_;exact ⟨i + 1,by omega,by first|omega|(simp <;> omega),qP ⟨rfl,rfl,rfl,(qT (by rw [eS])),rfl,rfl,(qT (by omega))⟩ ⟨rfl,rfl,(qR (by rw [eS];try exact rfl)),(qR (by rw [eS];first|exact rfl|(rw [← hip];exact rfl)))⟩ rfl⟩
      ·refine qF [3] ?_;refine qF [4] ?_;refine Or.inr (Or.inr (Or.inl ?_));refine zai rfl ?_;refine zei _ (zai (hre1) ?_);refine qF [7] ?_;refine qF [8] ?_;refine qF [9] ?_;refine zai (by exact qO (show q.2.2.length + 1 ≤ 1000000000 by omega) (by decide)) ?_;refine qN 10 rfl ?_;refine qS ?_;refine qI ?_;refine zob ?_;exact ⟨i + 1,by omega,by first|omega|(simp <;> omega),qP ⟨rfl,rfl,rfl,(qT (by rw [eS])),rfl,rfl,(qT (by omega))⟩ ⟨rfl,rfl,(qR (by rw [eS];try exact rfl)),(qR (by rw [eS];first|exact rfl|(rw [← hip];exact rfl)))⟩ rfl⟩
     ·try simp only [decide_eq_false_iff_not] at h78
      try simp only [zds] at h78
      refine qB ?_;refine qK rfl (fun h91=>?_) (fun h91=>?_)
      ·try simp only [decide_eq_true_eq] at h91
       try simp only [zds] at h91
       have hnw : newN (yB L s p) (s.getD p ((0 : Int),(0 : Int),([] : List Fld))) = (yB L s p).2.1:=(by unfold newN;rw [if_neg (by omega),if_pos h1p]);rw [rk_ins q h78 (by omega) (by omega)] at eS;refine qI ?_;refine zai (by omega) ?_;refine zai (by (simp only [Int.toNat_natCast];omega)) ?_;refine Or.inr (Or.inr (Or.inl ?_));refine zai rfl ?_;refine zei _ (zai (hre2) ?_);refine zai (by exact qO (show q.2.2.length + 1 ≤ 1000000000 by omega) (by decide)) ?_;refine qI ?_;refine zob ?_;exact ⟨i + 1,by omega,by first|omega|(simp <;> omega),qP ⟨rfl,rfl,rfl,(qT (by rw [eS])),rfl,rfl,(qT (by omega))⟩ ⟨rfl,rfl,(qR (by rw [eS];try exact rfl)),(qR (by rw [eS];first|exact rfl|(rw [← hip];exact rfl)))⟩ rfl⟩
      ·try simp only [decide_eq_false_iff_not] at h91
       try simp only [zds] at h91
       rw [rk_del q (by omega)] at eS;refine qJ ?_;refine acode_draw rfl (by kernel_rfl) ?_;refine zai (by omega) ?_;refine zai (by (simp only [Int.toNat_natCast];omega)) ?_;refine zai (rfl) ?_;refine zei _ (zai (hplc) ?_);refine qB ?_;refine acode_cut (fun (u : Unit)=>True) (fun (u : Unit)=>[(1,.one (.sl rEdt s)),(5,.one (.vec 1)),(6,.one (.vec 2)),(11,ii .i64 q.2.1),(12,.one (.vec 3)),(13,.one (.vec 4)),(14,ii .i64 p),(15,.one (.own 5 0)),(16,.one (.own 6 0)),(19,ii .i64 (ahdL (yB L s p).1 (s.getD p ((0 : Int),(0 : Int),([] : List Fld))).2.1))]) (fun (u : Unit)=>[(1,.vec 60 rRL (befL L s s.length)),(2,.vec 3 (.int .i64) (idsB L s s.length)),(3,.vec 185 rPr q.1),(4,.vec 31 rEdt q.2.2),(5,.box 31 (toL rEdt (s.getD p ((0 : Int),(0 : Int),([] : List Fld))))),(6,.box 136 (toL rItm (itmW (yB L s p) (s.getD p ((0 : Int),(0 : Int),([] : List Fld))).2.1)))]) 7 ?_ ?_
       ·refine qB ?_;refine qK rfl (fun h110=>?_) (fun h110=>?_)
        ·try simp only [decide_eq_true_eq] at h110
         try simp only [zds] at h110
         refine qI ?_;refine zai (by omega) ?_;refine zai (by (simp only [Int.toNat_natCast];omega)) ?_;refine Or.inl ?_;refine zai (rfl) ?_;refine zei _ (zai (hrst) ?_);refine zob ?_;refine zai (by omega) ?_;exact ⟨(),trivial,qP ⟨rfl,rfl,rfl,rfl,rfl,rfl,rfl,rfl,rfl,(qT (by unfold ahdL;first|(rw [if_pos h110];exact rfl)|(rw [if_neg (by omega)])))⟩ ⟨rfl,rfl,rfl,rfl,rfl,rfl⟩ rfl⟩
        ·try simp only [decide_eq_false_iff_not,Int.not_lt] at h110
         try simp only [zds] at h110
         refine qL ?_;exact ⟨(),trivial,qP ⟨rfl,rfl,rfl,rfl,rfl,rfl,rfl,rfl,rfl,(qT (by unfold ahdL;first|(rw [if_pos h110];exact rfl)|(rw [if_neg (by omega)])))⟩ ⟨rfl,rfl,rfl,rfl,rfl,rfl⟩ rfl⟩
       ·intro u hcut25;refine qJ ?_;refine yK rfl ?_;refine qN 0 rfl ?_;refine qN 1 rfl ?_;refine qN 2 rfl ?_;refine qN 4 rfl ?_;refine qF [3,5] ?_;refine zai ?_ ?_
        ·refine Or.inr (Or.inr (Or.inl ?_));refine zai rfl ?_;refine zei _ (zai (hre3) ?_);refine qF [5] ?_;refine qF [6] ?_;refine qF [7] ?_;refine qF [8] ?_;refine zai (by exact qO (show q.2.2.length + 1 ≤ 1000000000 by omega) (by decide)) ?_;refine qN 9 rfl ?_;refine qS ?_;refine qB ?_;refine zai (by exact qO (show q.1.length + 1 ≤ 1000000000 by omega) (by decide)) ?_;refine qI ?_;refine zai (by omega) ?_;refine qI ?_;refine zob ?_;exact ⟨i + 1,by omega,by first|omega|(simp <;> omega),qP ⟨rfl,rfl,rfl,(qT (by rw [eS])),rfl,rfl,(qT (by omega))⟩ ⟨rfl,rfl,(qR (by rw [eS];try exact rfl)),(qR (by rw [eS];first|exact rfl|(rw [← hip];exact rfl)))⟩ rfl⟩
        ·refine qF [3] ?_;refine Or.inr (Or.inr (Or.inl ?_));refine zai rfl ?_;refine zei _ (zai (hre3) ?_);refine qF [6] ?_;refine qF [7] ?_;refine qF [8] ?_;refine zai (by exact qO (show q.2.2.length + 1 ≤ 1000000000 by omega) (by decide)) ?_;refine qN 9 rfl ?_;refine qS ?_;refine qB ?_;refine zai (by exact qO (show q.1.length + 1 ≤ 1000000000 by omega) (by decide)) ?_;refine qI ?_;refine zai (by omega) ?_;refine qI ?_;refine zob ?_;exact ⟨i + 1,by omega,by first|omega|(simp <;> omega),qP ⟨rfl,rfl,rfl,(qT (by rw [eS])),rfl,rfl,(qT (by omega))⟩ ⟨rfl,rfl,(qR (by rw [eS];try exact rfl)),(qR (by rw [eS];first|exact rfl|(rw [← hip];exact rfl)))⟩ rfl⟩
   ·try simp only [decide_eq_false_iff_not,Int.not_le] at h59
    try simp only [zds] at h59
    refine yA ?_;refine qB ?_;refine yH [4] ?_;refine qM ?_;have hie : i = s.length:=(by omega);rw [hie,show T.length - s.length = 0 by omega,List.drop_zero,hbe];exact rfl
end Q
end Ab
end Go.Proofs.YtojipboabgebfaaGreatDoor
namespace Go.Proofs.YtojipboabgebfaaGreatDoor
open Go.RowKit
namespace Ab
set_option maxRecDepth 100000
namespace Q
theorem isNoneF_c (i : Int) : qX Tryz.prog 20 [.one (errF i 7),ii .i64 7] (ib true):=by
  refine qV (rs:=[4]) Tryz.func20 rfl rfl rfl teOk rfl ?_;refine qB ?_;refine qB ?_;refine Or.inl ?_;refine zai (rfl) ?_;refine zei _ (zai (num_fault i 7 (by decide)) ?_);refine qM ?_;rfl
def alS : List Edt:=[(2,1,[]),(1,1,[(⟨#[65]⟩,ByteArray.empty)])]
theorem alS_ok : ∀ e ∈ alS,yO e.2.2:=by
  intro e he;rcases List.mem_cons.1 he with rfl|he
  · exact ⟨by decide,by decide⟩
  · rw [List.mem_singleton.1 he];exact ⟨by decide,by decide⟩
theorem alS_bad {κ κ' k : Nat} : qX Tryz.prog 57 [.one (.adk k (rLst k) (al0,2,1)),.one (.slk κ (rEdk κ') alS)] (.tup [(false,[.lit (.pointer none)]),(false,[.lit (.slice none 0 0)]),(false,[errF 1 7])]):=by
  have hL : LOk 9000 (al0,2,1):=of_lok (s:=⟨#[65,58,32,49,10]⟩) (by decide) a1_parse7;exact doBad_c (κ:=κ) (κ':=κ') (k:=k) (al0,2,1) alS hL (by decide) alS_ok (by decide +kernel) 1 (by decide) (by decide +kernel) (by decide +kernel)
theorem alive9_c : qX Tryz.prog 50 [] (ib true):=by
  have hof:=of_ok ⟨#[65,58,32,49,10]⟩ (by decide) a1_parse7;rw [show ofT [(3,⟨#[65,58,32,49,10]⟩,[(⟨#[65]⟩,⟨#[49]⟩)])] = (al0,2,1) from rfl] at hof;have hdo:=alS_bad (κ:=1) (κ':=0) (k:=1);refine qV (rs:=[0]) Tryz.func50 rfl rfl rfl teOk rfl ?_;refine qB ?_;refine qB ?_;refine Or.inr (Or.inl (zei [] (zei [] (zei _ (zei _ (zei _ (zei _ (zei _ (zai (hof) (zai rfl (zai True.intro (zai rfl ?_))))))))))));refine qJ ?_;refine qB ?_;refine zai (fun h=>trivial) ?_;refine zai (fun h=>⟨⟨h,trivial⟩,trivial⟩) ?_;refine zai (by first|(intro h;rw [h];rfl)|(intro h;cases h)) ?_;refine qK rfl (fun h15=>?_) (fun h15=>?_)
  ·try simp only [Bool.not_eq_true',Bool.or_eq_true] at h15
   try simp only [zds] at h15
   simp at h15
  ·try simp only [Bool.not_eq_false',Bool.or_eq_false_iff] at h15
   try simp only [zds] at h15
   refine qL ?_;refine qB ?_;refine Or.inr (Or.inr (Or.inl ?_));refine zai rfl ?_;refine zei _ (zai (hdo) ?_);refine qB ?_;refine Or.inl ?_;refine zai (rfl) ?_;refine zei _ (zai (isNoneF_c 1) ?_);refine zai (fun h=>trivial) ?_;refine Or.inl ?_;refine zai (rfl) ?_;refine zei _ (zai (fun h=>⟨⟨⟨h,trivial⟩,trivial⟩,at_fault 1 7⟩) ?_);refine zai (fun h=>⟨⟨h,trivial⟩,trivial⟩) ?_;refine zai (by exact fun h=>h) ?_;refine zai (fun h=>trivial) ?_;refine Or.inl ?_;refine zai (rfl) ?_;refine zei _ (zai (fun h=>⟨⟨⟨h,trivial⟩,trivial⟩,len_c al0 2 1⟩) ?_);refine zai (fun h=>⟨⟨h,trivial⟩,trivial⟩) ?_;refine zai (by exact fun h=>h) ?_;refine qM ?_;rfl
theorem rows_len {A B : List Ent} (h : rowsL A = rowsL B) : (stzL A).length = (stzL B).length:=by
  have:=congrArg List.length h;unfold rowsL at this;rw [List.length_map,List.length_map] at this;exact this
theorem rowsAt2 {A B : List Ent} (h : rowsL A = rowsL B) (i : Nat) : ((stzL A).getD i ((0 : Int),([] : List Fld))).2 = ((stzL B).getD i ((0 : Int),([] : List Fld))).2:=by
  have h1 : (rowsL A)[i]? = (rowsL B)[i]?:=by rw [h]
  unfold rowsL at h1;rw [List.getElem?_map,List.getElem?_map] at h1;rw [List.getD_eq_getElem?_getD,List.getD_eq_getElem?_getD];cases ha : (stzL A)[i]? with
  | none=>rw [ha] at h1;cases hb : (stzL B)[i]? with
    | none=>rfl
    | some b=>rw [hb] at h1;cases h1
  | some a=>rw [ha] at h1;cases hb : (stzL B)[i]? with
    | none=>rw [hb] at h1;cases h1
    | some b=>rw [hb] at h1;exact Option.some.inj h1
theorem Eb_big (s : ByteArray) (a : List Edt) (h : 3000 < s.size ∨ heavyB a = true) : qX Tryz.prog 6 [is s,.one (.sl rEdt a)] (ib true):=by
  have hva:=heavy_c a;refine qV (rs:=[4]) Tryz.func6 rfl rfl rfl teOk rfl ?_;refine qB ?_;refine qJ ?_;refine qB ?_;refine Or.inl ?_;refine zai (rfl) ?_;refine zei _ (zai (alive9_c) ?_);refine qK rfl (fun h23=>?_) (fun h23=>?_)
  ·try simp only [Bool.not_eq_true'] at h23
   try simp only [zds] at h23
   simp at h23
  ·try simp only [Bool.not_eq_false'] at h23
   try simp only [zds] at h23
   refine qL ?_;refine qJ ?_;refine qB ?_;refine zai (fun h=>trivial) ?_;refine Or.inl ?_;refine zai (rfl) ?_;refine zei _ (zai (fun h=>⟨⟨⟨h,trivial⟩,trivial⟩,hva⟩) ?_);refine zai (by first|(intro h;rw [h];rfl)|(intro h;cases h)) ?_;refine qK rfl (fun h30=>?_) (fun h30=>?_)
   ·try simp only [decide_eq_true_eq,Bool.or_eq_true] at h30
    try simp only [zds] at h30
    refine qB ?_;refine qM ?_;rfl
   ·try simp only [decide_eq_false_iff_not,Bool.or_eq_false_iff,Int.not_lt] at h30
    try simp only [zds] at h30
    obtain ⟨g1,g2⟩:=h30;exact absurd h (fun h=>by rcases h with h|h;omega;rw [h] at g2;cases g2)
theorem Eb_err (s : ByteArray) (a : List Edt) (hs : ¬ 3000 < s.size) (ha : heavyB a = false) {e : Int × Int} (hp : xG s = .inl e) : qX Tryz.prog 6 [is s,.one (.sl rEdt a)] (ib true):=by
  have hva:=heavy_c a;rw [ha] at hva;have hl:=lists_err s (by omega) hp;refine qV (rs:=[4]) Tryz.func6 rfl rfl rfl teOk rfl ?_;refine qB ?_;refine qJ ?_;refine qB ?_;refine Or.inl ?_;refine zai (rfl) ?_;refine zei _ (zai (alive9_c) ?_);refine qK rfl (fun h23=>?_) (fun h23=>?_)
  ·try simp only [Bool.not_eq_true'] at h23
   try simp only [zds] at h23
   simp at h23
  ·try simp only [Bool.not_eq_false'] at h23
   try simp only [zds] at h23
   refine qL ?_;refine qJ ?_;refine qB ?_;refine zai (fun h=>trivial) ?_;refine Or.inl ?_;refine zai (rfl) ?_;refine zei _ (zai (fun h=>⟨⟨⟨h,trivial⟩,trivial⟩,hva⟩) ?_);refine zai (by first|(intro h;rw [h];rfl)|(intro h;cases h)) ?_;refine qK rfl (fun h30=>?_) (fun h30=>?_)
   ·try simp only [decide_eq_true_eq,Bool.or_eq_true] at h30
    try simp only [zds] at h30
    exfalso
    simp at h30;omega
   ·try simp only [decide_eq_false_iff_not,Bool.or_eq_false_iff,Int.not_lt] at h30
    try simp only [zds] at h30
    refine qL ?_;refine qB ?_;refine Or.inr (Or.inl (zei [] (zei [] (zei _ (zei _ (zei _ (zei _ (zei _ (zai (hl) (zai rfl (zai True.intro (zai rfl ?_))))))))))));refine qJ ?_;refine qB ?_;refine qK rfl (fun h38=>?_) (fun h38=>?_)
    ·try simp only [Bool.not_eq_true'] at h38
     try simp only [zds] at h38
     refine qB ?_;refine qM ?_;rfl
    ·try simp only [Bool.not_eq_false'] at h38
     try simp only [zds] at h38
     simp at h38
theorem Eb_N (s : ByteArray) (a : List Edt) (hs : ¬ 3000 < s.size) (ha : heavyB a = false) {l : List Itm} (hp : xG s = .inr l) (hc : chkB a = (-9,1)) : qX Tryz.prog 6 [is s,.one (.sl rEdt a)] (ib true):=by
  have hva:=heavy_c a;rw [ha] at hva;obtain ⟨hsa,hma⟩:=heavy_ok ha;have hfa : ∀ e ∈ a,yO e.2.2:=fun e he=>much_ok (hma e he)
  have hl:=lists_ok s (by omega) hp;have hlk:=of_lok (by omega) hp;obtain ⟨L,hL⟩ : ∃ L,ofT l = L:=⟨_,rfl⟩;rw [hL] at hlk hl;have hbk:=backN_c (κ:=0) (k:=1) L a hfa (by omega) 1 (by decide) hc;have hrd:=refDoC_c L a hfa (by omega) (by rw [hc];decide);rw [hc] at hrd;refine qV (rs:=[4]) Tryz.func6 rfl rfl rfl teOk rfl ?_;refine qB ?_;refine qJ ?_;refine qB ?_;refine Or.inl ?_;refine zai (rfl) ?_;refine zei _ (zai (alive9_c) ?_);refine qK rfl (fun h23=>?_) (fun h23=>?_)
  ·try simp only [Bool.not_eq_true'] at h23
   try simp only [zds] at h23
   simp at h23
  ·try simp only [Bool.not_eq_false'] at h23
   try simp only [zds] at h23
   refine qL ?_;refine qJ ?_;refine qB ?_;refine zai (fun h=>trivial) ?_;refine Or.inl ?_;refine zai (rfl) ?_;refine zei _ (zai (fun h=>⟨⟨⟨h,trivial⟩,trivial⟩,hva⟩) ?_);refine zai (by first|(intro h;rw [h];rfl)|(intro h;cases h)) ?_;refine qK rfl (fun h30=>?_) (fun h30=>?_)
   ·try simp only [decide_eq_true_eq,Bool.or_eq_true] at h30
    try simp only [zds] at h30
    exfalso
    simp at h30;omega
   ·try simp only [decide_eq_false_iff_not,Bool.or_eq_false_iff,Int.not_lt] at h30
    try simp only [zds] at h30
    refine qL ?_;refine qB ?_;refine Or.inr (Or.inl (zei [] (zei [] (zei _ (zei _ (zei _ (zei _ (zei _ (zai (hl) (zai rfl (zai True.intro (zai rfl ?_))))))))))));refine qJ ?_;refine qB ?_;refine qK rfl (fun h38=>?_) (fun h38=>?_)
    ·try simp only [Bool.not_eq_true'] at h38
     try simp only [zds] at h38
     simp at h38
    ·try simp only [Bool.not_eq_false'] at h38
     try simp only [zds] at h38
     refine qL ?_;refine qB ?_;refine Or.inr (Or.inr (Or.inl ?_));refine zai rfl ?_;refine zei _ (zai (hbk) ?_);refine qB ?_;refine Or.inl ?_;refine zai (rfl) ?_;refine zei _ (zai (hrd) ?_);refine qJ ?_;refine qB ?_;refine qK rfl (fun h54=>?_) (fun h54=>?_)
     ·try simp only [decide_eq_false_iff_not,Bool.not_eq_true'] at h54
      try simp only [zds] at h54
      refine qB ?_;refine Or.inl ?_;refine zai (rfl) ?_;refine zei _ (zai (num_errno 1 (by decide)) ?_);refine zai (fun h=>trivial) ?_;refine Or.inl ?_;refine zai (rfl) ?_;refine zei _ (zai (fun h=>⟨⟨⟨h,trivial⟩,trivial⟩,at_errno 1⟩) ?_);refine zai (fun h=>trivial) ?_;refine zai (fun h=>⟨⟨h,trivial⟩,⟨h,trivial⟩,trivial⟩) ?_;refine zai (by exact fun h=>h) ?_;refine zai (fun h=>trivial) ?_;refine zai (fun h=>⟨⟨h,trivial⟩,trivial⟩) ?_;refine zai (fun h=>⟨⟨h,trivial⟩,trivial⟩) ?_;refine zai (by exact fun h=>h) ?_;refine qM ?_
      first|rfl|exact ib_eq (by simp)
     ·try simp only [decide_eq_true_eq,Bool.not_eq_false'] at h54
      try simp only [zds] at h54
      simp at h54
theorem Eb_F (s : ByteArray) (a : List Edt) (hs : ¬ 3000 < s.size) (ha : heavyB a = false) {l : List Itm} (hp : xG s = .inr l) (p : Nat) (n : Int) (hn : n ≠ 0) (hc : chkB a = ((p : Int),n)) : qX Tryz.prog 6 [is s,.one (.sl rEdt a)] (ib true):=by
  have hva:=heavy_c a;rw [ha] at hva;obtain ⟨hsa,hma⟩:=heavy_ok ha;have hfa : ∀ e ∈ a,yO e.2.2:=fun e he=>much_ok (hma e he)
  have hl:=lists_ok s (by omega) hp;have hlk:=of_lok (by omega) hp;obtain ⟨L,hL⟩ : ∃ L,ofT l = L:=⟨_,rfl⟩;rw [hL] at hlk hl;have hbk:=backF_c (κ:=0) (k:=1) L a hfa (by omega) p n hn hc;have hrd:=refDoC_c L a hfa (by omega) (by rw [hc];exact hn);rw [hc] at hrd;refine qV (rs:=[4]) Tryz.func6 rfl rfl rfl teOk rfl ?_;refine qB ?_;refine qJ ?_;refine qB ?_;refine Or.inl ?_;refine zai (rfl) ?_;refine zei _ (zai (alive9_c) ?_);refine qK rfl (fun h23=>?_) (fun h23=>?_)
  ·try simp only [Bool.not_eq_true'] at h23
   try simp only [zds] at h23
   simp at h23
  ·try simp only [Bool.not_eq_false'] at h23
   try simp only [zds] at h23
   refine qL ?_;refine qJ ?_;refine qB ?_;refine zai (fun h=>trivial) ?_;refine Or.inl ?_;refine zai (rfl) ?_;refine zei _ (zai (fun h=>⟨⟨⟨h,trivial⟩,trivial⟩,hva⟩) ?_);refine zai (by first|(intro h;rw [h];rfl)|(intro h;cases h)) ?_;refine qK rfl (fun h30=>?_) (fun h30=>?_)
   ·try simp only [decide_eq_true_eq,Bool.or_eq_true] at h30
    try simp only [zds] at h30
    exfalso
    simp at h30;omega
   ·try simp only [decide_eq_false_iff_not,Bool.or_eq_false_iff,Int.not_lt] at h30
    try simp only [zds] at h30
    refine qL ?_;refine qB ?_;refine Or.inr (Or.inl (zei [] (zei [] (zei _ (zei _ (zei _ (zei _ (zei _ (zai (hl) (zai rfl (zai True.intro (zai rfl ?_))))))))))));refine qJ ?_;refine qB ?_;refine qK rfl (fun h38=>?_) (fun h38=>?_)
    ·try simp only [Bool.not_eq_true'] at h38
     try simp only [zds] at h38
     simp at h38
    ·try simp only [Bool.not_eq_false'] at h38
     try simp only [zds] at h38
     refine qL ?_;refine qB ?_;refine Or.inr (Or.inr (Or.inl ?_));refine zai rfl ?_;refine zei _ (zai (hbk) ?_);refine qB ?_;refine Or.inl ?_;refine zai (rfl) ?_;refine zei _ (zai (hrd) ?_);refine qJ ?_;refine qB ?_;refine qK rfl (fun h54=>?_) (fun h54=>?_)
     ·try simp only [decide_eq_false_iff_not,Bool.not_eq_true'] at h54
      try simp only [zds] at h54
      refine qB ?_;refine Or.inl ?_;refine zai (rfl) ?_;refine zei _ (zai (num_fault p n hn) ?_);refine zai (fun h=>trivial) ?_;refine Or.inl ?_;refine zai (rfl) ?_;refine zei _ (zai (fun h=>⟨⟨⟨h,trivial⟩,trivial⟩,at_fault p n⟩) ?_);refine zai (fun h=>trivial) ?_;refine zai (fun h=>⟨⟨h,trivial⟩,⟨h,trivial⟩,trivial⟩) ?_;refine zai (by exact fun h=>h) ?_;refine zai (fun h=>trivial) ?_;refine zai (fun h=>⟨⟨h,trivial⟩,trivial⟩) ?_;refine zai (fun h=>⟨⟨h,trivial⟩,trivial⟩) ?_;refine zai (by exact fun h=>h) ?_;refine qM ?_
      first|rfl|exact ib_eq (by simp)
     ·try simp only [decide_eq_true_eq,Bool.not_eq_false'] at h54
      try simp only [zds] at h54
      exact absurd h54 hn
theorem Eb_B (s : ByteArray) (a : List Edt) (hs : ¬ 3000 < s.size) (ha : heavyB a = false) {l : List Itm} (hp : xG s = .inr l) (hc : (chkB a).2 = 0) (q : Nat) (hq : q < a.length) (hb : oneN (yB (ofT l) a q) (a.getD q ((0 : Int),(0 : Int),([] : List Fld))) ≠ 0) (ht : ∀ j,j < q → oneN (yB (ofT l) a j) (a.getD j ((0 : Int),(0 : Int),([] : List Fld))) = 0) : qX Tryz.prog 6 [is s,.one (.sl rEdt a)] (ib true):=by
  have hva:=heavy_c a;rw [ha] at hva;obtain ⟨hsa,hma⟩:=heavy_ok ha;have hfa : ∀ e ∈ a,yO e.2.2:=fun e he=>much_ok (hma e he)
  have hl:=lists_ok s (by omega) hp;have hlk:=of_lok (by omega) hp;obtain ⟨L,hL⟩ : ∃ L,ofT l = L:=⟨_,rfl⟩;rw [hL] at hlk hl hb ht;have hbk:=backB_c (κ:=0) (k:=1) L a hlk (by omega) hfa hc q hq hb ht;have hrd:=refDoBad_c L a hlk (by omega) hfa hc q hq hb ht;obtain ⟨n,hn⟩ : ∃ n,oneN (yB L a q) (a.getD q ((0 : Int),(0 : Int),([] : List Fld))) = n:=⟨_,rfl⟩;rw [hn] at hbk hrd hb;refine qV (rs:=[4]) Tryz.func6 rfl rfl rfl teOk rfl ?_;refine qB ?_;refine qJ ?_;refine qB ?_;refine Or.inl ?_;refine zai (rfl) ?_;refine zei _ (zai (alive9_c) ?_);refine qK rfl (fun h23=>?_) (fun h23=>?_)
  ·try simp only [Bool.not_eq_true'] at h23
   try simp only [zds] at h23
   simp at h23
  ·try simp only [Bool.not_eq_false'] at h23
   try simp only [zds] at h23
   refine qL ?_;refine qJ ?_;refine qB ?_;refine zai (fun h=>trivial) ?_;refine Or.inl ?_;refine zai (rfl) ?_;refine zei _ (zai (fun h=>⟨⟨⟨h,trivial⟩,trivial⟩,hva⟩) ?_);refine zai (by first|(intro h;rw [h];rfl)|(intro h;cases h)) ?_;refine qK rfl (fun h30=>?_) (fun h30=>?_)
   ·try simp only [decide_eq_true_eq,Bool.or_eq_true] at h30
    try simp only [zds] at h30
    exfalso
    simp at h30;omega
   ·try simp only [decide_eq_false_iff_not,Bool.or_eq_false_iff,Int.not_lt] at h30
    try simp only [zds] at h30
    refine qL ?_;refine qB ?_;refine Or.inr (Or.inl (zei [] (zei [] (zei _ (zei _ (zei _ (zei _ (zei _ (zai (hl) (zai rfl (zai True.intro (zai rfl ?_))))))))))));refine qJ ?_;refine qB ?_;refine qK rfl (fun h38=>?_) (fun h38=>?_)
    ·try simp only [Bool.not_eq_true'] at h38
     try simp only [zds] at h38
     simp at h38
    ·try simp only [Bool.not_eq_false'] at h38
     try simp only [zds] at h38
     refine qL ?_;refine qB ?_;refine Or.inr (Or.inr (Or.inl ?_));refine zai rfl ?_;refine zei _ (zai (hbk) ?_);refine qB ?_;refine Or.inl ?_;refine zai (rfl) ?_;refine zei _ (zai (hrd) ?_);refine qJ ?_;refine qB ?_;refine qK rfl (fun h54=>?_) (fun h54=>?_)
     ·try simp only [decide_eq_false_iff_not,Bool.not_eq_true'] at h54
      try simp only [zds] at h54
      refine qB ?_;refine Or.inl ?_;refine zai (rfl) ?_;refine zei _ (zai (num_fault q n hb) ?_);refine zai (fun h=>trivial) ?_;refine Or.inl ?_;refine zai (rfl) ?_;refine zei _ (zai (fun h=>⟨⟨⟨h,trivial⟩,trivial⟩,at_fault q n⟩) ?_);refine zai (fun h=>trivial) ?_;refine zai (fun h=>⟨⟨h,trivial⟩,⟨h,trivial⟩,trivial⟩) ?_;refine zai (by exact fun h=>h) ?_;refine zai (fun h=>trivial) ?_;refine zai (fun h=>⟨⟨h,trivial⟩,trivial⟩) ?_;refine zai (fun h=>⟨⟨h,trivial⟩,trivial⟩) ?_;refine zai (by exact fun h=>h) ?_;refine qM ?_
      first|rfl|exact ib_eq (by simp)
     ·try simp only [decide_eq_true_eq,Bool.not_eq_false'] at h54
      try simp only [zds] at h54
      exact absurd h54 hb
theorem Eb_ok (s : ByteArray) (a : List Edt) (hs : ¬ 3000 < s.size) (ha : heavyB a = false) {l : List Itm} (hp : xG s = .inr l) (hc : (chkB a).2 = 0) (ht : ∀ j,j < a.length → oneN (yB (ofT l) a j) (a.getD j ((0 : Int),(0 : Int),([] : List Fld))) = 0) : qX Tryz.prog 6 [is s,.one (.sl rEdt a)] (ib true):=by
  have hva:=heavy_c a;rw [ha] at hva;obtain ⟨hsa,hma⟩:=heavy_ok ha;have hfa : ∀ e ∈ a,yO e.2.2:=fun e he=>much_ok (hma e he)
  have hl:=lists_ok s (by omega) hp;have hlk:=of_lok (by omega) hp;have hgd:=ofT_gd hp;have hrw:=rows_chk hp;obtain ⟨L,hL⟩ : ∃ L,ofT l = L:=⟨_,rfl⟩;rw [hL] at hlk hl ht hgd hrw;have hGd : Gd L:=⟨fun x hx=>(hrw x.2 (by unfold rowsL;exact List.mem_map_of_mem hx)).2,hgd.m4⟩;obtain ⟨hln,hgo⟩:=chkB_zero hc;obtain ⟨d,r1,r2,r3,r4,r5⟩:=bk_run a hlk hGd (takes_of _ _ ht) (fun e he=>⟨hgo e he,hfa e he⟩) (kinds_good hc);have hbk:=back_c (κ:=0) (k:=1) L a hlk (by omega) hfa hc ht;have hrb:=refBack_c L a hlk (by omega) hfa hc ht;have hrd:=refDoOk_c L a hlk (by omega) hfa hc ht;have hbl:=bkL_len L a;have hrows:=bk_rows r4;obtain ⟨b,hb⟩ : ∃ b,bkL L a = b:=⟨_,rfl⟩;rw [hb] at hbk hrb hbl r1 r2 r3 hrows;have hcb : (chkB b).2 = 0:=by rw [chkB_no (by omega) fun e he=>(r3 e he).1]
  have hX:=run_ok hlk hfa;have hY:=run_ok hX fun e he=>(r3 e he).2
  have hdx:=(doOk_o (κ:=0) (κ':=0) (k:=1) L a hlk (by omega) hfa hc ht).x;rw [run_plays] at hdx;have hdy:=(doOk_o (κ:=0) (κ':=0) (k:=1) (runL L a) b hX (by omega) (fun e he=>(r3 e he).2) hcb (takes_to _ _ r2)).x;rw [run_plays] at hdy;obtain ⟨X,hXe⟩ : ∃ X,runL L a = X:=⟨_,rfl⟩;rw [hXe] at hdx hdy hX hY hrows;obtain ⟨Y,hYe⟩ : ∃ Y,runL X b = Y:=⟨_,rfl⟩;rw [hYe] at hdy hY hrows;have hLl:=hlk.len;have hYl:=hY.len;have hsl:=stanzasL_c (k:=1) L.1 L.2.1 L.2.2 (by omega) hlk.f1;have hsy:=stanzasL_c (k:=1) Y.1 Y.2.1 Y.2.2 (by omega) hY.f1;have hrl:=rows_len hrows;refine qV (rs:=[4]) Tryz.func6 rfl rfl rfl teOk rfl ?_;refine qB ?_;refine qJ ?_;refine qB ?_;refine Or.inl ?_;refine zai (rfl) ?_;refine zei _ (zai (alive9_c) ?_);refine qK rfl (fun h23=>?_) (fun h23=>?_)
  ·try simp only [Bool.not_eq_true'] at h23
   try simp only [zds] at h23
   simp at h23
  ·try simp only [Bool.not_eq_false'] at h23
   try simp only [zds] at h23
   refine qL ?_;refine qJ ?_;refine qB ?_;refine zai (fun h=>trivial) ?_;refine Or.inl ?_;refine zai (rfl) ?_;refine zei _ (zai (fun h=>⟨⟨⟨h,trivial⟩,trivial⟩,hva⟩) ?_);refine zai (by first|(intro h;rw [h];rfl)|(intro h;cases h)) ?_;refine qK rfl (fun h30=>?_) (fun h30=>?_)
   ·try simp only [decide_eq_true_eq,Bool.or_eq_true] at h30
    try simp only [zds] at h30
    exfalso
    simp at h30;omega
   ·try simp only [decide_eq_false_iff_not,Bool.or_eq_false_iff,Int.not_lt] at h30
    try simp only [zds] at h30
    refine qL ?_;refine qB ?_;refine Or.inr (Or.inl (zei [] (zei [] (zei _ (zei _ (zei _ (zei _ (zei _ (zai (hl) (zai rfl (zai True.intro (zai rfl ?_))))))))))));refine qJ ?_;refine qB ?_;refine qK rfl (fun h38=>?_) (fun h38=>?_)
    ·try simp only [Bool.not_eq_true'] at h38
     try simp only [zds] at h38
     simp at h38
    ·try simp only [Bool.not_eq_false'] at h38
     try simp only [zds] at h38
     refine qL ?_;refine qB ?_;refine Or.inr (Or.inr (Or.inl ?_));refine zai rfl ?_;refine zei _ (zai (hbk) ?_);refine qB ?_;refine Or.inl ?_;refine zai (rfl) ?_;refine zei _ (zai (hrd) ?_);refine qJ ?_;refine qB ?_;refine qK rfl (fun h54=>?_) (fun h54=>?_)
     ·try simp only [decide_eq_false_iff_not,Bool.not_eq_true'] at h54
      try simp only [zds] at h54
      simp at h54
     ·try simp only [decide_eq_true_eq,Bool.not_eq_false'] at h54
      try simp only [zds] at h54
      refine qL ?_;refine qJ ?_;refine qB ?_;refine zai (fun h=>trivial) ?_;refine zai (fun h=>trivial) ?_;refine zai (fun h=>trivial) ?_;refine Or.inl ?_;refine zai (rfl) ?_;refine zei _ (zai (fun h=>⟨⟨⟨h,trivial⟩,⟨h,trivial⟩,trivial⟩,hrb⟩) ?_);refine Or.inl ?_;refine zai (rfl) ?_;refine zei _ (zai (fun h=>⟨⟨⟨h,trivial⟩,⟨h,trivial⟩,trivial⟩,edits_c (κ:=0) (κ':=0) b b⟩) ?_);refine zai (fun h=>⟨⟨h,trivial⟩,trivial⟩) ?_;refine zai (by first|(intro h;rw [h];rfl)|(intro h;cases h)) ?_;refine qK rfl (fun h79=>?_) (fun h79=>?_)
      ·try simp only [decide_eq_false_iff_not,Bool.not_eq_true',Bool.or_eq_true] at h79
       try simp only [zds] at h79
       simp at h79
      ·try simp only [decide_eq_true_eq,Bool.not_eq_false',Bool.or_eq_false_iff] at h79
       try simp only [zds] at h79
       refine qL ?_;refine qB ?_;refine Or.inr (Or.inr (Or.inr (zei [] (zei [] (zei _ (zei _ (zei _ (zei _ (zei _ (zai (hdx) (zai rfl (zai True.intro (zai rfl ?_)))))))))))));refine qB ?_;refine Or.inr (Or.inr (Or.inr (zei [] (zei [] (zei _ (zei _ (zei _ (zei _ (zei _ (zai (hdy) (zai rfl (zai True.intro (zai rfl ?_)))))))))))));refine qJ ?_;refine qB ?_;refine zai (fun h=>trivial) ?_;refine zai (fun h=>⟨⟨h,trivial⟩,trivial⟩) ?_;refine zai (by first|(intro h;rw [h];rfl)|(intro h;cases h)) ?_;refine qK rfl (fun h99=>?_) (fun h99=>?_)
       ·try simp only [Bool.not_eq_true',Bool.or_eq_true] at h99
        try simp only [zds] at h99
        simp at h99
       ·try simp only [Bool.not_eq_false',Bool.or_eq_false_iff] at h99
        try simp only [zds] at h99
        refine qL ?_;refine qB ?_;refine Or.inr (Or.inr (Or.inl ?_));refine zai rfl ?_;refine zei _ (zai (hsl) ?_);refine Or.inr (Or.inr (Or.inl ?_));refine zai rfl ?_;refine zei _ (zai (hsy) ?_);refine qJ ?_;refine qB ?_;intro l19_1
        try simp only [zds] at l19_1
        intro l19_3
        try simp only [zds] at l19_3
        refine qK rfl (fun h108=>?_) (fun h108=>?_)
        ·try simp only [decide_eq_false_iff_not,Bool.not_eq_true'] at h108
         try simp only [zds] at h108
         exfalso
         omega
        ·try simp only [decide_eq_true_eq,Bool.not_eq_false'] at h108
         try simp only [zds] at h108
         refine qL ?_;refine qJ ?_;refine qB ?_;intro l21_1
         try simp only [zds] at l21_1
         refine qQ ?_;refine qW (fun (i : Nat)=>i ≤ (stzL L.1).length) (fun (i : Nat)=>[(19,.one (.sl rStz (stzL L.1))),(20,.one (.sl rStz (stzL Y.1))),(110,ii .i64 (stzL L.1).length),(111,ii .i64 i)]) (fun (i : Nat)=>[(1,.box 134 [.vec 2,.lit (.int .i64 L.2.1),.lit (.int .i64 L.2.2)]),(2,.vec 138 rEnt L.1)]) 9 (fun (i : Nat)=>(stzL L.1).length - i) 0 (Nat.zero_le _) (qP ⟨rfl,rfl,rfl,rfl⟩ ⟨rfl,rfl⟩ rfl) ?_;intro i hI0;refine qB ?_;refine qJ ?_;refine qK rfl (fun h112=>?_) (fun h112=>?_)
         ·try simp only [decide_eq_true_eq] at h112
          try simp only [zds] at h112
          have hil : i < (stzL L.1).length:=(by omega);have hrr:=rowsAt2 hrows i;refine qL ?_;refine qJ ?_;refine qQ ?_;refine qB ?_;refine qJ ?_;refine acode_draw rfl (by kernel_rfl) ?_;refine zai (by omega) ?_;refine zai (by omega) ?_;refine zai (rfl) ?_;refine zei _ (zai (fields_c _ _) ?_);refine qK rfl (fun h125=>?_) (fun h125=>?_)
          ·try simp only [decide_eq_false_iff_not,Bool.not_eq_true'] at h125
           try simp only [Int.toNat_natCast,qH,qG,qD] at h125
           exact absurd hrr.symm h125
          ·try simp only [decide_eq_true_eq,Bool.not_eq_false'] at h125
           try simp only [Int.toNat_natCast,qH,qG,qD] at h125
           refine qL ?_;refine qI ?_;refine zob ?_;exact ⟨i + 1,by omega,by first|omega|(simp <;> omega),qP ⟨rfl,rfl,rfl,(qT (by omega))⟩ ⟨rfl,rfl⟩ rfl⟩
         ·try simp only [decide_eq_false_iff_not,Int.not_lt] at h112
          try simp only [zds] at h112
          refine yA ?_;refine qB ?_;refine qM ?_;rfl
theorem EditBacks_c (s : ByteArray) (a : List Edt) : qX Tryz.prog 6 [is s,.one (.sl rEdt a)] (ib true):=by
  by_cases h : 3000 < s.size ∨ heavyB a = true
  · exact Eb_big s a h
  · have hs : ¬ 3000 < s.size:=fun e=>h (.inl e)
    have ha : heavyB a = false:=by simpa using fun e=>h (.inr e)
    rcases hp : xG s with e|l
    · exact Eb_err s a hs ha hp
    · rcases chkB_cases a with ⟨hc,_⟩|hc|⟨i,n,hn,hc⟩
      · rcases doR_cases (ofT l) a (by rw [hc]) with ⟨_,ht⟩|⟨q,hq,_,hb,ht⟩
        · exact Eb_ok s a hs ha hp (by rw [hc]) ht
        · exact Eb_B s a hs ha hp (by rw [hc]) q hq hb ht
      · exact Eb_N s a hs ha hp hc
      · exact Eb_F s a hs ha hp i n hn hc
end Q
end Ab
end Go.Proofs.YtojipboabgebfaaGreatDoor
namespace Go.Proofs.YtojipboabgebfaaGreatDoor
open Go.RowKit
namespace Ab
set_option maxRecDepth 100000
theorem o_str : Opens Tryz.prog 9 .str:=opens_str Tryz.underlying9 (by kernel_rfl)
theorem o_int : Opens Tryz.prog 3 (.int .i64):=opens_int Tryz.underlying3 (by kernel_rfl)
theorem o_field : Opens Tryz.prog 107 (.st .str .str):=opens_st Tryz.underlying107 (by kernel_rfl) (.cons rfl o_str (.one rfl o_str))
theorem o_fields : Opens Tryz.prog 29 (.sl (.st .str .str)):=opens_sl (by decide) Tryz.underlying29 (by kernel_rfl) o_field
theorem maxAt {W : World} (h : W.ShapedOpen Tryz.prog) : MaxCell W:=cell_of_shapedOpen_int (g:=1) (t:=3) (zero:=#[.int .i64 0]) h (of_decide_eq_true (by kernel_rfl)) (by kernel_rfl) rfl (by kernel_rfl) (by kernel_rfl) Tryz.underlying3
theorem lt_of_cell0 {W : World} {b : Nat} {v : Value} (h : W.cell? ⟨b,0,none⟩ = some v) : b < W.heap.size:=by
  rcases Nat.lt_or_ge b W.heap.size with h1|h1
  · exact h1
  · exfalso
    simp only [World.cell?,Array.getElem?_eq_none h1] at h;cases h
theorem o_edit : Opens Tryz.prog 31 (.st (.int .i64) (.st (.int .i64) (.sl (.st .str .str)))):=opens_st Tryz.underlying31 (by kernel_rfl) (.cons rfl o_int (.cons rfl o_int (.one rfl o_fields)))
theorem o_edits : Opens Tryz.prog 22 (.sl (.st (.int .i64) (.st (.int .i64) (.sl (.st .str .str))))):=opens_sl (by decide) Tryz.underlying22 (by kernel_rfl) o_edit
theorem open_edits {H : Type} {enc : TypeId × Value → H} {W : World} {base : Nat} {v : Value} {d : DataW H} {p : List MemPlace} (hv : Value.okWide Tryz.prog W .any base 22 v) (h : DataW.Trod enc Tryz.prog W 0 (fun _=>true) true 22 v d p) :
    ∃ xs,(C.sl (.st (.int .i64) (.st (.int .i64) (.sl (.st .str .str)))) xs).rep AllOk xB W v:=open_sl Tryz.underlying22 o_edits hv h
theorem et : Tryz.prog.globalNamed "errors.errorType" = some 0 := by kernel_rfl
theorem rt : (Tryz.prog.cutTypes.find? (·.1 == "internal/reflectlite.rtype")).map (·.2) = some 311 := by kernel_rfl
theorem oneRow : ((List.range Tryz.prog.types.size).filter fun t=>Tryz.prog.rowNamed t [101,114,114,111,114]) = [37]:=by kernel_rfl
theorem errHandle : typeHandle Tryz.prog 37 = .pointer (some ⟨3 + 1,37,none⟩):=by kernel_rfl
abbrev errDatum : String × DataW Unit := ("errors.errorType", .iface "internal/reflectlite.rtype" (.agg [.ptr (.lit (.string [101, 114, 114, 111, 114]))]))
theorem errAt {W : World} {l : List (String × DataW Unit)} (hm : errDatum ∈ l) (h : laidMetH Tryz.prog l W) : W.cell? ⟨0,0,none⟩ = some (.iface 311 (.agg #[.pointer (some ⟨3 + 1,37,none⟩)])):=by
  obtain ⟨name,u,ty,e1,e2,e3,e4,e5⟩:=(laidMetH_iff.1 h).2 _ (List.mem_filter.2 ⟨hm,rfl⟩);have en : name = [101,114,114,111,114]:=(Option.some.inj e1).symm;subst en;obtain rfl:=Option.some.inj (rt.symm.trans e2);have hm : ty ∈ (List.range Tryz.prog.types.size).filter fun t=>Tryz.prog.rowNamed t [101,114,114,111,114]:=List.mem_filter.2 ⟨List.mem_range.2 e3,e4⟩
  rw [oneRow] at hm;obtain rfl:=List.mem_singleton.1 hm;rw [errHandle] at e5
  simpa using World.var?_cell et e5 0
theorem globAtH {W : World} (h : W.ShapedOpen Tryz.prog) {l : List (String × DataW Unit)} (hm : errDatum ∈ l) (hL : laidMetH Tryz.prog l W) : GlobAt AllOk W:=by
  have hc : GlobCell W:=⟨maxAt h,errAt hm hL⟩;refine ⟨fun _ _=>trivial,?_,hc⟩;obtain ⟨⟨m,h1⟩,h2⟩:=hc;have h1:=lt_of_cell0 h1;have h2:=lt_of_cell0 h2;unfold nGlob;omega
theorem laidMet_lay {P : Program} {w0 : World} {laid : List (String × DataW Unit)} (args : Array Value)
    (hf : w0.layFits P laid [] = true) (hi : w0.layIfaces P laid (w0.layVars P laid) = true) : laidMet P laid ((w0.layVars P laid).forCall (fun _ _=>0) ⟨#[],args,[]⟩).memory:=by
  have e1 : (laid.filter fun x=>(laid.map (·.1)).contains x.1) = laid:=List.filter_eq_self.2 fun x hx=>List.contains_iff_mem.2 (List.mem_map.2 ⟨x,hx,rfl⟩)
  have e2 : (laid.filter fun x=>!(laid.map (·.1)).contains x.1) = []:=List.filter_eq_nil_iff.2 fun x hx=>by rw [List.contains_iff_mem.2 (List.mem_map.2 ⟨x,hx,rfl⟩)];simp
  have h : laidMet P laid (w0.layVars P laid):=laidMet_layVars (w0:=w0) (laid.map (·.1)) [] (by rw [e1]) (by rw [e1];exact hf) (by rw [e1];exact hi) (by rw [e2];exact LaidIn.none);exact h.of_heap (by simp [World.memory,World.forCall,Input.heap])
noncomputable def errWorld (os : Os) : World :=
  let w0:=World.holding Tryz.prog os ⟨#[],#[],[]⟩
  { w0 with heap:=w0.heap.modify 0 fun
      | .cells _ t frozen=>.cells #[.iface 311 (.agg #[.pointer (some ⟨3 + 1,37,none⟩)])] t frozen
      | o=>o }
noncomputable def laidWit (os : Os) (l : List (String × DataW Unit)) : World:=(errWorld os).layVars Tryz.prog (l.filter fun x=>x.2.handleName?.isNone)
theorem laidWit_os (os : Os) (l : List (String × DataW Unit)) : (laidWit os l).os = os:=World.layVars_os _ _ _
end Ab
end Go.Proofs.YtojipboabgebfaaGreatDoor
