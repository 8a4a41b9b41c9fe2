/-
  The texts of this proof, joined: abstract values, the library, the functions of the program and what they compute (part 3). No condition.
-/
import Derived.Test.YtpfkncffaanjcaaGreatDoorRows
import Derived.WalkKit
import Derived.LoopTactic
import Derived.Lib.Hide
import Derived.Deep.QuietTactic
import Derived.BigQuiet
import Derived.WalkSmall
import Derived.WalkSpells
import Derived.WalkLawsBesides
import Derived.Laws.StructEq
import Derived.Deep.OwnRows
import Derived.Deep.AppendLies
import Derived.Deep.RegionLaw
import Derived.Deep.RegionHeld3
import Derived.Deep.DeepCutAuto
import Derived.Shelf.Strings.Builder1
import Derived.Shelf.Strings.Builder2
import Derived.Shelf.Strings.OnBuilder
import Derived.Shelf.Strings.Trim
import Derived.Shelf.Small.Utf8
import Derived.Shelf.Small.Strs
import Derived.Shelf.Strings.BuilderF
import Derived.Shelf.Strings.BuilderK
import Derived.Shelf.Strings.Builder2Cap
import Derived.Shelf.Strings.Search1
import Derived.Shelf.Strings.Search2
import Derived.Shelf.Strings.Search3
import Derived.Shelf.Strings.Cut
import Derived.Shelf.Strings.Count
import Derived.Shelf.LaysM
import Derived.Shelf.Strings.Shaped
import Derived.Shelf.Strings.Prefix
import Derived.Shelf.Strings.Split
import Derived.Shelf.Strings.SplitShaped
import Derived.Shelf.Strings.Runes
import Derived.Shelf.Strings.AsciiSet
import Derived.Shelf.Unicode.DecodeSlow
import Derived.Shelf.Strings.BuilderCap
import Derived.Shelf.Slices.Reverse
import Derived.Shelf.Slices.Cells
import Derived.Test.YtpfkncffaanjcaaGreatDoorProg
import Derived.Deep.Upon
import Derived.Lib.Strings
import Derived.Lib.Slices
import Derived.Lib.Walk
import Derived.Lib.Builder
import Derived.Lib.AppendStr
import Derived.Lib.OthersKept
import Derived.Laws.Externs
import Derived.Laws.IdiomCopy
import Derived.Lib.UnsafeStr
import Derived.Shelf.RegionOpenPlain
import Derived.Lib.SplitLaws
import Derived.Shelf.Strings.SlTrimAscii
import Derived.Lib.Join
import Derived.Lib.SlTrimSet
import Derived.Test.YtpfkncffaanjcaaGreatDoorK1
import Derived.Test.YtpfkncffaanjcaaGreatDoorK2
namespace Go.Proofs.YtpfkncffaanjcaaGreatDoor
open Go.RowKit
set_option maxRecDepth 100000
namespace Dif
open Rdl
abbrev field : Rd (ByteArray × ByteArray):=pair str str
abbrev fields : Rd (List (ByteArray × ByteArray)):=sl field (by decide)
abbrev rows : Rd (List (List (ByteArray × ByteArray))):=sl fields (by decide)
theorem intAt {ok : Nat → Prop} {w : World} {v : Value} {xs : List Int} (h : Sl int ok w v xs) :
    ∃ a cap,v = .slice a xs.length cap ∧ xs.length ≤ 9223372036854775807 ∧ ∀ i (h : i < xs.length),∃ b off,a = some ⟨b,off,none⟩ ∧ w.cell? ⟨b,off + i,none⟩ = some (.int .i64 xs[i]) ∧ -9223372036854775808 ≤ xs[i] ∧ xs[i] ≤ 9223372036854775807:=by
  obtain ⟨a,cap,hv,h1,h2,hc⟩:=h;refine ⟨a,cap,hv,by unfold maxLen at h2;omega,fun i hi=>?_⟩;obtain ⟨b,off,cs,ha,_,⟨hcs,hb1,hb2⟩,hcell⟩:=hc i hi;subst hcs;have e0:=hcell 0 (by decide);refine ⟨b,off,ha,?_,hb1,hb2⟩
  simpa [int] using e0
theorem fieldAt {ok : Nat → Prop} {w : World} {v : Value} {xs : List (ByteArray × ByteArray)} (h : Sl field ok w v xs) :
    ∃ a cap,v = .slice a xs.length cap ∧ xs.length ≤ 9223372036854775807 ∧ ∀ i (h : i < xs.length),∃ b off,a = some ⟨b,off,none⟩ ∧ w.cell? ⟨b,off + i * 2,none⟩ = some (.string xs[i].1) ∧ w.cell? ⟨b,off + i * 2 + 1,none⟩ = some (.string xs[i].2) ∧ xs[i].1.size ≤ maxLen ∧ xs[i].2.size ≤ maxLen:=by
  obtain ⟨a,cap,hv,h1,h2,hc⟩:=h;refine ⟨a,cap,hv,by unfold maxLen at h2;omega,fun i hi=>?_⟩;obtain ⟨b,off,cs,ha,_,⟨c,d,hcs,⟨hc1,hs1⟩,⟨hd1,hs2⟩⟩,hcell⟩:=hc i hi;subst hc1;subst hd1;subst hcs;have e0:=hcell 0 (by decide);have e1:=hcell 1 (by decide);refine ⟨b,off,ha,?_,?_,hs1,hs2⟩
  · simpa [pair,str] using e0
  · simpa [pair,str,Nat.add_assoc] using e1
theorem stood : Tryz.prog.stoodInHeld 82 = false:=by kernel_rfl
theorem guardless : Tryz.prog.eqGuardType Tryz.prog.depth 82 = false:=by kernel_rfl
def same2 (x y : ByteArray × ByteArray) : Bool:=x.1.toList == y.1.toList && x.2.toList == y.2.toList
theorem same2_iff (x y : ByteArray × ByteArray) : same2 x y = decide (x = y):=by
  obtain ⟨a,b⟩:=x;obtain ⟨c,d⟩:=y;rw [Bool.eq_iff_iff];simp [same2,ByteArray.toList_eq]
  constructor
  · rintro ⟨h1,h2⟩;exact ⟨ByteArray.ext h1,ByteArray.ext h2⟩
  · rintro ⟨rfl,rfl⟩;exact ⟨rfl,rfl⟩
theorem neqField (x y : ByteArray × ByteArray) (w : World) : (binOp .neq 82 (.agg #[.string x.1,.string x.2]) (.agg #[.string y.1,.string y.2])).run Tryz.prog w = .ok (.bool (!(same2 x y))) w:=by
  have q1:=stood
  go_simp
  simp only [same2]
  by_cases h1 : x.1.toList = y.1.toList <;> by_cases h2 : x.2.toList = y.2.toList <;> simp [h1,h2]
theorem equal_any (va vb : Value) (xs ys : List (ByteArray × ByteArray)) (w : World) (ha : Sl field all w va xs) (hb : Sl field all w vb ys) :
    Calls Tryz.prog 116 #[va,vb] w fun e w'=>e = .returned (.bool (decide (xs = ys))) ∧ ∃ n,w' = w.drewN n:=by
  obtain ⟨a,cap,rfl,hla,hca⟩:=fieldAt ha;obtain ⟨b,cap2,rfl,hlb,hcb⟩:=fieldAt hb;have HA:=Lib.hid hca;have HB:=Lib.hid hcb;clear hca hcb ha hb
  by_cases hl : xs.length = ys.length
  · have hl1 : ((xs.length : Int) != (ys.length : Int)) = false:=by rw [bne_eq_false_iff_eq];omega
    have hle : xs.length ≤ ys.length:=by omega
    have HL:=Lib.hid hl;clear hl;have q1:=neqField;have q2:=guardless
    go_enter Tryz.func116,Tryz.ntmps116
    go_wp2
    go_loopw [13] (fun i wr=>∃ (k n : Nat),wr = w.drewN n ∧ k ≤ xs.length ∧ i = .int .i64 k ∧ Hid (xs.take k = ys.take k)) (fun i _=>xs.length - (intOf i).toNat)
    case atStart=>exact ⟨0,0,rfl,by omega,rfl,Lib.hid rfl⟩
    case round =>
      obtain ⟨k,n,rfl,hk,rfl,hT⟩:=hrel
      by_cases hlt : k < xs.length
      · obtain ⟨b1,off1,rfl,c1,c2,_,_⟩:=HA.out k hlt;obtain ⟨b2,off2,rfl,d1,d2,_,_⟩:=HB.out k (by omega);have hi1 : (k : Int) < (xs.length : Int):=by omega
        have hi2 : (k : Int) < (ys.length : Int):=by omega
        go_wp2
        go_quiet (fail)
        go_wp2
        · have hne : ¬ xs[k] = ys[k]:=by
            have h9 : (!same2 xs[k] ys[k]) = true:=by assumption
            rw [same2_iff] at h9;simpa using h9
          go_ret
          exact ⟨ret_bool (by rw [decide_eq_false (ne_at k hlt (by omega) hne)]),n + nq,by rw [World.drewN_drewN]⟩
        · have heq : xs[k] = ys[k]:=by
            have h9 : (!same2 xs[k] ys[k]) = false:=by assumption
            rw [same2_iff] at h9;simpa using h9
          go_roundw
          case rel=>exact ⟨k + 1,n + nq,rfl,by omega,by go_num,Lib.hid (take_step k hlt (by omega) heq hT.out)⟩
          case measure=>simp [intOf];omega
      · obtain rfl : k = xs.length:=by omega
        go_wp2
        go_ret
        exact ⟨ret_bool (by rw [decide_eq_true (take_full HL.out hT.out)]),n,rfl⟩
  · have hl1 : ((xs.length : Int) != (ys.length : Int)) = true:=by rw [bne_iff_ne];omega
    have hne : xs ≠ ys:=fun h=>hl (by rw [h])
    have HN:=Lib.hid hne;clear hl hne
    go_enter Tryz.func116,Tryz.ntmps116
    go_wp2
    go_ret
    exact ⟨ret_bool (by rw [decide_eq_false HN.out]),0,rfl⟩
theorem ints_any (va vb : Value) (xs ys : List Int) (w : World) (ha : Sl int all w va xs) (hb : Sl int all w vb ys) :
    Calls Tryz.prog 17 #[va,vb] w fun e w'=>e = .returned (.bool (decide (xs = ys))) ∧ ∃ n,w' = w.drewN n:=by
  obtain ⟨a,cap,rfl,hla,hca⟩:=intAt ha;obtain ⟨b,cap2,rfl,hlb,hcb⟩:=intAt hb;have HA:=Lib.hid hca;have HB:=Lib.hid hcb;clear hca hcb ha hb
  by_cases hl : xs.length = ys.length
  · have hl1 : ((xs.length : Int) != (ys.length : Int)) = false:=by rw [bne_eq_false_iff_eq];omega
    have hle : xs.length ≤ ys.length:=by omega
    have HL:=Lib.hid hl;clear hl
    go_enter Tryz.func17,Tryz.ntmps17
    go_wp2
    go_loopw [13] (fun i wr=>∃ (k n : Nat),wr = w.drewN n ∧ k ≤ xs.length ∧ i = .int .i64 k ∧ Hid (xs.take k = ys.take k)) (fun i _=>xs.length - (intOf i).toNat)
    case atStart=>exact ⟨0,0,rfl,by omega,rfl,Lib.hid rfl⟩
    case round =>
      obtain ⟨k,n,rfl,hk,rfl,hT⟩:=hrel
      by_cases hlt : k < xs.length
      · obtain ⟨b1,off1,rfl,c1,_,_⟩:=HA.out k hlt;obtain ⟨b2,off2,rfl,d1,_,_⟩:=HB.out k (by omega);have hi1 : (k : Int) < (xs.length : Int):=by omega
        have hi2 : (k : Int) < (ys.length : Int):=by omega
        go_wp2
        go_quiet (fail)
        go_wp2
        · have hne : ¬ xs[k] = ys[k]:=by
            have h9 : (xs[k] != ys[k]) = true:=by assumption
            simpa using h9
          go_ret
          exact ⟨ret_bool (by rw [decide_eq_false (ne_at k hlt (by omega) hne)]),n + nq,by rw [World.drewN_drewN]⟩
        · have heq : xs[k] = ys[k]:=by
            have h9 : (xs[k] != ys[k]) = false:=by assumption
            simpa using h9
          go_roundw
          case rel=>exact ⟨k + 1,n + nq,rfl,by omega,by go_num,Lib.hid (take_step k hlt (by omega) heq hT.out)⟩
          case measure=>simp [intOf];omega
      · obtain rfl : k = xs.length:=by omega
        go_wp2
        go_ret
        exact ⟨ret_bool (by rw [decide_eq_true (take_full HL.out hT.out)]),n,rfl⟩
  · have hl1 : ((xs.length : Int) != (ys.length : Int)) = true:=by rw [bne_iff_ne];omega
    have hne : xs ≠ ys:=fun h=>hl (by rw [h])
    have HN:=Lib.hid hne;clear hl hne
    go_enter Tryz.func17,Tryz.ntmps17
    go_wp2
    go_ret
    exact ⟨ret_bool (by rw [decide_eq_false HN.out]),0,rfl⟩
theorem same_any (va vb : Value) (xs ys : List (ByteArray × ByteArray)) (w : World) (ha : Sl field all w va xs) (hb : Sl field all w vb ys) :
    Calls Tryz.prog 79 #[va,vb] w fun e w'=>e = .returned (.bool (decide (xs = ys))) ∧ ∃ n,w' = w.drewN n:=by
  have H:=Lib.hid (equal_any va vb xs ys w ha hb);clear ha hb
  go_enter Tryz.func79,Tryz.ntmps79
  go_wp2_with fail
  refine H.out.mono ?_
  rintro e w' ⟨rfl,n,rfl⟩
  go_wp2
  go_ret
  exact ⟨rfl,n,rfl⟩
abbrev Row:=List (ByteArray × ByteArray)
theorem rowAt {ok : Nat → Prop} {w : World} {v : Value} {xs : List Row} (h : Sl fields ok w v xs) :
    ∃ a cap,v = .slice a xs.length cap ∧ xs.length ≤ 9223372036854775807 ∧ ∀ i (h : i < xs.length),∃ b off r,a = some ⟨b,off,none⟩ ∧ w.cell? ⟨b,off + i,none⟩ = some r ∧ Sl field ok w r xs[i]:=by
  obtain ⟨a,cap,hv,h1,h2,hc⟩:=h;refine ⟨a,cap,hv,by unfold maxLen at h2;omega,fun i hi=>?_⟩;obtain ⟨b,off,cs,ha,_,⟨r,hcs,hr⟩,hcell⟩:=hc i hi;subst hcs;have e0:=hcell 0 (by decide);refine ⟨b,off,r,ha,?_,hr⟩
  simpa [fields,sl] using e0
theorem equalFunc_any (va vb : Value) (xs ys : List Row) (w : World) (ha : Sl fields all w va xs) (hb : Sl fields all w vb ys) :
    Calls Tryz.prog 78 #[va,vb,.func (.func 79) #[] #[]] w fun e w'=>e = .returned (.bool (decide (xs = ys))) ∧ ∃ n,w' = w.drewN n:=by
  obtain ⟨a,cap,rfl,hla,hca⟩:=rowAt ha;obtain ⟨b,cap2,rfl,hlb,hcb⟩:=rowAt hb;have HA:=Lib.hid hca;have HB:=Lib.hid hcb;clear hca hcb ha hb
  by_cases hl : xs.length = ys.length
  · have hl1 : ((xs.length : Int) != (ys.length : Int)) = false:=by rw [bne_eq_false_iff_eq];omega
    have hle : xs.length ≤ ys.length:=by omega
    have HL:=Lib.hid hl;clear hl
    go_enter Tryz.func78,Tryz.ntmps78
    go_wp2
    go_loopw [17] (fun i wr=>∃ (k n : Nat),wr = w.drewN n ∧ k ≤ xs.length ∧ i = .int .i64 k ∧ Hid (xs.take k = ys.take k)) (fun i _=>xs.length - (intOf i).toNat)
    case atStart=>exact ⟨0,0,rfl,by omega,rfl,Lib.hid rfl⟩
    case round =>
      obtain ⟨k,n,rfl,hk,rfl,hT⟩:=hrel
      by_cases hlt : k < xs.length
      · obtain ⟨b1,off1,r1,rfl,c1,s1⟩:=HA.out k hlt;obtain ⟨b2,off2,r2,rfl,d1,s2⟩:=HB.out k (by omega);have H:=Lib.hid (same_any r1 r2 _ _ (w.drewN n) (s1.drewN (by decide) n) (s2.drewN (by decide) n));clear s1 s2
        by_cases heq : xs[k] = ys[k]
        · have HE:=Lib.hid (decide_eq_true heq);have HS:=Lib.hid (take_step k hlt (by omega) heq hT.out);clear heq
          go_wp2_with (go_at_call 79;refine H.out.mono ?_;rintro e w' ⟨rfl,n2,rfl⟩;rw [HE.out])
          go_roundw
          case rel=>exact ⟨k + 1,n + n2,by first|rfl|rw [World.drewN_drewN],by omega,by go_num,HS⟩
          case measure=>simp [intOf];omega
        · have HE:=Lib.hid (decide_eq_false heq);have HN:=Lib.hid (ne_at k hlt (by omega) heq);clear heq
          go_wp2_with (go_at_call 79;refine H.out.mono ?_;rintro e w' ⟨rfl,n2,rfl⟩;rw [HE.out])
          go_ret
          exact ⟨ret_bool (by rw [decide_eq_false HN.out]),n + n2,by first|rfl|rw [World.drewN_drewN]⟩
      · obtain rfl : k = xs.length:=by omega
        go_wp2
        go_ret
        exact ⟨ret_bool (by rw [decide_eq_true (take_full HL.out hT.out)]),n,rfl⟩
  · have hl1 : ((xs.length : Int) != (ys.length : Int)) = true:=by rw [bne_iff_ne];omega
    have hne : xs ≠ ys:=fun h=>hl (by rw [h])
    have HN:=Lib.hid hne;clear hl hne
    go_enter Tryz.func78,Tryz.ntmps78
    go_wp2
    go_ret
    exact ⟨ret_bool (by rw [decide_eq_false HN.out]),0,rfl⟩
theorem Same_any (va vb : Value) (xs ys : List Row) (w : World) (ha : Sl fields all w va xs) (hb : Sl fields all w vb ys) :
    Calls Tryz.prog 46 #[va,vb] w fun e w'=>e = .returned (.bool (decide (xs = ys))) ∧ ∃ n,w' = w.drewN n:=by
  have H:=Lib.hid (equalFunc_any va vb xs ys w ha hb);clear ha hb
  go_enter Tryz.func46,Tryz.ntmps46
  go_wp2_with fail
  refine H.out.mono ?_
  rintro e w' ⟨rfl,n,rfl⟩
  go_wp2
  go_ret
  exact ⟨rfl,n,rfl⟩
theorem quiet_add {P : Program} {f : FuncId} {args : Array Value} {w : World} {a n : Nat} {v : Value}
    (h : Calls P f args (w.drewN (a + n)) fun e w'=>e = .returned v ∧ ∃ m,w' = (w.drewN (a + n)).drewN m) :
    Calls P f args (w.drewN (a + n)) fun e w''=>e = .returned v ∧ ∃ m,w'' = w.drewN (a + m) :=
  h.mono fun _ _ ⟨he,m,hm⟩=>⟨he,n + m,by rw [hm,World.drewN_drewN,Nat.add_assoc]⟩
def Tab (w : World) (cv : Value) (n m : Nat) (Z : Nat → Nat → Nat) : Prop :=
  ∃ a cap,cv = .slice a n cap ∧ n ≤ cap ∧ cap ≤ maxLen ∧ ∀ r,r < n → ∃ b off g gc,a = some ⟨b,off,none⟩ ∧ w.cell? ⟨b,off + r,none⟩ = some (.slice (some ⟨g,0,none⟩) m gc) ∧ ∀ c,c < m → w.cell? ⟨g,c,none⟩ = some (.int .i64 (Z r c : Int))
def TabAt (w : World) (T : Nat) (va vb cv : Value) : Prop:=w.heap[T]? = some (.cells #[va,vb,cv] 136 (0,0))
theorem TabAt.cell {w : World} {T : Nat} {va vb cv : Value} (h : TabAt w T va vb cv) : w.cell? ⟨T,0,none⟩ = some va ∧ w.cell? ⟨T,1,none⟩ = some vb ∧ w.cell? ⟨T,2,none⟩ = some cv:=by
  unfold TabAt at h;refine ⟨?_,?_,?_⟩ <;> simp [World.cell?,h]
def eqAt (xs ys : List Row) (i j : Nat) : Bool:=decide (xs.getD i [] = ys.getD j [])
def leastS (q : Nat → Nat → Bool) (Z : Nat → Nat → Nat) : Nat → Nat → Nat
  | 0,j=>j
  | i + 1,0=>i + 1
  | i + 1,j + 1=>if q i j then Z i j else 1 + min (min (Z i j) (Z i (j + 1))) (Z (i + 1) j)
theorem ret_i64 {a b : Int} (h : a = b) : Ending.returned (.int .i64 a) = .returned (.int .i64 b):=by rw [h]
theorem least_any (T i j n m : Nat) (va vb cv : Value) (xs ys : List Row) (Z : Nat → Nat → Nat) (w : World) (hT : TabAt w T va vb cv) (ha : Sl fields all w va xs) (hb : Sl fields all w vb ys)
    (hM : Tab w cv n m Z) (hi : i ≤ xs.length) (hj : j ≤ ys.length) (hin : i < n) (hjm : j < m) (hm : m ≤ 1000) (hn : n ≤ 1000) (hZ : ∀ r c,r < n → c < m → Z r c ≤ 2000) :
    Calls Tryz.prog 115 #[.pointer (some ⟨T,0,none⟩),.int .i64 (i : Int),.int .i64 (j : Int)] w fun e w'=>e = .returned (.int .i64 (leastS (eqAt xs ys) Z i j : Int)) ∧ ∃ k,w' = w.drewN k:=by
  obtain ⟨ca,cb,cc⟩:=hT.cell;cases i with
  | zero =>
    clear ca cb cc hT ha hb hM hZ
    go_enter Tryz.func115,Tryz.ntmps115
    go_wp2
    go_ret
    exact ⟨rfl,0,rfl⟩
  | succ i =>
    cases j with
    | zero =>
      clear ca cb cc hT ha hb hM hZ;have h1 : ((((i + 1 : Nat) : Int)) == 0) = false:=by rw [beq_eq_false_iff_ne];omega
      go_enter Tryz.func115,Tryz.ntmps115
      go_wp2
      go_ret
      exact ⟨rfl,0,rfl⟩
    | succ j =>
      obtain ⟨a1,cap1,rfl,hl1,hc1⟩:=rowAt ha;obtain ⟨a2,cap2,rfl,hl2,hc2⟩:=rowAt hb;obtain ⟨a3,cap3,rfl,hl3,hcap3,hc3⟩:=hM;obtain ⟨b1,off1,r1,rfl,c1,s1⟩:=hc1 i (by omega);obtain ⟨b2,off2,r2,rfl,c2,s2⟩:=hc2 j (by omega);obtain ⟨b3,off3,g3,gc3,rfl,c3,s3⟩:=hc3 i (by omega);obtain ⟨b4,off4,g4,gc4,h4,c4,s4⟩:=hc3 (i + 1) (by omega);simp only [Option.some.injEq,Addr.mk.injEq,and_true] at h4;obtain ⟨rfl,rfl⟩:=h4;have H:=Lib.hid (fun n=>same_any r1 r2 _ _ (w.drewN n) (s1.drewN (by decide) n) (s2.drewN (by decide) n));have e1:=s3 j (by omega);have e2:=s3 (j + 1) (by omega);have e3:=s4 j (by omega);have z1:=hZ i j (by omega) (by omega);have z2:=hZ i (j + 1) (by omega) (by omega);have z3:=hZ (i + 1) j (by omega) (by omega);have HE : Hid (eqAt xs ys i j = decide (xs[i] = ys[j])):=Lib.hid (by simp [eqAt,List.getD,show i < xs.length by omega,show j < ys.length by omega]);clear hT ha hb hc1 hc2 hc3 s1 s2 s3 s4 hZ;have k1 : (i : Int) < (xs.length : Int):=by omega
      have k2 : (j : Int) < (ys.length : Int):=by omega
      have k3 : (i : Int) < (n : Int):=by omega
      have k4 : (j : Int) < (m : Int):=by omega
      have k5 : (i : Int) + 1 < (n : Int):=by omega
      have k6 : (j : Int) + 1 < (m : Int):=by omega
      by_cases hq : xs[i] = ys[j]
      · have HQ:=Lib.hid (decide_eq_true hq);clear hq
        go_enter Tryz.func115,Tryz.ntmps115
        go_wp2
        go_quiet ((go_at_call 79;first|exact Calls.quiet_of (H.out _)|exact quiet_add (H.out _)))
        rw [HQ.out]
        go_wp2
        go_ret
        exact ⟨ret_i64 (by rw [leastS,HE.out,HQ.out];simp),_,rfl⟩
      · have HQ:=Lib.hid (decide_eq_false hq);clear hq
        go_enter Tryz.func115,Tryz.ntmps115
        go_wp2
        go_quiet ((go_at_call 79;first|exact Calls.quiet_of (H.out _)|exact quiet_add (H.out _)))
        rw [HQ.out]
        go_wp2
        go_quiet (fail)
        go_wp2
        all_goals
          go_ret
          refine ⟨ret_i64 ?_,_,rfl⟩;rw [leastS,HE.out,HQ.out];simp only [Bool.false_eq_true,if_false]
          generalize Z i j = p1 at *
          generalize Z i (j + 1) = p2 at *
          generalize Z (i + 1) j = p3 at *
          clear e1 e2 e3 H HE HQ
          first|omega|(split at * <;> omega)|(split <;> omega)
def cstRow (q : Nat → Nat → Bool) (prev : Nat → Nat) (i : Nat) : Nat → Nat
  | 0=>i + 1
  | j + 1=>if q i j then prev j else 1 + min (min (prev j) (prev (j + 1))) (cstRow q prev i j)
def cst (q : Nat → Nat → Bool) : Nat → Nat → Nat
  | 0=>fun j=>j
  | i + 1=>cstRow q (cst q i) i
theorem least_cst (q : Nat → Nat → Bool) (Z : Nat → Nat → Nat) (i j : Nat) (h : ∀ r c,(r < i ∨ (r = i ∧ c < j)) → Z r c = cst q r c) : leastS q Z i j = cst q i j:=by
  cases i with
  | zero=>rfl
  | succ i =>
    cases j with
    | zero=>rfl
    | succ j =>
      rw [leastS,cst,cstRow,h i j (by omega),h i (j + 1) (by omega),h (i + 1) j (by omega)];rfl
theorem cst_le (q : Nat → Nat → Bool) (i j : Nat) : cst q i j ≤ i + j:=by
  induction i generalizing j with
  | zero=>show j ≤ 0 + j;omega
  | succ i ih =>
    show cstRow q (cst q i) i j ≤ _
    induction j with
    | zero=>show i + 1 ≤ _;omega
    | succ j ihj =>
      rw [cstRow];have:=ih j;split <;> omega
structure Tbl (w0 wr : World) (B T : Nat) (va vb cv : Value) (gs : List Nat) (m : Nat) (Z : Nat → Nat → Nat) : Prop where
  tab : TabAt wr T va vb cv
  hB : B ≤ T
  own : wr.ownsRow B 32 1 cv gs.length (gs.map fun g=>.slice (some ⟨g,0,none⟩) m m)
  rows : ∀ r (h : r < gs.length),B ≤ gs[r] ∧ wr.rowIs gs[r] 3 m (fun c=>.int .i64 (Z r c : Int))
  nd : gs.Nodup
  below : Below B w0 wr
theorem Tbl.reads {w0 wr : World} {B T : Nat} {va vb cv : Value} {gs : List Nat} {m : Nat} {Z : Nat → Nat → Nat} (h : Tbl w0 wr B T va vb cv gs m Z) : Tab wr cv gs.length m Z:=by
  rcases h.own.2 with ⟨rfl,h0⟩|⟨g,cap,cur,rfl,hbg,hg,hnc,hcm,hcs,htake⟩
  · exact ⟨none,0,by rw [h0],by omega,by unfold maxLen;omega,fun r hr=>by omega⟩
  · refine ⟨some ⟨g,0,none⟩,cap,rfl,hnc,hcm,fun r hr=>⟨g,0,gs[r],m,rfl,?_,fun c hc=>(h.rows r hr).2.cell hc⟩⟩;rw [Nat.zero_add,h.own.cellAt r (by omega)];simp [hr]
theorem infoInts : (Tryz.prog.info? 32).map (fun i=>(i.zero,i.size,i.bytes)) = some (some (.slice none 0 0),1,24):=by kernel_rfl
theorem infoInt : (Tryz.prog.info? 3).map (fun i=>(i.zero,i.size,i.bytes)) = some (some (.int .i64 0),1,8):=by kernel_rfl
theorem makeInts (n : Nat) (h : n ≤ 900) (w : World) : (Instr.makeSlice 32 (.int .i64 ((n : Int) + 1)) (.int .i64 ((n : Int) + 1))).run Tryz.prog w = .ok (.slice (some ⟨w.heap.size,0,none⟩) (n + 1) (n + 1)) (w.alloc (.cells (madeCells #[.int .i64 0] (n + 1)) 3)):=by
  have h1:=run_make_row' (P:=Tryz.prog) 32 3 (.int .i64 0) 8 Tryz.underlying32 infoInt rfl .i64 .i64 (n + 1) (by omega) (by omega) w;have ec : ((n + 1 : Nat) : Int) = (n : Int) + 1:=by omega
  rw [ec] at h1;exact h1
theorem tab_lt {w : World} {T : Nat} {va vb cv : Value} (h : TabAt w T va vb cv) : T < w.heap.size:=(Array.getElem?_eq_some_iff.1 h).1
theorem tab_free {w : World} {T : Nat} {va vb cv : Value} (h : TabAt w T va vb cv) : w.frozen? ⟨T,2,none⟩ = false:=by
  unfold TabAt at h;simp [World.frozen?,h]
theorem tab_grow {wr w1 : World} {T : Nat} {va vb cv : Value} {o1 o2 : Obj} (h : TabAt wr T va vb cv) (hne : cv.ownBlock ≠ some T) (hg : (((wr.alloc o1).alloc o2).drew).grownBy w1 cv.ownBlock) : TabAt w1 T va vb cv:=by
  have hlt:=tab_lt h;unfold TabAt at *;rw [hg.block T (by simp;omega) (fun e=>hne e.symm)];show ((wr.alloc o1).alloc o2).heap[T]? = _;rw [Below.heap_alloc _ _ _ (by simp;omega),Below.heap_alloc _ _ _ hlt];exact h
theorem Tbl.ne {w0 wr : World} {B T : Nat} {va vb cv : Value} {gs : List Nat} {m : Nat} {Z : Nat → Nat → Nat} (h : Tbl w0 wr B T va vb cv gs m Z) : cv.ownBlock ≠ some T:=by
  rcases h.own.2 with ⟨rfl,h0⟩|⟨g,cap,cur,rfl,hbg,hg,_⟩
  · simp [Value.ownBlock]
  · intro e;simp only [Value.ownBlock,Option.some.injEq] at e;subst e;have ht:=h.tab;unfold TabAt at ht;rw [ht] at hg;simp only [Option.some.injEq,Obj.cells.injEq] at hg;exact absurd hg.2.1 (by decide)
def part2 (Z : Nat → Nat → Nat) (k j : Nat) : Nat → Nat → Nat:=fun r c=>if r < k then Z r c else if c < j then Z k c else 0
theorem tbl_push {w0 wr w1 : World} {B T : Nat} {va vb cv : Value} {gs : List Nat} {n k gg cap : Nat} {q : Nat → Nat → Nat}
    (h : Tbl w0 wr B T va vb cv gs (n + 1) q) (hk : gs.length = k) (hT1 : TabAt w1 T va vb cv)
    (hown1 : w1.ownsRow B 32 1 (.slice (some ⟨gg,0,none⟩) (gs.length + 1) cap) (gs.length + 1) ((gs.map fun g=>Value.slice (some ⟨g,0,none⟩) (n + 1) (n + 1)) ++ [.slice (some ⟨wr.heap.size,0,none⟩) (n + 1) (n + 1)]))
    (hgrow : (((wr.alloc (.cells (madeCells #[.int .i64 0] (n + 1)) 3)).alloc (.cells #[.slice (some ⟨wr.heap.size,0,none⟩) (n + 1) (n + 1)] 32)).drew).grownBy w1 cv.ownBlock)
    (hat : cv.ownBlock = some gg ∨ gg = wr.heap.size + 2) :
    Tbl w0 (w1.setCell ⟨T,2,none⟩ (.slice (some ⟨gg,0,none⟩) (gs.length + 1) cap)) B T va vb (.slice (some ⟨gg,0,none⟩) (gs.length + 1) cap) (gs ++ [wr.heap.size]) (n + 1) (part2 q k 0):=by
  have hlT:=tab_lt h.tab;have hB:=h.hB;have hrl : ∀ r (hr : r < gs.length),gs[r] < wr.heap.size:=fun r hr=>(h.rows r hr).2.lt
  have hneT : gg ≠ T:=by
    intro e;subst e;rcases hown1.2 with ⟨h0,_⟩|⟨g,c,cur,hv,_,hg,_⟩
    · cases h0
    · simp only [Value.slice.injEq,Option.some.injEq,Addr.mk.injEq,and_true,true_and] at hv;obtain ⟨rfl,rfl⟩:=hv;unfold TabAt at hT1;rw [hT1] at hg;simp only [Option.some.injEq,Obj.cells.injEq] at hg;exact absurd hg.2.1 (by decide)
  have hpast : ∀ b,b < wr.heap.size → some b ≠ cv.ownBlock → w1.heap[b]? = wr.heap[b]?:=by
    intro b hb hne;rw [hgrow.block b (by simp;omega) hne];show ((wr.alloc _).alloc _).heap[b]? = _;rw [Below.heap_alloc _ _ _ (by simp;omega),Below.heap_alloc _ _ _ hb]
  have hnew : w1.rowIs wr.heap.size 3 (n + 1) (fun _=>.int .i64 0):=by
    have h0:=World.rowIs_made wr (.int .i64 0) (n + 1) 3;refine h0.of_block ?_;have hne : some wr.heap.size ≠ cv.ownBlock:=by
      intro e;have:=(h.own.lt _ e.symm).2;omega
    rw [hgrow.block _ (by simp;omega) hne];show ((wr.alloc _).alloc _).heap[_]? = _;rw [Below.heap_alloc _ _ _ (by simp)]
  have hTn : T ≠ wr.heap.size:=by omega
  have hown2:=hown1;refine ⟨?_,hB,?_,?_,?_,?_⟩
  · unfold TabAt at *;simp [World.setCell,Array.getElem?_modify,hT1]
  · refine World.ownsRow.kept (w:=w1) (row:=some T) ?_ ⟨rfl,rfl,rfl,by simp [World.setCell],fun b _ hb=>Below.heap_setCell _ _ _ _ (fun e=>hb (by simp [e]))⟩ (Or.inr (by simpa [Value.ownBlock] using hneT))
    simpa using hown2
  · intro r hr
    by_cases hr2 : r < gs.length
    · have:=h.rows r hr2;rw [List.getElem_append_left hr2];have hne : some gs[r] ≠ cv.ownBlock:=by
        intro e;rcases h.own.2 with ⟨rfl,_⟩|⟨g,c,cur,rfl,_,hg,_⟩
        · cases e
        · simp only [Value.ownBlock,Option.some.injEq] at e;obtain ⟨c2,hb2,_⟩:=this.2;rw [e,hg] at hb2;simp only [Option.some.injEq,Obj.cells.injEq] at hb2;exact absurd hb2.2.1 (by decide)
      have hneT2 : gs[r] ≠ T:=by
        intro e;obtain ⟨c2,hb2,_⟩:=this.2;have ht:=h.tab;unfold TabAt at ht;rw [e,ht] at hb2;simp only [Option.some.injEq,Obj.cells.injEq] at hb2;exact absurd hb2.2.1 (by decide)
      refine ⟨this.1,((this.2.of_block (hpast _ (hrl r hr2) hne)).setOther (by simpa using hneT2) _).congr ?_⟩;intro c _;simp [part2,show r < k by omega]
    · have hr3 : r = gs.length:=by simp at hr;omega
      subst hr3;have e : (gs ++ [wr.heap.size])[gs.length] = wr.heap.size:=by simp
      rw [e];refine ⟨by omega,(hnew.setOther (by simpa using (Ne.symm hTn)) _).congr ?_⟩;intro c _;simp [part2,hk]
  · rw [List.nodup_append];refine ⟨h.nd,by simp,?_⟩;intro a ha b hb;simp only [List.mem_singleton] at hb;subst hb;obtain ⟨r,hr,rfl⟩:=List.mem_iff_getElem.1 ha;exact Nat.ne_of_lt (hrl r hr)
  · have h1 : Below B w0 (((wr.alloc (.cells (madeCells #[.int .i64 0] (n + 1)) 3)).alloc (.cells #[.slice (some ⟨wr.heap.size,0,none⟩) (n + 1) (n + 1)] 32)).drew):=((h.below.alloc (by omega) _).alloc (by simp;omega) _).drew;exact (h1.grown hgrow (by simp;omega) (fun b hb=>(h.own.lt b hb).1)).setCell hB _
theorem part2_le (q : Nat → Nat → Bool) (k j n m : Nat) (hn : n ≤ 1000) (hm : m ≤ 1000) : ∀ r c,r < n → c < m → part2 (cst q) k j r c ≤ 2000:=by
  intro r c hr hc;unfold part2;have h1:=cst_le q r c
  by_cases hk : r < k
  · rw [if_pos hk];omega
  · rw [if_neg hk];split
    · have h2:=cst_le q k c;omega
    · omega
theorem part2_eq (q : Nat → Nat → Bool) (k j : Nat) : ∀ r c,(r < k ∨ (r = k ∧ c < j)) → part2 (cst q) k j r c = cst q r c:=by
  intro r c h;unfold part2;rcases h with h|⟨rfl,h⟩
  · rw [if_pos h]
  · rw [if_neg (by omega),if_pos h]
theorem tbl_cell {w0 wr : World} {B T : Nat} {va vb cv : Value} {gs : List Nat} {m : Nat} {Z : Nat → Nat → Nat} (h : Tbl w0 wr B T va vb cv gs m Z) (k : Nat) (hk : gs.length = k + 1) :
    ∃ gc cap,cv = .slice (some ⟨gc,0,none⟩) (k + 1) cap ∧ wr.cell? ⟨gc,k,none⟩ = some (.slice (some ⟨gs[k]'(by omega),0,none⟩) m m):=by
  rcases h.own.2 with ⟨rfl,h0⟩|⟨g,cap,cur,rfl,hbg,hg,hnc,hcm,hcs,htake⟩
  · omega
  · refine ⟨g,cap,by rw [hk],?_⟩;rw [h.own.cellAt k (by omega)];simp [show k < gs.length by omega]
theorem Tbl.drewN {w0 wr : World} {B T : Nat} {va vb cv : Value} {gs : List Nat} {m : Nat} {Z : Nat → Nat → Nat} (h : Tbl w0 wr B T va vb cv gs m Z) (n : Nat) : Tbl w0 (wr.drewN n) B T va vb cv gs m Z :=
  ⟨h.tab,h.hB,h.own,h.rows,h.nd,below_drewN h.below n⟩
theorem Tbl.full {w0 wr : World} {B T : Nat} {va vb cv : Value} {gs : List Nat} {m k : Nat} {Z : Nat → Nat → Nat} (h : Tbl w0 wr B T va vb cv gs m (part2 Z k m)) (hk : gs.length = k + 1) : Tbl w0 wr B T va vb cv gs m Z :=
  ⟨h.tab,h.hB,h.own,fun r hr=>⟨(h.rows r hr).1,(h.rows r hr).2.congr fun c hc=>by
    unfold part2
    by_cases h1 : r < k
    · rw [if_pos h1]
    · rw [if_neg h1,if_pos hc,show r = k by omega]⟩,h.nd,h.below⟩
theorem tbl_store {w0 wr : World} {B T k j : Nat} {va vb cv : Value} {gs : List Nat} {m : Nat} {Z : Nat → Nat → Nat} (h : Tbl w0 wr B T va vb cv gs m (part2 Z k j)) (hk : gs.length = k + 1) :
    Tbl w0 (wr.setCell ⟨gs[k]'(by omega),j,none⟩ (.int .i64 (Z k j : Int))) B T va vb cv gs m (part2 Z k (j + 1)):=by
  have hrow:=h.rows k (by omega);obtain ⟨c0,hb0,_⟩:=hrow.2;have hneT : gs[k]'(by omega) ≠ T:=by
    intro e;have ht:=h.tab;unfold TabAt at ht;rw [e,ht] at hb0;simp only [Option.some.injEq,Obj.cells.injEq] at hb0;exact absurd hb0.2.1 (by decide)
  have hneO : cv.ownBlock = none ∨ cv.ownBlock ≠ some (gs[k]'(by omega)):=by
    rcases h.own.2 with ⟨rfl,h0⟩|⟨g,cap,cur,rfl,hbg,hg,_⟩
    · exact Or.inl rfl
    · right
      intro e;simp only [Value.ownBlock,Option.some.injEq] at e;rw [← e,hg] at hb0;simp only [Option.some.injEq,Obj.cells.injEq] at hb0;exact absurd hb0.2.1 (by decide)
  refine ⟨?_,h.hB,h.own.kept (row:=some (gs[k]'(by omega))) ⟨rfl,rfl,rfl,by simp [World.setCell],fun b _ hb=>Below.heap_setCell _ _ _ _ (fun e=>hb (by simp [e]))⟩ hneO,?_,h.nd,h.below.setCell hrow.1 _⟩
  · have ht:=h.tab;unfold TabAt at *;rw [Below.heap_setCell _ _ _ _ (fun e=>hneT e.symm)];exact ht
  · intro r hr;have hr1:=h.rows r hr
    by_cases hrk : r = k
    · subst hrk;refine ⟨hr1.1,(hr1.2.set j _).congr ?_⟩;intro c hc
      by_cases hcj : c = j
      · subst hcj;simp [part2]
      · have e : part2 Z r j r c = part2 Z r (j + 1) r c:=by
          unfold part2;simp only [Nat.lt_irrefl,if_false]
          by_cases h1 : c < j
          · rw [if_pos h1,if_pos (by omega)]
          · rw [if_neg h1,if_neg (by omega)]
        simp only [if_neg hcj];rw [e]
    · have hne : gs[r] ≠ gs[k]'(by omega):=by
        exact (List.pairwise_iff_getElem.1 h.nd) r k hr (by omega) (by omega)
      refine ⟨hr1.1,(hr1.2.setOther (by simpa using hne) _).congr ?_⟩;intro c hc;unfold part2;rw [if_pos (show r < k by omega),if_pos (show r < k by omega)]
theorem tbl_apart {w0 wr : World} {B T gc n cap : Nat} {va vb : Value} {gs : List Nat} {m : Nat} {Z : Nat → Nat → Nat} (h : Tbl w0 wr B T va vb (.slice (some ⟨gc,0,none⟩) n cap) gs m Z) (k : Nat) (hk : k < gs.length) : gs[k] ≠ T ∧ gs[k] ≠ gc:=by
  obtain ⟨c0,hb0,_⟩:=(h.rows k hk).2
  constructor
  · intro e;have ht:=h.tab;unfold TabAt at ht;rw [e,ht] at hb0;simp only [Option.some.injEq,Obj.cells.injEq] at hb0;exact absurd hb0.2.1 (by decide)
  · intro e;rcases h.own.2 with ⟨h1,h0⟩|⟨g,cap,cur,h1,hbg,hg,_⟩
    · omega
    · simp only [Value.slice.injEq,Option.some.injEq,Addr.mk.injEq,and_true,true_and] at h1;obtain ⟨rfl,_⟩:=h1;rw [e,hg] at hb0;simp only [Option.some.injEq,Obj.cells.injEq] at hb0;exact absurd hb0.2.1 (by decide)
theorem keep_store {w : World} {T gc gk k j : Nat} {v1 v2 u : Value} (h1 : gk ≠ T) (h2 : gk ≠ gc) (c1 : w.cell? ⟨T,2,none⟩ = some v1) (c2 : w.cell? ⟨gc,k,none⟩ = some v2) :
    (w.setCell ⟨gk,j,none⟩ u).cell? ⟨T,2,none⟩ = some v1 ∧ (w.setCell ⟨gk,j,none⟩ u).cell? ⟨gc,k,none⟩ = some v2:=by
  refine ⟨?_,?_⟩
  · rw [World.cell?_setCell_far _ _ _ _ h1];exact c1
  · rw [World.cell?_setCell_far _ _ _ _ h2];exact c2
theorem news1 (w : World) (o : Obj) (x : Value) (t : TypeId) : ∀ j u,[x][j]? = some u → (((w.alloc o).alloc (.cells #[x] t)).drew).cell? ((⟨w.heap.size + 1,0,none⟩ : Addr).add j) = some u:=by
  intro j u hj;rw [Go.WideShapes.add_plain,Nat.zero_add];show ((w.alloc o).alloc (.cells #[x] t)).cell? _ = _;rw [World.cell?_alloc_at _ _ _ _ (by simp)]
  simpa using hj
theorem tabled_any (va vb : Value) (xs ys : List Row) (w : World) (ha : Sl fields all w va xs) (hb : Sl fields all w vb ys) (hx : xs.length ≤ 900) (hy : ys.length ≤ 900) :
    Calls Tryz.prog 77 #[va,vb] w fun e w'=>∃ T cv,e = .returned (.pointer (some ⟨T,0,none⟩)) ∧ TabAt w' T va vb cv ∧ Tab w' cv (xs.length + 1) (ys.length + 1) (cst (eqAt xs ys)) ∧ Below w.heap.size w w':=by
  obtain ⟨a1,cap1,hva,hl1,hc1⟩:=rowAt ha;obtain ⟨a2,cap2,hvb,hl2,hc2⟩:=rowAt hb;subst hva;subst hvb;have HA:=Lib.hid ha;have HB:=Lib.hid hb;clear ha hb hc1 hc2
  go_enter Tryz.func77,Tryz.ntmps77
  go_wp2
  have hst : Tbl w (w.alloc (.cells #[.slice a1 xs.length cap1,.slice a2 ys.length cap2,.slice none 0 0] 136)) w.heap.size w.heap.size (.slice a1 xs.length cap1) (.slice a2 ys.length cap2) (.slice none 0 0) [] (ys.length + 1) (cst (eqAt xs ys)) :=
    ⟨by unfold TabAt;exact heap_alloc_new w _,Nat.le_refl _,World.ownsRow_nil _ _ _ _,fun r h=>absurd h (by simp),List.nodup_nil,(Below.refl _ _).alloc (Nat.le_refl _) _⟩
  go_loopw [15] (fun i wr=>∃ (k : Nat) (cv : Value) (gs : List Nat),k ≤ xs.length + 1 ∧ i = .int .i64 k ∧ gs.length = k ∧ Tbl w wr w.heap.size w.heap.size (.slice a1 xs.length cap1) (.slice a2 ys.length cap2) cv gs (ys.length + 1) (cst (eqAt xs ys))) (fun i _=>xs.length + 1 - (intOf i).toNat)
  case atStart=>exact ⟨0,_,[],by omega,rfl,rfl,hst⟩
  case round =>
    obtain ⟨k,cv,gs,hk,rfl,hgl,hst⟩:=hrel;obtain ⟨i0,hi0,hz0,hz1,hz2⟩:=info_parts infoInts
    by_cases hlt : k < xs.length + 1
    · have hmk:=makeInts ys.length (by omega);obtain ⟨c0,c1,c2⟩:=hst.tab.cell;have hlT:=tab_lt hst.tab;have hfr:=tab_free hst.tab;have hown:=hst.own;have HS:=Lib.hid hst;clear hst
      generalize hB : w.heap.size = T at *
      have hbT:=HS.out.below.size;have hw1 : IntKind.i64.wrap ((ys.length : Int) + 1) = (ys.length : Int) + 1:=IntWalk.i64_in _ (by omega);have hd : decide ((k : Int) < (xs.length : Int) + 1) = true:=by simp;omega
      go_upto_region 5 with (fail)
      go_cut [] from 18 to 31 (fun wx=>∃ cv',Tbl w wx T T (.slice a1 xs.length cap1) (.slice a2 ys.length cap2) cv' (gs ++ [wr.heap.size]) (ys.length + 1) (part2 (cst (eqAt xs ys)) k 0))
      case first =>
        go_region_law (refine step_append_lies _ (by rfl) _ _ _ (by rfl) T 32 i0 _ 1 24 Tryz.underlying134 hi0 hz0 hz1 hz2 rfl (by omega) cv gs.length (gs.map fun g=>.slice (some ⟨g,0,none⟩) (ys.length + 1) (ys.length + 1)) (by rfl) (((hown.alloc _).alloc _).drew) ⟨wr.heap.size + 1,0,none⟩ 1 1 [.slice (some ⟨wr.heap.size,0,none⟩) (ys.length + 1) (ys.length + 1)] (by rfl) (by rfl) (news1 _ _ _ _) (by simp [Value.oneCell']) (by omega) (by unfold maxLen;omega) (by omega) (by simp;omega) (wr.heap.size + 2) (by simp) ?_;intro gg cap w1 hown1 hgrow hat hlt1;have hT1:=tab_grow HS.out.tab HS.out.ne hgrow;have d2:=hT1.cell.2.2;have f2:=tab_free hT1)
        all_goals
          go_wp2_with fail
          go_meet
          subst hgl;exact ⟨_,tbl_push HS.out rfl hT1 hown1 hgrow hat⟩
      case rest =>
      clear c0 c1 c2 hmk hd hw1 hfr hown HS;obtain ⟨cv',hst⟩:=hcut;have HG:=Lib.hid (show (gs ++ [wr.heap.size]).length = k + 1 by simp [hgl]);clear hgl
      generalize gs ++ [wr.heap.size] = gs' at *
      go_wp2
      go_loopw [34] (fun i wi=>∃ j : Nat,j ≤ ys.length + 1 ∧ i = .int .i64 j ∧ Tbl w wi T T (.slice a1 xs.length cap1) (.slice a2 ys.length cap2) cv' gs' (ys.length + 1) (part2 (cst (eqAt xs ys)) k j)) (fun i _=>ys.length + 1 - (intOf i).toNat)
      case atStart=>exact ⟨0,by omega,rfl,hst⟩
      case round =>
        clear hst;obtain ⟨j,hj,rfl,hst⟩:=hrel
        by_cases hjl : j < ys.length + 1
        · have hgl:=HG.out;have hlk : k < gs'.length:=by omega
          obtain ⟨gc,cap3,rfl,hk3⟩ : ∃ gc cap3,cv' = .slice (some ⟨gc,0,none⟩) (k + 1) cap3 ∧ wr.cell? ⟨gc,k,none⟩ = some (.slice (some ⟨gs'[k]'hlk,0,none⟩) (ys.length + 1) (ys.length + 1)):=by
            exact tbl_cell hst k hgl
          have c2:=hst.tab.cell.2.2;have hrow:=(hst.rows k hlk).2;have d1:=hrow.cell (i:=j) hjl;have d2:=hrow.frozen j;have HL:=Lib.hid (fun nd=>least_any T k j gs'.length (ys.length + 1) (.slice a1 xs.length cap1) (.slice a2 ys.length cap2) (.slice (some ⟨gc,0,none⟩) (k + 1) cap3) xs ys (part2 (cst (eqAt xs ys)) k j) (wr.drewN nd) hst.tab
            (((HA.out.below (by decide) (hB ▸ hst.below : Below w.heap.size w wr))).drewN (by decide) nd) (((HB.out.below (by decide) (hB ▸ hst.below : Below w.heap.size w wr))).drewN (by decide) nd) (hgl ▸ hst.reads) (by omega) (by omega) (by omega) (by omega) (by omega) (by omega) (part2_le (eqAt xs ys) k j gs'.length (ys.length + 1) (by omega) (by omega)))
          have HZ : Hid (leastS (eqAt xs ys) (part2 (cst (eqAt xs ys)) k j) k j = cst (eqAt xs ys) k j):=Lib.hid (least_cst _ _ _ _ (part2_eq (eqAt xs ys) k j));obtain ⟨hn1,hn2⟩:=tbl_apart hst k hlk;have HS:=Lib.hid hst;clear hst hrow
          generalize hgk : gs'[k]'hlk = gk at *
          have HGK:=Lib.hid hgk;clear hgk hgl;have hd : decide ((j : Int) < (ys.length : Int) + 1) = true:=by simp;omega
          go_wp2
          have hI1 : (k : Int) < (k : Int) + 1:=by omega
          have hI2 : (j : Int) < (ys.length : Int) + 1:=by omega
          have hI3 : (0 : Int) ≤ (k : Int):=by omega
          have hI4 : (0 : Int) ≤ (j : Int):=by omega
          go_region_held3 (fun w'=>w'.cell? ⟨T,2,none⟩ = some (.slice (some ⟨gc,0,none⟩) (k + 1) cap3) ∧ w'.cell? ⟨gc,k,none⟩ = some (.slice (some ⟨gk,0,none⟩) (ys.length + 1) (ys.length + 1))) (first|go_keep|(refine keep_store hn1 hn2 ?_ ?_ <;> assumption)) (first|(go_at_call 115;refine (HL.out 1).mono ?_;rintro e w' ⟨rfl,nn,rfl⟩))
          all_goals
            rw [HZ.out]
            go_wp2
            go_roundw
            case rel=>exact ⟨j + 1,by omega,by go_num,by have h9:=tbl_store HS.out HG.out;rw [HGK.out] at h9;exact h9.drewN _⟩
            case measure=>simp [intOf];omega
        · obtain rfl : j = ys.length + 1:=by omega
          have hgl:=HG.out
          go_wp2
          go_roundw
          case rel=>exact ⟨k + 1,cv',gs',by omega,by go_num,hgl,hst.full hgl⟩
          case measure=>simp [intOf];omega
    · obtain rfl : k = xs.length + 1:=by omega
      go_wp2
      go_ret
      exact ⟨w.heap.size,cv,rfl,hst.tab,hgl ▸ hst.reads,hst.below⟩
theorem Distance_any (va vb : Value) (xs ys : List Row) (w : World) (ha : Sl fields all w va xs) (hb : Sl fields all w vb ys) (hx : xs.length ≤ 900) (hy : ys.length ≤ 900) :
    Calls Tryz.prog 45 #[va,vb] w fun e w'=>e = .returned (.int .i64 (cst (eqAt xs ys) xs.length ys.length : Int)) ∧ Below w.heap.size w w':=by
  have H:=Lib.hid (tabled_any va vb xs ys w ha hb hx hy);obtain ⟨a1,cap1,rfl,hl1,hc1⟩:=rowAt ha;obtain ⟨a2,cap2,rfl,hl2,hc2⟩:=rowAt hb;clear ha hb hc1 hc2
  go_enter Tryz.func45,Tryz.ntmps45
  go_wp2_with fail
  refine H.out.mono ?_
  rintro e w1 ⟨T,cv,rfl,hT,hM,hb1⟩
  obtain ⟨c0,c1,c2⟩:=hT.cell;obtain ⟨a3,cap3,rfl,hl3,hcap3,hc3⟩:=hM;obtain ⟨b3,off3,g3,gc3,rfl,c3,s3⟩:=hc3 xs.length (by omega);have e1:=s3 ys.length (by omega);have k1 : (xs.length : Int) < (xs.length : Int) + 1:=by omega
  have k2 : (ys.length : Int) < (ys.length : Int) + 1:=by omega
  clear hT hc3 s3
  go_wp2
  go_ret
  exact ⟨rfl,hb1⟩
def lastS (q : Nat → Nat → Bool) (Z : Nat → Nat → Nat) : Nat → Nat → Nat
  | 0,_=>4
  | i + 1,0=>if Z i 0 + 1 = Z (i + 1) 0 then 3 else 4
  | i + 1,j + 1=>if q i j = true ∧ Z i j = Z (i + 1) (j + 1) then 1 else if Z i j + 1 = Z (i + 1) (j + 1) then 2 else if Z i (j + 1) + 1 = Z (i + 1) (j + 1) then 3 else 4
set_option maxHeartbeats 2000000 in
theorem last_any (T i j n m : Nat) (va vb cv : Value) (xs ys : List Row) (Z : Nat → Nat → Nat) (w : World) (hT : TabAt w T va vb cv) (ha : Sl fields all w va xs) (hb : Sl fields all w vb ys)
    (hM : Tab w cv n m Z) (hi : i ≤ xs.length) (hj : j ≤ ys.length) (hin : i < n) (hjm : j < m) (hm : m ≤ 1000) (hn : n ≤ 1000) (hZ : ∀ r c,r < n → c < m → Z r c ≤ 2000) :
    Calls Tryz.prog 142 #[.pointer (some ⟨T,0,none⟩),.int .i64 (i : Int),.int .i64 (j : Int)] w fun e w'=>e = .returned (.int .i64 (lastS (eqAt xs ys) Z i j : Int)) ∧ ∃ k,w' = w.drewN k:=by
  obtain ⟨ca,cb,cc⟩:=hT.cell;obtain ⟨a1,cap1,rfl,hl1,hc1⟩:=rowAt ha;obtain ⟨a2,cap2,rfl,hl2,hc2⟩:=rowAt hb;obtain ⟨a3,cap3,rfl,hl3,hcap3,hc3⟩:=hM;have k7 : (i : Int) < (n : Int):=by omega
  have k8 : (j : Int) < (m : Int):=by omega
  cases i with
  | zero =>
    obtain ⟨b4,off4,g4,gc4,rfl,c4,s4⟩:=hc3 0 (by omega);have e4:=s4 j (by omega);have z4:=hZ 0 j (by omega) (by omega)
    generalize Z 0 j = h at *
    simp only [Nat.add_zero] at c4;clear ca cb hT ha hb hc3 hc1 hc2 s4 hZ
    go_enter Tryz.func142,Tryz.ntmps142
    go_wp2
    go_quiet (fail)
    go_wp2
    go_ret
    exact ⟨rfl,_,rfl⟩
  | succ i =>
    obtain ⟨b3,off3,g3,gc3,rfl,c3,s3⟩:=hc3 i (by omega);obtain ⟨b4,off4,g4,gc4,h4,c4,s4⟩:=hc3 (i + 1) (by omega);simp only [Option.some.injEq,Addr.mk.injEq,and_true] at h4;obtain ⟨rfl,rfl⟩:=h4;have k3 : (i : Int) < (n : Int):=by omega
    have k5 : (i : Int) + 1 < (n : Int):=by omega
    have g1 : decide ((0 : Int) < (i : Int) + 1) = true:=by simp
    cases j with
    | zero =>
      have e4:=s4 0 (by omega);have e3:=s3 0 (by omega);have z4:=hZ (i + 1) 0 (by omega) (by omega);have z3:=hZ i 0 (by omega) (by omega);have HL : Hid (lastS (eqAt xs ys) Z (i + 1) 0 = if Z i 0 + 1 = Z (i + 1) 0 then 3 else 4):=Lib.hid rfl
      generalize Z (i + 1) 0 = h at *
      generalize Z i 0 = u at *
      clear ca cb hT ha hb hc3 hc1 hc2 s4 s3 hZ
      by_cases hu : u + 1 = h
      · have HR:=Lib.hid (HL.out.trans (if_pos hu));subst hu
        go_enter Tryz.func142,Tryz.ntmps142
        go_wp2
        go_quiet (fail)
        go_wp2
        go_ret
        exact ⟨ret_i64 (by rw [HR.out];rfl),_,rfl⟩
      · have HR:=Lib.hid (HL.out.trans (if_neg hu));have hu2 : ((u : Int) == (h : Int) - 1) = false:=by rw [beq_eq_false_iff_ne];omega
        clear hu
        go_enter Tryz.func142,Tryz.ntmps142
        go_wp2
        go_quiet (fail)
        go_wp2
        go_ret
        exact ⟨ret_i64 (by rw [HR.out];rfl),_,rfl⟩
    | succ j =>
      obtain ⟨b1,off1,r1,rfl,c1,s1⟩:=hc1 i (by omega);obtain ⟨b2,off2,r2,rfl,c2,s2⟩:=hc2 j (by omega);have H0:=fun n=>same_any r1 r2 _ _ (w.drewN n) (s1.drewN (by decide) n) (s2.drewN (by decide) n)
      have k1 : (i : Int) < (xs.length : Int):=by omega
      have k2 : (j : Int) < (ys.length : Int):=by omega
      have k4 : (j : Int) < (m : Int):=by omega
      have k6 : (j : Int) + 1 < (m : Int):=by omega
      have g2 : decide ((0 : Int) < (j : Int) + 1) = true:=by simp
      have e1:=s3 j (by omega);have e2:=s3 (j + 1) (by omega);have e4:=s4 (j + 1) (by omega);have z1:=hZ i j (by omega) (by omega);have z2:=hZ i (j + 1) (by omega) (by omega);have z4:=hZ (i + 1) (j + 1) (by omega) (by omega);have HE : Hid (eqAt xs ys i j = decide (xs[i] = ys[j])):=Lib.hid (by simp [eqAt,List.getD,show i < xs.length by omega,show j < ys.length by omega]);have HL : Hid (lastS (eqAt xs ys) Z (i + 1) (j + 1) = if eqAt xs ys i j = true ∧ Z i j = Z (i + 1) (j + 1) then 1 else if Z i j + 1 = Z (i + 1) (j + 1) then 2 else if Z i (j + 1) + 1 = Z (i + 1) (j + 1) then 3 else 4):=Lib.hid rfl
      generalize Z (i + 1) (j + 1) = h at *
      generalize Z i (j + 1) = u at *
      generalize Z i j = p at *
      clear hT ha hb hc1 hc2 hc3 s1 s2 s3 s4 hZ
      by_cases hq : xs[i] = ys[j] ∧ p = h
      · obtain ⟨hq,rfl⟩:=hq;have HR:=Lib.hid (HL.out.trans (if_pos ⟨by rw [HE.out];exact decide_eq_true hq,rfl⟩));rw [decide_eq_true hq] at H0;have H:=Lib.hid H0;clear hq H0
        go_enter Tryz.func142,Tryz.ntmps142
        go_wp2
        go_quiet ((go_at_call 79;first|exact Calls.quiet_of (H.out _)|exact quiet_add (H.out _)))
        go_wp2
        go_ret
        exact ⟨ret_i64 (by rw [HR.out];rfl),_,rfl⟩
      · have hnq : ¬ (eqAt xs ys i j = true ∧ p = h):=fun hh=>hq ⟨by have h1:=hh.1;rw [HE.out] at h1;exact of_decide_eq_true h1,hh.2⟩
        have HL:=Lib.hid (HL.out.trans (if_neg hnq));have hf : Hid (xs[i] = ys[j] → ((p : Int) == (h : Int)) = false):=Lib.hid (fun hx=>by rw [beq_eq_false_iff_ne];intro he;exact hq ⟨hx,by omega⟩);clear hnq hq
        by_cases h2 : p + 1 = h
        · have HR:=Lib.hid (HL.out.trans (if_pos h2));subst h2
          by_cases hx : xs[i] = ys[j]
          · rw [decide_eq_true hx] at H0;have H:=Lib.hid H0;have hf:=hf.out hx;clear hx H0
            go_enter Tryz.func142,Tryz.ntmps142
            go_wp2
            go_quiet ((go_at_call 79;first|exact Calls.quiet_of (H.out _)|exact quiet_add (H.out _)))
            go_wp2
            go_ret
            exact ⟨ret_i64 (by rw [HR.out];rfl),_,rfl⟩
          · rw [decide_eq_false hx] at H0;have H:=Lib.hid H0;clear hx H0 hf
            go_enter Tryz.func142,Tryz.ntmps142
            go_wp2
            go_quiet ((go_at_call 79;first|exact Calls.quiet_of (H.out _)|exact quiet_add (H.out _)))
            go_wp2
            go_ret
            exact ⟨ret_i64 (by rw [HR.out];rfl),_,rfl⟩
        · have HL:=Lib.hid (HL.out.trans (if_neg h2));have h2 : ((p : Int) == (h : Int) - 1) = false:=by rw [beq_eq_false_iff_ne];omega
          by_cases h3 : u + 1 = h
          · have HR:=Lib.hid (HL.out.trans (if_pos h3));subst h3
            by_cases hx : xs[i] = ys[j]
            · rw [decide_eq_true hx] at H0;have H:=Lib.hid H0;have hf:=hf.out hx;clear hx H0
              go_enter Tryz.func142,Tryz.ntmps142
              go_wp2
              go_quiet ((go_at_call 79;first|exact Calls.quiet_of (H.out _)|exact quiet_add (H.out _)))
              go_wp2
              go_ret
              exact ⟨ret_i64 (by rw [HR.out];rfl),_,rfl⟩
            · rw [decide_eq_false hx] at H0;have H:=Lib.hid H0;clear hx H0 hf
              go_enter Tryz.func142,Tryz.ntmps142
              go_wp2
              go_quiet ((go_at_call 79;first|exact Calls.quiet_of (H.out _)|exact quiet_add (H.out _)))
              go_wp2
              go_ret
              exact ⟨ret_i64 (by rw [HR.out];rfl),_,rfl⟩
          · have HR:=Lib.hid (HL.out.trans (if_neg h3));have h3 : ((u : Int) == (h : Int) - 1) = false:=by rw [beq_eq_false_iff_ne];omega
            by_cases hx : xs[i] = ys[j]
            · rw [decide_eq_true hx] at H0;have H:=Lib.hid H0;have hf:=hf.out hx;clear hx H0
              go_enter Tryz.func142,Tryz.ntmps142
              go_wp2
              go_quiet ((go_at_call 79;first|exact Calls.quiet_of (H.out _)|exact quiet_add (H.out _)))
              go_wp2
              go_ret
              exact ⟨ret_i64 (by rw [HR.out];rfl),_,rfl⟩
            · rw [decide_eq_false hx] at H0;have H:=Lib.hid H0;clear hx H0 hf
              go_enter Tryz.func142,Tryz.ntmps142
              go_wp2
              go_quiet ((go_at_call 79;first|exact Calls.quiet_of (H.out _)|exact quiet_add (H.out _)))
              go_wp2
              go_ret
              exact ⟨ret_i64 (by rw [HR.out];rfl),_,rfl⟩
end Dif
end Go.Proofs.YtpfkncffaanjcaaGreatDoor
namespace Go.Proofs
open Go.Shelf
def Tryz.lays156_ren : Go.Shelf.Ren:=⟨fun|156=>136|165=>160|166=>126|169=>127|240=>156|241=>181|276=>170|277=>194|n=>n,fun|31=>157|9=>9|3=>3|4=>4|0=>0|20=>20|72=>201|76=>86|70=>198|37=>199|75=>34|127=>233|164=>219|5=>5|80=>41|n=>n,fun|n=>n⟩
theorem Tryz.lays156 : Go.Proofs.Lays.n156 Tryz.prog Tryz.lays156_ren:={
  mixed:=by kernel_rfl
  f156:=Tryz.func136.trans (congrArg some (by kernel_rfl))
  f165:=Tryz.func160.trans (congrArg some (by kernel_rfl))
  f166:=Tryz.func126.trans (congrArg some (by kernel_rfl))
  f169:=Tryz.func127.trans (congrArg some (by kernel_rfl))
  f240:=Tryz.func156.trans (congrArg some (by kernel_rfl))
  f241:=Tryz.func181.trans (congrArg some (by kernel_rfl))
  f276:=Tryz.func170.trans (congrArg some (by kernel_rfl))
  f277:=Tryz.func194.trans (congrArg some (by kernel_rfl))
  t0:=Tryz.underlying0
  a0:=Tryz.isAgg0
  z0:=Tryz.sizeOf0
  v0:=Tryz.zeroValue0
  t3:=Tryz.underlying3
  a3:=Tryz.isAgg3
  z3:=Tryz.sizeOf3
  v3:=Tryz.zeroValue3
  t4:=Tryz.underlying4
  a4:=Tryz.isAgg4
  z4:=Tryz.sizeOf4
  v4:=Tryz.zeroValue4
  t9:=Tryz.underlying9
  a9:=Tryz.isAgg9
  z9:=Tryz.sizeOf9
  v9:=Tryz.zeroValue9
  t20:=Tryz.underlying20
  a20:=Tryz.isAgg20
  z20:=Tryz.sizeOf20
  v20:=Tryz.zeroValue20
  t31:=Tryz.underlying157
  a31:=Tryz.isAgg157
  z31:=Tryz.sizeOf157
  v31:=Tryz.zeroValue157
  t37:=Tryz.underlying199
  a37:=Tryz.isAgg199
  z37:=Tryz.sizeOf199
  v37:=Tryz.zeroValue199
  t70:=Tryz.underlying198
  a70:=Tryz.isAgg198
  z70:=Tryz.sizeOf198
  v70:=Tryz.zeroValue198
  t72:=Tryz.underlying201
  a72:=Tryz.isAgg201
  z72:=Tryz.sizeOf201
  v72:=Tryz.zeroValue201
  t75:=Tryz.underlying34
  a75:=Tryz.isAgg34
  z75:=Tryz.sizeOf34
  v75:=Tryz.zeroValue34
  t76:=Tryz.underlying86
  a76:=Tryz.isAgg86
  z76:=Tryz.sizeOf86
  v76:=Tryz.zeroValue86
  t127:=Tryz.underlying233
  a127:=Tryz.isAgg233
  z127:=Tryz.sizeOf233
  v127:=Tryz.zeroValue233
  t164:=Tryz.underlying219
  a164:=Tryz.isAgg219
  z164:=Tryz.sizeOf219
  v164:=Tryz.zeroValue219 }
theorem Tryz.Builder_Extra_156 : Builder.Extra Tryz.prog Tryz.lays156_ren:={
  sizeBuilder:=by kernel_rfl
  liesBuilder:=by kernel_rfl
  t5:=Tryz.underlying5
  a5:=Tryz.isAgg5
  z5:=Tryz.sizeOf5
  v5:=Tryz.zeroValue5
  infoByte:=by kernel_rfl
  cellsByte:=by kernel_rfl
  sizeByte:=by kernel_rfl
  neB5:=by decide }
open Go.RowKit in
theorem Tryz.strings_Join_none (a : Option Addr) (c : Nat) (sep : ByteArray) (w : World) :
    Calls Tryz.prog 136 #[.slice a 0 c,.string sep] w fun e w'=>e = .returned (.string ⟨#[]⟩) ∧ w' = w:=Any.strings_Join_none Tryz.lays156 Tryz.Builder_Extra_156 a c sep w
open Go.RowKit in
theorem Tryz.strings_Join (bk o c : Nat) (xs : List ByteArray) (sep : ByteArray) (w : World) (hcells : ∀ (j : Nat) x,xs[j]? = some x → w.cell? ⟨bk,o + j,none⟩ = some (.string x)) (hbk : bk < w.heap.size) (hN : xs.length ≤ 140737488355328) (hcap : xs.length ≤ c) (hlen : (Lib.join (xs.map (·.data.toList)) sep.data.toList).length ≤ 140737488355328) :
    Calls Tryz.prog 136 #[.slice (some ⟨bk,o,none⟩) xs.length c,.string sep] w fun e w'=>e = .returned (.string ⟨(Lib.join (xs.map (·.data.toList)) sep.data.toList).toArray⟩) ∧ Below w.heap.size w w':=Any.strings_Join Tryz.lays156 Tryz.Builder_Extra_156 bk o c xs sep w hcells hbk hN hcap hlen
def Tryz.lays160_ren : Go.Shelf.Ren:=⟨fun|160=>158|232=>173|231=>172|227=>174|234=>176|233=>175|236=>178|235=>177|228=>189|271=>192|151=>191|197=>190|120=>201|152=>200|260=>199|137=>203|119=>204|224=>187|225=>186|217=>185|266=>197|n=>n,fun|9=>9|4=>4|3=>3|5=>5|117=>256|116=>255|0=>0|124=>259|21=>21|105=>266|46=>265|119=>277|139=>280|138=>279|n=>n,fun|3=>2|4=>3|n=>n⟩
theorem Tryz.lays160 : Go.Proofs.Lays.n160 Tryz.prog Tryz.lays160_ren:={
  mixed:=by kernel_rfl
  f119:=Tryz.func204.trans (congrArg some (by kernel_rfl))
  f120:=Tryz.func201.trans (congrArg some (by kernel_rfl))
  f137:=Tryz.func203.trans (congrArg some (by kernel_rfl))
  f151:=Tryz.func191.trans (congrArg some (by kernel_rfl))
  f152:=Tryz.func200.trans (congrArg some (by kernel_rfl))
  f160:=Tryz.func158.trans (congrArg some (by kernel_rfl))
  f197:=Tryz.func190.trans (congrArg some (by kernel_rfl))
  f217:=Tryz.func185.trans (congrArg some (by kernel_rfl))
  f224:=Tryz.func187.trans (congrArg some (by kernel_rfl))
  f225:=Tryz.func186.trans (congrArg some (by kernel_rfl))
  f227:=Tryz.func174.trans (congrArg some (by kernel_rfl))
  f228:=Tryz.func189.trans (congrArg some (by kernel_rfl))
  f231:=Tryz.func172.trans (congrArg some (by kernel_rfl))
  f232:=Tryz.func173.trans (congrArg some (by kernel_rfl))
  f233:=Tryz.func175.trans (congrArg some (by kernel_rfl))
  f234:=Tryz.func176.trans (congrArg some (by kernel_rfl))
  f235:=Tryz.func177.trans (congrArg some (by kernel_rfl))
  f236:=Tryz.func178.trans (congrArg some (by kernel_rfl))
  f260:=Tryz.func199.trans (congrArg some (by kernel_rfl))
  f266:=Tryz.func197.trans (congrArg some (by kernel_rfl))
  f271:=Tryz.func192.trans (congrArg some (by kernel_rfl))
  t0:=Tryz.underlying0
  a0:=Tryz.isAgg0
  z0:=Tryz.sizeOf0
  v0:=Tryz.zeroValue0
  t3:=Tryz.underlying3
  a3:=Tryz.isAgg3
  z3:=Tryz.sizeOf3
  v3:=Tryz.zeroValue3
  t4:=Tryz.underlying4
  a4:=Tryz.isAgg4
  z4:=Tryz.sizeOf4
  v4:=Tryz.zeroValue4
  t5:=Tryz.underlying5
  a5:=Tryz.isAgg5
  z5:=Tryz.sizeOf5
  v5:=Tryz.zeroValue5
  t9:=Tryz.underlying9
  a9:=Tryz.isAgg9
  z9:=Tryz.sizeOf9
  v9:=Tryz.zeroValue9
  t21:=Tryz.underlying21
  a21:=Tryz.isAgg21
  z21:=Tryz.sizeOf21
  v21:=Tryz.zeroValue21
  t46:=Tryz.underlying265
  a46:=Tryz.isAgg265
  z46:=Tryz.sizeOf265
  v46:=Tryz.zeroValue265
  t105:=Tryz.underlying266
  a105:=Tryz.isAgg266
  z105:=Tryz.sizeOf266
  v105:=Tryz.zeroValue266
  t116:=Tryz.underlying255
  a116:=Tryz.isAgg255
  z116:=Tryz.sizeOf255
  t117:=Tryz.underlying256
  a117:=Tryz.isAgg256
  z117:=Tryz.sizeOf256
  v117:=Tryz.zeroValue256
  t119:=Tryz.underlying277
  a119:=Tryz.isAgg277
  z119:=Tryz.sizeOf277
  t124:=Tryz.underlying259
  a124:=Tryz.isAgg259
  z124:=Tryz.sizeOf259
  v124:=Tryz.zeroValue259
  t138:=Tryz.underlying279
  a138:=Tryz.isAgg279
  z138:=Tryz.sizeOf279
  v138:=Tryz.zeroValue279
  t139:=Tryz.underlying280
  a139:=Tryz.isAgg280
  z139:=Tryz.sizeOf280
  v139:=Tryz.zeroValue280
  g3:=by kernel_rfl
  g4:=by kernel_rfl }
def Tryz.lays144_ren : Go.Shelf.Ren:=⟨fun|144=>146|143=>163|219=>171|217=>185|225=>186|224=>187|267=>188|266=>197|314=>198|n=>n,fun|9=>9|4=>4|3=>3|5=>5|46=>265|146=>273|51=>272|n=>n,fun|1=>1|n=>n⟩
theorem Tryz.lays144 : Go.Proofs.Lays.n144 Tryz.prog Tryz.lays144_ren:={
  mixed:=by kernel_rfl
  f143:=Tryz.func163.trans (congrArg some (by kernel_rfl))
  f144:=Tryz.func146.trans (congrArg some (by kernel_rfl))
  f217:=Tryz.func185.trans (congrArg some (by kernel_rfl))
  f219:=Tryz.func171.trans (congrArg some (by kernel_rfl))
  f224:=Tryz.func187.trans (congrArg some (by kernel_rfl))
  f225:=Tryz.func186.trans (congrArg some (by kernel_rfl))
  f266:=Tryz.func197.trans (congrArg some (by kernel_rfl))
  f267:=Tryz.func188.trans (congrArg some (by kernel_rfl))
  f314:=Tryz.func198.trans (congrArg some (by kernel_rfl))
  t3:=Tryz.underlying3
  a3:=Tryz.isAgg3
  z3:=Tryz.sizeOf3
  v3:=Tryz.zeroValue3
  t4:=Tryz.underlying4
  a4:=Tryz.isAgg4
  z4:=Tryz.sizeOf4
  v4:=Tryz.zeroValue4
  t5:=Tryz.underlying5
  a5:=Tryz.isAgg5
  z5:=Tryz.sizeOf5
  v5:=Tryz.zeroValue5
  t9:=Tryz.underlying9
  a9:=Tryz.isAgg9
  z9:=Tryz.sizeOf9
  v9:=Tryz.zeroValue9
  t46:=Tryz.underlying265
  a46:=Tryz.isAgg265
  z46:=Tryz.sizeOf265
  v46:=Tryz.zeroValue265
  t51:=Tryz.underlying272
  a51:=Tryz.isAgg272
  z51:=Tryz.sizeOf272
  v51:=Tryz.zeroValue272
  t146:=Tryz.underlying273
  a146:=Tryz.isAgg273
  z146:=Tryz.sizeOf273
  v146:=Tryz.zeroValue273
  g1:=by kernel_rfl }
open Go.RowKit Go.Lib in
theorem Tryz.strings_Contains (s sub : ByteArray) (m : Int) (w : World) (hs : s.size < 4294967281) (hm : w.cell? ⟨1,0,none⟩ = some (.int .i64 m)) :
    Calls Tryz.prog 146 #[.string s,.string sub] w fun e w'=>e = .returned (.bool (Lib.contains s.data.toList sub.data.toList)) ∧ w' = w:=Any.strings_Contains Tryz.lays144 s sub m w hs hm
def Tryz.lays145_ren : Go.Shelf.Ren:=⟨fun|145=>130|220=>157|219=>171|217=>185|225=>186|224=>187|267=>188|266=>197|314=>198|n=>n,fun|9=>9|4=>4|59=>205|3=>3|5=>5|46=>265|146=>273|51=>272|n=>n,fun|1=>1|n=>n⟩
theorem Tryz.lays145 : Go.Proofs.Lays.n145 Tryz.prog Tryz.lays145_ren:={
  mixed:=by kernel_rfl
  f145:=Tryz.func130.trans (congrArg some (by kernel_rfl))
  f217:=Tryz.func185.trans (congrArg some (by kernel_rfl))
  f219:=Tryz.func171.trans (congrArg some (by kernel_rfl))
  f220:=Tryz.func157.trans (congrArg some (by kernel_rfl))
  f224:=Tryz.func187.trans (congrArg some (by kernel_rfl))
  f225:=Tryz.func186.trans (congrArg some (by kernel_rfl))
  f266:=Tryz.func197.trans (congrArg some (by kernel_rfl))
  f267:=Tryz.func188.trans (congrArg some (by kernel_rfl))
  f314:=Tryz.func198.trans (congrArg some (by kernel_rfl))
  t3:=Tryz.underlying3
  a3:=Tryz.isAgg3
  z3:=Tryz.sizeOf3
  v3:=Tryz.zeroValue3
  t4:=Tryz.underlying4
  a4:=Tryz.isAgg4
  z4:=Tryz.sizeOf4
  v4:=Tryz.zeroValue4
  t5:=Tryz.underlying5
  a5:=Tryz.isAgg5
  z5:=Tryz.sizeOf5
  v5:=Tryz.zeroValue5
  t9:=Tryz.underlying9
  a9:=Tryz.isAgg9
  z9:=Tryz.sizeOf9
  v9:=Tryz.zeroValue9
  t46:=Tryz.underlying265
  a46:=Tryz.isAgg265
  z46:=Tryz.sizeOf265
  v46:=Tryz.zeroValue265
  t51:=Tryz.underlying272
  a51:=Tryz.isAgg272
  z51:=Tryz.sizeOf272
  v51:=Tryz.zeroValue272
  t59:=Tryz.underlying205
  a59:=Tryz.isAgg205
  z59:=Tryz.sizeOf205
  v59:=Tryz.zeroValue205
  t146:=Tryz.underlying273
  a146:=Tryz.isAgg273
  z146:=Tryz.sizeOf273
  v146:=Tryz.zeroValue273
  g1:=by kernel_rfl }
open Go.RowKit Go.Lib in
theorem Tryz.strings_Cut (s sep : ByteArray) (m : Int) (w : World) (hs : s.size < 4294967281) (hm : w.cell? ⟨1,0,none⟩ = some (.int .i64 m)) :
    Calls Tryz.prog 130 #[.string s,.string sep] w fun e w'=>e = .returned (.tuple #[.string ⟨(Lib.cut s.data.toList sep.data.toList).1.toArray⟩,.string ⟨(Lib.cut s.data.toList sep.data.toList).2.1.toArray⟩,.bool (Lib.cut s.data.toList sep.data.toList).2.2]) ∧ ∃ n,w' = w.drewN n:=Any.strings_Cut Tryz.lays145 s sep m w hs hm
def Tryz.lays99_ren : Go.Shelf.Ren:=⟨fun|99=>145|206=>162|n=>n,fun|9=>9|4=>4|3=>3|n=>n,fun|n=>n⟩
theorem Tryz.lays99 : Go.Proofs.Lays.n99 Tryz.prog Tryz.lays99_ren:={
  mixed:=by kernel_rfl
  f99:=Tryz.func145.trans (congrArg some (by kernel_rfl))
  f206:=Tryz.func162.trans (congrArg some (by kernel_rfl))
  t3:=Tryz.underlying3
  a3:=Tryz.isAgg3
  z3:=Tryz.sizeOf3
  v3:=Tryz.zeroValue3
  t4:=Tryz.underlying4
  a4:=Tryz.isAgg4
  z4:=Tryz.sizeOf4
  v4:=Tryz.zeroValue4
  t9:=Tryz.underlying9
  a9:=Tryz.isAgg9
  z9:=Tryz.sizeOf9
  v9:=Tryz.zeroValue9 }
open Go.RowKit Go.Lib in
theorem Tryz.strings_HasPrefix (s p : ByteArray) (w : World) :
    Calls Tryz.prog 145 #[.string s,.string p] w fun e w'=>e = .returned (.bool (Lib.hasPrefix s.data.toList p.data.toList)) ∧ w' = w:=Any.strings_HasPrefix Tryz.lays99 s p w
def Tryz.lays101_ren : Go.Shelf.Ren:=⟨fun|101=>180|208=>193|206=>162|n=>n,fun|9=>9|4=>4|3=>3|n=>n,fun|n=>n⟩
theorem Tryz.lays101 : Go.Proofs.Lays.n101 Tryz.prog Tryz.lays101_ren:={
  mixed:=by kernel_rfl
  f101:=Tryz.func180.trans (congrArg some (by kernel_rfl))
  f206:=Tryz.func162.trans (congrArg some (by kernel_rfl))
  f208:=Tryz.func193.trans (congrArg some (by kernel_rfl))
  t3:=Tryz.underlying3
  a3:=Tryz.isAgg3
  z3:=Tryz.sizeOf3
  v3:=Tryz.zeroValue3
  t4:=Tryz.underlying4
  a4:=Tryz.isAgg4
  z4:=Tryz.sizeOf4
  v4:=Tryz.zeroValue4
  t9:=Tryz.underlying9
  a9:=Tryz.isAgg9
  z9:=Tryz.sizeOf9
  v9:=Tryz.zeroValue9 }
open Go.RowKit Go.Lib in
theorem Tryz.strings_TrimPrefix (s p : ByteArray) (w : World) :
    Calls Tryz.prog 180 #[.string s,.string p] w fun e w'=>e = .returned (.string ⟨(Lib.trimPrefix s.data.toList p.data.toList).toArray⟩) ∧ w' = w:=Any.strings_TrimPrefix Tryz.lays101 s p w
def Tryz.lays146_ren : Go.Shelf.Ren:=⟨fun|146=>195|221=>202|268=>205|138=>206|143=>163|195=>207|197=>190|218=>208|219=>171|260=>199|217=>185|225=>186|224=>187|267=>188|266=>197|314=>198|n=>n,fun|9=>9|31=>157|3=>3|4=>4|0=>0|105=>266|21=>21|5=>5|46=>265|119=>277|139=>280|138=>279|146=>273|51=>272|n=>n,fun|1=>1|3=>2|4=>3|n=>n⟩
theorem Tryz.lays146 : Go.Proofs.Lays.n146 Tryz.prog Tryz.lays146_ren:={
  mixed:=by kernel_rfl
  f138:=Tryz.func206.trans (congrArg some (by kernel_rfl))
  f143:=Tryz.func163.trans (congrArg some (by kernel_rfl))
  f146:=Tryz.func195.trans (congrArg some (by kernel_rfl))
  f195:=Tryz.func207.trans (congrArg some (by kernel_rfl))
  f197:=Tryz.func190.trans (congrArg some (by kernel_rfl))
  f217:=Tryz.func185.trans (congrArg some (by kernel_rfl))
  f218:=Tryz.func208.trans (congrArg some (by kernel_rfl))
  f219:=Tryz.func171.trans (congrArg some (by kernel_rfl))
  f221:=Tryz.func202.trans (congrArg some (by kernel_rfl))
  f224:=Tryz.func187.trans (congrArg some (by kernel_rfl))
  f225:=Tryz.func186.trans (congrArg some (by kernel_rfl))
  f260:=Tryz.func199.trans (congrArg some (by kernel_rfl))
  f266:=Tryz.func197.trans (congrArg some (by kernel_rfl))
  f267:=Tryz.func188.trans (congrArg some (by kernel_rfl))
  f268:=Tryz.func205.trans (congrArg some (by kernel_rfl))
  f314:=Tryz.func198.trans (congrArg some (by kernel_rfl))
  t0:=Tryz.underlying0
  a0:=Tryz.isAgg0
  z0:=Tryz.sizeOf0
  v0:=Tryz.zeroValue0
  t3:=Tryz.underlying3
  a3:=Tryz.isAgg3
  z3:=Tryz.sizeOf3
  v3:=Tryz.zeroValue3
  t4:=Tryz.underlying4
  a4:=Tryz.isAgg4
  z4:=Tryz.sizeOf4
  v4:=Tryz.zeroValue4
  t5:=Tryz.underlying5
  a5:=Tryz.isAgg5
  z5:=Tryz.sizeOf5
  v5:=Tryz.zeroValue5
  t9:=Tryz.underlying9
  a9:=Tryz.isAgg9
  z9:=Tryz.sizeOf9
  v9:=Tryz.zeroValue9
  t21:=Tryz.underlying21
  a21:=Tryz.isAgg21
  z21:=Tryz.sizeOf21
  v21:=Tryz.zeroValue21
  t31:=Tryz.underlying157
  a31:=Tryz.isAgg157
  z31:=Tryz.sizeOf157
  v31:=Tryz.zeroValue157
  t46:=Tryz.underlying265
  a46:=Tryz.isAgg265
  z46:=Tryz.sizeOf265
  v46:=Tryz.zeroValue265
  t51:=Tryz.underlying272
  a51:=Tryz.isAgg272
  z51:=Tryz.sizeOf272
  v51:=Tryz.zeroValue272
  t105:=Tryz.underlying266
  a105:=Tryz.isAgg266
  z105:=Tryz.sizeOf266
  v105:=Tryz.zeroValue266
  t119:=Tryz.underlying277
  a119:=Tryz.isAgg277
  z119:=Tryz.sizeOf277
  t138:=Tryz.underlying279
  a138:=Tryz.isAgg279
  z138:=Tryz.sizeOf279
  v138:=Tryz.zeroValue279
  t139:=Tryz.underlying280
  a139:=Tryz.isAgg280
  z139:=Tryz.sizeOf280
  v139:=Tryz.zeroValue280
  t146:=Tryz.underlying273
  a146:=Tryz.isAgg273
  z146:=Tryz.sizeOf273
  v146:=Tryz.zeroValue273
  g1:=by kernel_rfl
  g3:=by kernel_rfl
  g4:=by kernel_rfl }
open Go.RowKit Go.Lib in
theorem Tryz.strings_Split (s sep : ByteArray) (m : Int) (w : World) (hs : s.size < 4294967281) (hm : w.cell? ⟨1,0,none⟩ = some (.int .i64 m)) (h1 : 1 ≤ sep.size) :
    Calls Tryz.prog 195 #[.string s,.string sep] w fun e w' =>
      e = .returned (.slice (some ⟨w.heap.size,0,none⟩) (Lib.countB s sep + 1) (Lib.countB s sep + 1)) ∧ w' = w.alloc (.cells ((Lib.splitB sep 0 (Lib.countB s sep) s).map Value.string).toArray 9):=Any.strings_Split Tryz.lays146 (by kernel_rfl) s sep m w hs hm h1
def Tryz.lays112_ren : Go.Shelf.Ren:=⟨fun|112=>143|n=>n,fun|28=>32|3=>3|4=>4|0=>0|n=>n,fun|n=>n⟩
theorem Tryz.lays112 : Go.Proofs.Lays.n112 Tryz.prog Tryz.lays112_ren:={
  mixed:=by kernel_rfl
  f112:=Tryz.func143.trans (congrArg some (by kernel_rfl))
  t0:=Tryz.underlying0
  a0:=Tryz.isAgg0
  z0:=Tryz.sizeOf0
  v0:=Tryz.zeroValue0
  t3:=Tryz.underlying3
  a3:=Tryz.isAgg3
  z3:=Tryz.sizeOf3
  v3:=Tryz.zeroValue3
  t4:=Tryz.underlying4
  a4:=Tryz.isAgg4
  z4:=Tryz.sizeOf4
  v4:=Tryz.zeroValue4
  t28:=Tryz.underlying32
  a28:=Tryz.isAgg32
  z28:=Tryz.sizeOf32
  v28:=Tryz.zeroValue32 }
open Go.RowKit Go.Lib Go.Sort in
theorem Tryz.slices_Reverse_int_empty (a : Option Addr) (cap : Nat) (w : World) :
    Calls Tryz.prog 143 #[.slice a 0 cap] w fun e w'=>e = .returned (.tuple #[]) ∧ w' = w:=Any.slices_Reverse_int_empty Tryz.lays112 a cap w
open Go.RowKit Go.Lib Go.Sort in
theorem Tryz.slices_Reverse_int_cells (b off n c : Nat) (zs : List Int) (w : World) (hz : n ≤ zs.length) (hbig : n ≤ 9223372036854775807) (hc : ∀ j,j < zs.length → w.cell? ⟨b,off + j,none⟩ = some (.int .i64 (zs.getD j 0))) (hf : ∀ j,j < n → w.frozen? ⟨b,off + j,none⟩ = false) :
    Calls Tryz.prog 143 #[.slice (some ⟨b,off,none⟩) n c] w fun e w'=>e = .returned (.tuple #[]) ∧ ∃ q,w' = (w.drewN q).setCells b off ((zs.take n).reverse.map (Value.int .i64)):=Any.slices_Reverse_int_cells Tryz.lays112 b off n c zs w hz hbig hc hf
end Go.Proofs
namespace Go.Proofs.YtpfkncffaanjcaaGreatDoor
open Go.RowKit
set_option maxRecDepth 100000
namespace Dif
open Rdl
def wayU (q : Nat → Nat → Bool) (Z : Nat → Nat → Nat) : Nat → Nat → Nat → List Nat
  | 0,_,_=>[]
  | f + 1,i,j=>if i = 0 ∧ j = 0 then [] else lastS q Z i j :: wayU q Z f (if lastS q Z i j = 4 then i else i - 1) (if lastS q Z i j = 3 then j else j - 1)
theorem wayU_zero (q : Nat → Nat → Bool) (Z : Nat → Nat → Nat) : ∀ f,wayU q Z f 0 0 = []
  | 0=>rfl
  | f + 1=>by rw [wayU];simp
theorem lastS_range (q : Nat → Nat → Bool) (Z : Nat → Nat → Nat) (hZ : ∀ i,Z (i + 1) 0 = Z i 0 + 1) (i j : Nat) (h : 0 < i ∨ 0 < j) :
    (lastS q Z i j = 4 ∧ 0 < j) ∨ (lastS q Z i j = 3 ∧ 0 < i) ∨ ((lastS q Z i j = 1 ∨ lastS q Z i j = 2) ∧ 0 < i ∧ 0 < j):=by
  cases i with
  | zero =>
    left
    rw [lastS];exact ⟨rfl,by omega⟩
  | succ i =>
    cases j with
    | zero =>
      right;left
      rw [lastS,if_pos (hZ i).symm];exact ⟨rfl,by omega⟩
    | succ j =>
      rw [lastS];split
      · right;right;exact ⟨Or.inl rfl,by omega,by omega⟩
      · split
        · right;right;exact ⟨Or.inr rfl,by omega,by omega⟩
        · split
          · right;left;exact ⟨rfl,by omega⟩
          · left;exact ⟨rfl,by omega⟩
theorem tabAt_below {w w' : World} {T : Nat} {va vb cv : Value} (h : TabAt w T va vb cv) (hb : Below w.heap.size w w') : TabAt w' T va vb cv:=by
  have hlt:=tab_lt h;unfold TabAt at *;rw [hb.block _ hlt];exact h
theorem tab_below {w w' : World} {cv : Value} {n m : Nat} {Z : Nat → Nat → Nat} (hm : 0 < m) (h : Tab w cv n m Z) (hb : Below w.heap.size w w') : Tab w' cv n m Z:=by
  obtain ⟨a,cap,hv,h1,h2,hc⟩:=h;refine ⟨a,cap,hv,h1,h2,fun r hr=>?_⟩;obtain ⟨b,off,g,gc,ha,hcell,hz⟩:=hc r hr;refine ⟨b,off,g,gc,ha,cell_later hb hcell,fun c hcm=>cell_later hb (hz c hcm)⟩
theorem below_setCells {B g : Nat} {w0 : World} (hg : B ≤ g) : ∀ (vs : List Value) (o : Nat) (w : World),Below B w0 w → Below B w0 (w.setCells g o vs)
  | [],_,_,h=>h
  | v :: r,o,w,h=>by
    rw [World.setCells];exact below_setCells hg r (o + 1) _ (h.setCell hg v)
theorem own_cells {w : World} {B g cap : Nat} {xs : List Int} (h : Rdl.Own int all w B 3 (.slice (some ⟨g,0,none⟩) xs.length cap) xs) : ∀ j,j < xs.length → w.cell? ⟨g,0 + j,none⟩ = some (.int .i64 (xs.getD j 0)):=by
  intro j hj;obtain ⟨css,hl,hr,hown⟩:=h;obtain ⟨e,hb⟩:=hr j hj;rw [Nat.zero_add,hown.cellAt j (by show j < xs.length * 1;omega)];have:=xH (n:=1) css j 0 (Rdl.Own.lens hl hr) (by omega) (by omega);rw [Nat.mul_one,Nat.add_zero] at this;rw [this,e];simp [List.getD,hj]
theorem own_rev {w : World} {B g q cap : Nat} {xs : List Int} (h : Rdl.Own int all w B 3 (.slice (some ⟨g,0,none⟩) xs.length cap) xs) :
    Sl int (fun b=>B ≤ b) ((w.drewN q).setCells g 0 ((xs.take xs.length).reverse.map (Value.int .i64))) (.slice (some ⟨g,0,none⟩) xs.length cap) xs.reverse ∧ Below B w ((w.drewN q).setCells g 0 ((xs.take xs.length).reverse.map (Value.int .i64))):=by
  have hbase:=h.base g rfl;obtain ⟨css,hl,hr,hown⟩:=h;have hlens:=Rdl.Own.lens hl hr;have hcell : ∀ j (hj : j < xs.length),w.cell? ⟨g,0 + j,none⟩ = some (.int .i64 xs[j]) ∧ (-9223372036854775808 ≤ xs[j] ∧ xs[j] ≤ 9223372036854775807):=by
    intro j hj;have h1:=hr j hj;obtain ⟨e,hb⟩:=h1;refine ⟨?_,hb⟩;rw [Nat.zero_add,hown.cellAt j (by show j < xs.length * 1;omega)];have:=xH (n:=1) css j 0 hlens (by omega) (by omega);rw [Nat.mul_one,Nat.add_zero] at this;rw [this,e];rfl
  rw [List.take_length];have hlen2 : (xs.reverse.map (Value.int .i64)).length = xs.length:=by simp
  refine ⟨⟨some ⟨g,0,none⟩,cap,by simp,?_,?_,fun i hi=>?_⟩,?_⟩
  · rcases hown.2 with ⟨h0,_⟩|⟨g',cap',cur,h1,_,_,hnc,_⟩
    · cases h0
    · simp only [Value.slice.injEq,Option.some.injEq,Addr.mk.injEq,and_true,true_and] at h1;obtain ⟨_,rfl⟩:=h1
      simpa using hnc
  · rcases hown.2 with ⟨h0,_⟩|⟨g',cap',cur,h1,_,_,_,hcm,_⟩
    · cases h0
    · simp only [Value.slice.injEq,Option.some.injEq,Addr.mk.injEq,and_true,true_and] at h1;obtain ⟨_,rfl⟩:=h1;exact hcm
  · have hi' : i < xs.length:=by simpa using hi
    refine ⟨g,0,[.int .i64 xs.reverse[i]],rfl,hbase,⟨rfl,?_⟩,fun j hj=>?_⟩
    · rw [List.getElem_reverse];exact (hcell _ (by omega)).2
    · have hj0 : j = 0:=by change j < 1 at hj;omega
      subst hj0;have:=World.cell?_setCells_in g (xs.reverse.map (Value.int .i64)) 0 (w.drewN q) (fun j hj=>by
        rw [hlen2] at hj;rw [World.cell?_drewN,(hcell j hj).1];rfl) i (by simpa using hi')
      show World.cell? _ ⟨g,0 + (i * 1 + 0),none⟩ = _;rw [Nat.mul_one,Nat.add_zero,this];simp
  · exact below_setCells hbase _ _ _ (below_drewN (Below.refl _ _) q)
set_option maxHeartbeats 1000000 in
theorem way_any (T n m : Nat) (va vb cv : Value) (xs ys : List Row) (Z : Nat → Nat → Nat) (w : World) (hT : TabAt w T va vb cv) (ha : Sl fields all w va xs) (hb : Sl fields all w vb ys)
    (hM : Tab w cv n m Z) (hin : xs.length < n) (hjm : ys.length < m) (hm : m ≤ 1000) (hn : n ≤ 1000) (hZ : ∀ r c,r < n → c < m → Z r c ≤ 2000) (hZ0 : ∀ i,Z (i + 1) 0 = Z i 0 + 1) :
    Calls Tryz.prog 113 #[.pointer (some ⟨T,0,none⟩)] w fun e w'=>∃ v,e = .returned v ∧ Sl int (fun b=>w.heap.size ≤ b) w' v (((wayU (eqAt xs ys) Z (xs.length + ys.length) xs.length ys.length).map Int.ofNat).reverse) ∧ Below w.heap.size w w':=by
  have HL:=Lib.hid (fun (w' : World) (hbw : Below w.heap.size w w') (i j : Nat) (hi : i ≤ xs.length) (hj : j ≤ ys.length)=>last_any T i j n m va vb cv xs ys Z w' (tabAt_below hT hbw) (ha.below (by decide) hbw) (hb.below (by decide) hbw) (tab_below (by omega) hM hbw) hi hj (by omega) (by omega) hm hn hZ);have HR:=Lib.hid (lastS_range (eqAt xs ys) Z hZ0);obtain ⟨c0,c1,c2⟩:=hT.cell;obtain ⟨a1,cap1,rfl,hl1,hc1⟩:=rowAt ha;obtain ⟨a2,cap2,rfl,hl2,hc2⟩:=rowAt hb;clear hc1 hc2 ha hb hT hM hZ hZ0
  go_enter Tryz.func113,Tryz.ntmps113
  go_wp2
  go_quiet (fail)
  go_wp2
  go_loopw [3,4,5] (fun v si sj wr=>∃ (i j f : Nat) (out : List Nat),i ≤ xs.length ∧ j ≤ ys.length ∧ i + j ≤ f ∧ si = .int .i64 i ∧ sj = .int .i64 j ∧ Rdl.Own int all wr w.heap.size 3 v (out.map Int.ofNat) ∧ Below w.heap.size w wr ∧ out.length + (i + j) ≤ 2000 ∧ out ++ wayU (eqAt xs ys) Z f i j = wayU (eqAt xs ys) Z (xs.length + ys.length) xs.length ys.length) (fun _ si sj _=>(intOf si).toNat + (intOf sj).toNat)
  case atStart=>exact ⟨xs.length,ys.length,xs.length + ys.length,[],Nat.le_refl _,Nat.le_refl _,Nat.le_refl _,rfl,rfl,Rdl.Own.nil,below_drewN (Below.refl _ _) _,by simp;omega,rfl⟩
  case round =>
    obtain ⟨i,j,f,out,hi,hj,hf,rfl,rfl,hown,hbr,hlen,hout⟩:=hrel
    by_cases hz : i = 0 ∧ j = 0
    · obtain ⟨rfl,rfl⟩:=hz;rw [wayU_zero,List.append_nil] at hout;have hzl : (out.map Int.ofNat).length ≤ 2000:=by simp;omega
      have HOUT:=Lib.hid (congrArg (List.map Int.ofNat) hout.symm);clear hout hlen
      generalize out.map Int.ofNat = zs at *
      have hown2:=hown;obtain ⟨css,hl,hr,hrow⟩:=hown2;rcases hrow.2 with ⟨rfl,h0⟩|⟨g,cap,cur,rfl,hbg,hg,hnc,hcm,hcs,htake⟩
      · obtain rfl : zs = []:=by simpa using h0
        have hrv:=Lib.hid (Tryz.slices_Reverse_int_empty none 0 wr);clear hrow hr hown
        go_wp2_with fail
        refine hrv.out.mono ?_
        rintro e w1 ⟨rfl,rfl⟩
        go_wp2
        go_ret
        refine ⟨_,rfl,?_,hbr⟩;rw [HOUT.out];exact Sl.nil
      · have hrv:=Lib.hid (Tryz.slices_Reverse_int_cells g 0 zs.length cap zs wr (Nat.le_refl _) (by omega) (own_cells hown) (fun j _=>by rw [Nat.zero_add];exact hrow.frozenAt j));have hfin:=Lib.hid (fun q=>own_rev (q:=q) hown);clear hrow hr hown hg htake hcs
        go_wp2_with fail
        refine hrv.out.mono ?_
        rintro e w1 ⟨rfl,q,rfl⟩
        have h9:=hfin.out q
        go_wp2
        go_ret
        simp only [List.take_length,List.map_reverse] at h9;refine ⟨_,rfl,?_,hbr.trans h9.2⟩;rw [HOUT.out];exact h9.1
    · have hc:=Lib.hid (HL.out wr hbr i j hi hj);have hr:=HR.out i j (by omega);obtain ⟨f,rfl⟩ : ∃ g,f = g + 1:=⟨f - 1,by omega⟩;rw [wayU,if_neg hz] at hout
      generalize lastS (eqAt xs ys) Z i j = s at *
      have HO:=Lib.hid hout;clear hout;have hw1 : IntKind.i64.wrap ((i : Int) - 1) = (i : Int) - 1:=IntWalk.i64_in _ (by omega);have hw2 : IntKind.i64.wrap ((j : Int) - 1) = (j : Int) - 1:=IntWalk.i64_in _ (by omega);have hb : -9223372036854775808 ≤ (s : Int) ∧ (s : Int) ≤ 9223372036854775807:=by omega
      have hsp : decide (0 < i) = true ∨ (decide (0 < i) = false ∧ decide (0 < j) = true):=by
        simp;omega
      have hcases : (((s : Int) != 4) = false ∧ ((s : Int) != 3) = true ∧ s = 4 ∧ 0 < j) ∨ (((s : Int) != 4) = true ∧ ((s : Int) != 3) = false ∧ s = 3 ∧ 0 < i) ∨ (((s : Int) != 4) = true ∧ ((s : Int) != 3) = true ∧ (s = 1 ∨ s = 2) ∧ 0 < i ∧ 0 < j):=by
        rcases hr with ⟨rfl,h⟩|⟨rfl,h⟩|⟨h,h'⟩
        · exact Or.inl ⟨rfl,rfl,rfl,h⟩
        · exact Or.inr (Or.inl ⟨rfl,rfl,rfl,h⟩)
        · refine Or.inr (Or.inr ⟨?_,?_,h,h'⟩) <;> (rcases h with rfl|rfl <;> rfl)
      have HCS:=Lib.hid hcases;clear hr hcases hz;rcases hsp with hd|⟨hd,hd2⟩
      all_goals
        go_wp2_with fail
        refine hc.out.mono ?_
        rintro e w1 ⟨rfl,nd,rfl⟩
        have hown:=hown.drewN nd;have hbr:=below_drewN hbr nd
        go_wp2_with (at_builtin;refine wpList_push (P:=Tryz.prog) int _ rfl _ _ 32 rfl w.heap.size 3 (.int .i64 0) 8 Tryz.underlying32 infoInt rfl (by decide) all _ _ rfl hown _ (s : Int) ⟨rfl,hb⟩ 1 rfl (by simp [Value.oneCell']) (by simp;omega) (by simp [maxLen];omega) hbr.size ?_)
        intro v' w' hown' hgrow;have hb2:=hbr.grown hgrow hbr.size (fun b hb=>(hown.base b hb));rcases HCS.out with ⟨h4,h3,rfl,hp⟩|⟨h4,h3,rfl,hp⟩|⟨h4,h3,h12,hp,hp'⟩
        · go_wp2
          go_roundw
          case rel =>
            refine ⟨i,j - 1,f,out ++ [4],hi,by omega,by omega,rfl,by congr 1;omega,by simpa using hown',hb2,by simp;omega,?_⟩;have h9:=HO.out;rw [if_pos rfl,if_neg (by decide)] at h9;rw [List.append_assoc,List.singleton_append];exact h9
          case measure=>simp [intOf];omega
        · go_wp2
          go_roundw
          case rel =>
            refine ⟨i - 1,j,f,out ++ [3],by omega,hj,by omega,by congr 1;omega,rfl,by simpa using hown',hb2,by simp;omega,?_⟩;have h9:=HO.out;rw [if_pos rfl,if_neg (by decide)] at h9;rw [List.append_assoc,List.singleton_append];exact h9
          case measure=>simp [intOf];omega
        · go_wp2
          go_roundw
          case rel =>
            refine ⟨i - 1,j - 1,f,out ++ [s],by omega,by omega,by omega,by congr 1;omega,by congr 1;omega,by simpa using hown',hb2,by simp;omega,?_⟩;have h9:=HO.out;rw [if_neg (by omega),if_neg (by omega)] at h9;rw [List.append_assoc,List.singleton_append];exact h9
          case measure=>simp [intOf];omega
theorem cst_zero (q : Nat → Nat → Bool) : ∀ i,cst q i 0 = i
  | 0=>rfl
  | i + 1=>rfl
set_option maxHeartbeats 1000000 in
theorem Way_new (va vb : Value) (xs ys : List Row) (w : World) (ha : Sl fields all w va xs) (hb : Sl fields all w vb ys) (hx : xs.length ≤ 900) (hy : ys.length ≤ 900) :
    Calls Tryz.prog 73 #[va,vb] w fun e w'=>∃ v,e = .returned v ∧ Sl int (fun b=>w.heap.size ≤ b) w' v (((wayU (eqAt xs ys) (cst (eqAt xs ys)) (xs.length + ys.length) xs.length ys.length).map Int.ofNat).reverse) ∧ Below w.heap.size w w':=by
  have H:=Lib.hid (tabled_any va vb xs ys w ha hb hx hy);have HW:=Lib.hid (fun w1 T cv (hb1 : Below w.heap.size w w1) (hT : TabAt w1 T va vb cv) (hM : Tab w1 cv (xs.length + 1) (ys.length + 1) (cst (eqAt xs ys))) =>
    way_any T (xs.length + 1) (ys.length + 1) va vb cv xs ys (cst (eqAt xs ys)) w1 hT (ha.below (by decide) hb1) (hb.below (by decide) hb1) hM (by omega) (by omega) (by omega) (by omega)
      (fun r c hr hc=>by have:=cst_le (eqAt xs ys) r c;omega) (fun i=>by rw [cst_zero,cst_zero]))
  clear ha hb
  go_enter Tryz.func73,Tryz.ntmps73
  go_wp2_with fail
  refine H.out.mono ?_
  rintro e w1 ⟨T,cv,rfl,hT,hM,hb1⟩
  have HW1:=Lib.hid (HW.out w1 T cv hb1 hT hM);clear hT hM
  go_wp2_with fail
  refine HW1.out.mono ?_
  rintro e w2 ⟨v,rfl,hs,hb2⟩
  obtain ⟨a,n,cap,hv⟩ : ∃ a n cap,v = .slice a n cap:=by
    obtain ⟨a,cap,h,_⟩:=hs;exact ⟨a,_,cap,h⟩
  subst hv
  go_wp2
  go_ret
  exact ⟨_,rfl,hs.weak (by decide) (fun b hb _=>Nat.le_trans hb1.size hb),hb1.trans (hb2.mono hb1.size)⟩
theorem Way_any (va vb : Value) (xs ys : List Row) (w : World) (ha : Sl fields all w va xs) (hb : Sl fields all w vb ys) (hx : xs.length ≤ 900) (hy : ys.length ≤ 900) :
    Calls Tryz.prog 73 #[va,vb] w fun e w'=>∃ v,e = .returned v ∧ Sl int all w' v (((wayU (eqAt xs ys) (cst (eqAt xs ys)) (xs.length + ys.length) xs.length ys.length).map Int.ofNat).reverse) ∧ Below w.heap.size w w' :=
  (Way_new va vb xs ys w ha hb hx hy).mono fun e w' ⟨v,h1,h2,h3⟩=>⟨v,h1,h2.weak (by decide) (fun _ _ _=>trivial),h3⟩
end Dif
end Go.Proofs.YtpfkncffaanjcaaGreatDoor
namespace Go.Proofs.YtpfkncffaanjcaaGreatDoor
open Go.RowKit
set_option maxRecDepth 100000
namespace Dif
def edRow (x : Row) (prev : List Row → Nat) (n : Nat) : List Row → Nat
  | []=>n + 1
  | y :: ys=>if x = y then prev ys else 1 + min (min (prev ys) (prev (y :: ys))) (edRow x prev n ys)
def ed : List Row → List Row → Nat
  | []=>List.length
  | x :: xs=>edRow x (ed xs) xs.length
theorem ed_nil (ys : List Row) : ed [] ys = ys.length:=rfl
theorem ed_nil2 (xs : List Row) : ed xs [] = xs.length:=by cases xs <;> rfl
theorem ed_cons (x y : Row) (xs ys : List Row) : ed (x :: xs) (y :: ys) = if x = y then ed xs ys else 1 + min (min (ed xs ys) (ed xs (y :: ys))) (ed (x :: xs) ys):=rfl
theorem ed_near : ∀ (xs ys : List Row),(∀ x,ed (x :: xs) ys ≤ ed xs ys + 1 ∧ ed xs ys ≤ ed (x :: xs) ys + 1) ∧ (∀ y,ed xs (y :: ys) ≤ ed xs ys + 1 ∧ ed xs ys ≤ ed xs (y :: ys) + 1):=by
  intro xs
  induction xs with
  | nil =>
    intro ys;refine ⟨fun x=>?_,fun y=>by rw [ed_nil,ed_nil,List.length_cons];omega⟩
    induction ys with
    | nil=>rw [ed_nil2,ed_nil2];simp
    | cons y ys ih =>
      rw [ed_cons,ed_nil,ed_nil,List.length_cons];rw [ed_nil] at ih;split <;> omega
  | cons a xs ihx =>
    intro ys
    induction ys with
    | nil =>
      refine ⟨fun x=>by rw [ed_nil2,ed_nil2,List.length_cons];omega,fun y=>?_⟩;rw [ed_cons,ed_nil2,ed_nil2,List.length_cons];have:=(ihx []).2 y;rw [ed_nil2] at this;split <;> omega
    | cons b ys ihy =>
      have hB : ∀ y,ed (a :: xs) (y :: b :: ys) ≤ ed (a :: xs) (b :: ys) + 1 ∧ ed (a :: xs) (b :: ys) ≤ ed (a :: xs) (y :: b :: ys) + 1:=by
        intro y;have h1:=(ihx (b :: ys)).1 a;have h2:=(ihx (b :: ys)).2 y;rw [ed_cons a y];split <;> omega
      refine ⟨fun x=>?_,hB⟩;have h1:=ihy.2 b;have h2:=ihy.1 x;rw [ed_cons x b];split <;> omega
theorem ed_both (x y : Row) (xs ys : List Row) : ed (x :: xs) (y :: ys) ≤ ed xs ys + 1:=by
  rw [ed_cons];split <;> omega
inductive Ed : List Row → List Row → Nat → Prop
  | nil : Ed [] [] 0
  | keep (x : Row) {xs ys : List Row} {n : Nat} : Ed xs ys n → Ed (x :: xs) (x :: ys) n
  | change (x y : Row) {xs ys : List Row} {n : Nat} : Ed xs ys n → Ed (x :: xs) (y :: ys) (n + 1)
  | drop (x : Row) {xs ys : List Row} {n : Nat} : Ed xs ys n → Ed (x :: xs) ys (n + 1)
  | add (y : Row) {xs ys : List Row} {n : Nat} : Ed xs ys n → Ed xs (y :: ys) (n + 1)
theorem Ed.le {xs ys : List Row} {n : Nat} (h : Ed xs ys n) : ed xs ys ≤ n:=by
  induction h with
  | nil=>exact Nat.le_refl _
  | keep x _ ih=>rw [ed_cons,if_pos rfl];exact ih
  | @change x y xs ys _ _ ih=>have:=ed_both x y xs ys;exact Nat.le_trans this (by omega)
  | @drop x xs ys _ _ ih=>have:=((ed_near xs ys).1 x).1;exact Nat.le_trans this (by omega)
  | @add y xs ys _ _ ih=>have:=((ed_near xs ys).2 y).1;exact Nat.le_trans this (by omega)
theorem ed_adds : ∀ ys : List Row,Ed [] ys ys.length
  | []=>.nil
  | y :: ys=>.add y (ed_adds ys)
theorem ed_drops : ∀ xs : List Row,Ed xs [] xs.length
  | []=>.nil
  | x :: xs=>.drop x (ed_drops xs)
theorem ed_way : ∀ xs ys : List Row,Ed xs ys (ed xs ys):=by
  intro xs
  induction xs with
  | nil=>exact ed_adds
  | cons x xs ihx =>
    intro ys
    induction ys with
    | nil=>rw [ed_nil2];exact ed_drops _
    | cons y ys ihy =>
      rw [ed_cons]
      by_cases h : x = y
      · subst h;rw [if_pos rfl];exact .keep x (ihx ys)
      · rw [if_neg h];have h1:=ihx ys;have h2:=ihx (y :: ys);rcases Nat.le_total (ed xs ys) (ed xs (y :: ys)) with ha|ha
        · rw [Nat.min_eq_left ha];rcases Nat.le_total (ed xs ys) (ed (x :: xs) ys) with hb|hb
          · rw [Nat.min_eq_left hb,Nat.add_comm];exact .change x y h1
          · rw [Nat.min_eq_right hb,Nat.add_comm];exact .add y ihy
        · rw [Nat.min_eq_right ha];rcases Nat.le_total (ed xs (y :: ys)) (ed (x :: xs) ys) with hb|hb
          · rw [Nat.min_eq_left hb,Nat.add_comm];exact .drop x h2
          · rw [Nat.min_eq_right hb,Nat.add_comm];exact .add y ihy
theorem Ed.symm {xs ys : List Row} {n : Nat} (h : Ed xs ys n) : Ed ys xs n:=by
  induction h with
  | nil=>exact .nil
  | keep x _ ih=>exact .keep x ih
  | change x y _ ih=>exact .change y x ih
  | drop x _ ih=>exact .add x ih
  | add y _ ih=>exact .drop y ih
theorem Ed.same {xs ys : List Row} {n : Nat} (h : Ed xs ys n) : n = 0 → xs = ys:=by
  induction h with
  | nil=>intro _;rfl
  | keep x _ ih=>intro h;rw [ih h]
  | change x y _ ih=>intro h;omega
  | drop x _ ih=>intro h;omega
  | add y _ ih=>intro h;omega
theorem ed_self : ∀ xs : List Row,Ed xs xs 0
  | []=>.nil
  | x :: xs=>.keep x (ed_self xs)
theorem ed_zero (xs ys : List Row) : ed xs ys = 0 ↔ xs = ys :=
  ⟨fun h=>(ed_way xs ys).same h,fun h=>by subst h;exact Nat.le_zero.1 (ed_self xs).le⟩
theorem cst_ed (xs ys : List Row) : ∀ i j,i ≤ xs.length → j ≤ ys.length → cst (eqAt xs ys) i j = ed (xs.take i).reverse (ys.take j).reverse:=by
  intro i
  induction i with
  | zero =>
    intro j _ hj;rw [List.take_zero,List.reverse_nil,ed_nil,List.length_reverse,List.length_take];show j = _;omega
  | succ i ih =>
    intro j hi hj;have e1 : (xs.take (i + 1)).reverse = xs[i] :: (xs.take i).reverse:=by rw [List.take_succ_eq_append_getElem (by omega),List.reverse_append];rfl
    induction j with
    | zero =>
      rw [List.take_zero,List.reverse_nil,ed_nil2,List.length_reverse,List.length_take];show i + 1 = _;omega
    | succ j ihj =>
      have e2 : (ys.take (j + 1)).reverse = ys[j] :: (ys.take j).reverse:=by rw [List.take_succ_eq_append_getElem (by omega),List.reverse_append];rfl
      have h3:=ih (j + 1) (by omega) hj;have h4:=ihj (by omega);rw [e1] at h4;rw [e2] at h3;rw [e1,e2,ed_cons,← h3,← h4,← ih j (by omega) (by omega)];show (if eqAt xs ys i j = true then cst (eqAt xs ys) i j else _) = _;have he : eqAt xs ys i j = decide (xs[i] = ys[j]):=by simp [eqAt,List.getD,show i < xs.length by omega,show j < ys.length by omega]
      rw [he]
      by_cases h : xs[i] = ys[j]
      · rw [if_pos (decide_eq_true h),if_pos h]
      · rw [if_neg (by simp [h]),if_neg h];rfl
def dist (xs ys : List Row) : Nat:=cst (eqAt xs ys) xs.length ys.length
theorem dist_ed (xs ys : List Row) : dist xs ys = ed xs.reverse ys.reverse:=by
  unfold dist;rw [cst_ed xs ys _ _ (Nat.le_refl _) (Nat.le_refl _),List.take_length,List.take_length]
theorem dist_zero (xs ys : List Row) : dist xs ys = 0 ↔ xs = ys:=by rw [dist_ed,ed_zero];exact List.reverse_inj
def wayOf (xs ys : List Row) : List Int:=((wayU (eqAt xs ys) (cst (eqAt xs ys)) (xs.length + ys.length) xs.length ys.length).map Int.ofNat).reverse
def Al : List Int → List Row → List Row → Prop
  | [],xs,ys=>xs = [] ∧ ys = []
  | s :: w,xs,ys=>(s = 1 ∧ ∃ x us vs,xs = x :: us ∧ ys = x :: vs ∧ Al w us vs) ∨ (s = 2 ∧ ∃ x y us vs,xs = x :: us ∧ ys = y :: vs ∧ Al w us vs) ∨ (s = 3 ∧ ∃ x us,xs = x :: us ∧ Al w us ys) ∨ (s = 4 ∧ ∃ y vs,ys = y :: vs ∧ Al w xs vs)
theorem Al.app {v : List Int} {ps rs : List Row} (h2 : Al v ps rs) : ∀ {w : List Int} {xs ys : List Row},Al w xs ys → Al (w ++ v) (xs ++ ps) (ys ++ rs)
  | [],_,_,h=>by obtain ⟨rfl,rfl⟩:=h;exact h2
  | s :: w,xs,ys,h=>by
    rcases h with ⟨hs,x,us,vs,rfl,rfl,h⟩|⟨hs,x,y,us,vs,rfl,rfl,h⟩|⟨hs,x,us,rfl,h⟩|⟨hs,y,vs,rfl,h⟩
    · exact .inl ⟨hs,x,us ++ ps,vs ++ rs,rfl,rfl,Al.app h2 h⟩
    · exact .inr (.inl ⟨hs,x,y,us ++ ps,vs ++ rs,rfl,rfl,Al.app h2 h⟩)
    · exact .inr (.inr (.inl ⟨hs,x,us ++ ps,rfl,Al.app h2 h⟩))
    · exact .inr (.inr (.inr ⟨hs,y,vs ++ rs,rfl,Al.app h2 h⟩))
def cnt (w : List Int) : Nat:=(w.filter fun s=>decide (s ≠ 1)).length
theorem cnt_app (a b : List Int) : cnt (a ++ b) = cnt a + cnt b:=by unfold cnt;rw [List.filter_append,List.length_append]
theorem row_snoc {xs : List Row} {i : Nat} (h : i < xs.length) : xs.take (i + 1) = xs.take i ++ [xs.getD i []]:=by
  rw [List.take_add_one,List.getElem?_eq_getElem h,List.getD_eq_getElem?_getD,List.getElem?_eq_getElem h];rfl
theorem wayU_al (xs ys : List Row) : ∀ f i j,i ≤ xs.length → j ≤ ys.length → i + j ≤ f → Al (((wayU (eqAt xs ys) (cst (eqAt xs ys)) f i j).map Int.ofNat).reverse) (xs.take i) (ys.take j) ∧ cnt (((wayU (eqAt xs ys) (cst (eqAt xs ys)) f i j).map Int.ofNat).reverse) = cst (eqAt xs ys) i j:=by
  intro f
  induction f with
  | zero =>
    intro i j hi hj h;obtain rfl : i = 0:=by omega
    obtain rfl : j = 0:=by omega
    exact ⟨⟨rfl,rfl⟩,rfl⟩
  | succ f ih =>
    intro i j hi hj h
    by_cases hz : i = 0 ∧ j = 0
    · obtain ⟨rfl,rfl⟩:=hz;rw [wayU_zero];exact ⟨⟨rfl,rfl⟩,rfl⟩
    · rw [wayU,if_neg hz,List.map_cons,List.reverse_cons];cases i with
      | zero =>
        obtain ⟨j,rfl⟩ : ∃ k,j = k + 1:=⟨j - 1,by omega⟩;rw [show lastS (eqAt xs ys) (cst (eqAt xs ys)) 0 (j + 1) = 4 from rfl,if_pos rfl,if_neg (by decide),Nat.add_sub_cancel];obtain ⟨h1,h2⟩:=ih 0 j (by omega) (by omega) (by omega);refine ⟨?_,?_⟩
        · rw [row_snoc (xs:=ys) (by omega),show xs.take 0 = xs.take 0 ++ [] from (List.append_nil _).symm];exact Al.app (v:=[4]) (ps:=[]) (rs:=[ys.getD j []]) (.inr (.inr (.inr ⟨rfl,_,[],rfl,⟨rfl,rfl⟩⟩))) h1
        · rw [cnt_app,h2];rfl
      | succ i =>
        cases j with
        | zero =>
          have hl : lastS (eqAt xs ys) (cst (eqAt xs ys)) (i + 1) 0 = 3:=by rw [lastS,cst_zero,cst_zero,if_pos rfl]
          rw [hl,if_neg (by decide),if_pos rfl,Nat.add_sub_cancel];obtain ⟨h1,h2⟩:=ih i 0 (by omega) (by omega) (by omega);refine ⟨?_,?_⟩
          · rw [row_snoc (xs:=xs) (by omega),show ys.take 0 = ys.take 0 ++ [] from (List.append_nil _).symm];exact Al.app (v:=[3]) (ps:=[xs.getD i []]) (rs:=[]) (.inr (.inr (.inl ⟨rfl,_,[],rfl,⟨rfl,rfl⟩⟩))) h1
          · rw [cnt_app,h2,cst_zero,cst_zero];rfl
        | succ j =>
          have hc : cst (eqAt xs ys) (i + 1) (j + 1) = if eqAt xs ys i j then cst (eqAt xs ys) i j else 1 + min (min (cst (eqAt xs ys) i j) (cst (eqAt xs ys) i (j + 1))) (cst (eqAt xs ys) (i + 1) j):=rfl
          have hl : lastS (eqAt xs ys) (cst (eqAt xs ys)) (i + 1) (j + 1) = if eqAt xs ys i j = true ∧ cst (eqAt xs ys) i j = cst (eqAt xs ys) (i + 1) (j + 1) then 1 else if cst (eqAt xs ys) i j + 1 = cst (eqAt xs ys) (i + 1) (j + 1) then 2 else if cst (eqAt xs ys) i (j + 1) + 1 = cst (eqAt xs ys) (i + 1) (j + 1) then 3 else 4:=rfl
          by_cases h1 : eqAt xs ys i j = true ∧ cst (eqAt xs ys) i j = cst (eqAt xs ys) (i + 1) (j + 1)
          · rw [if_pos h1] at hl;rw [hl,if_neg (by decide),if_neg (by decide),Nat.add_sub_cancel,Nat.add_sub_cancel];obtain ⟨g1,g2⟩:=ih i j (by omega) (by omega) (by omega);have he : xs.getD i [] = ys.getD j []:=of_decide_eq_true h1.1;refine ⟨?_,by rw [cnt_app,g2,← h1.2];rfl⟩;rw [row_snoc (xs:=xs) (by omega),row_snoc (xs:=ys) (by omega),he];exact Al.app (v:=[1]) (ps:=[ys.getD j []]) (rs:=[ys.getD j []]) (.inl ⟨rfl,_,[],[],rfl,rfl,⟨rfl,rfl⟩⟩) g1
          · rw [if_neg h1] at hl
            by_cases h2 : cst (eqAt xs ys) i j + 1 = cst (eqAt xs ys) (i + 1) (j + 1)
            · rw [if_pos h2] at hl;rw [hl,if_neg (by decide),if_neg (by decide),Nat.add_sub_cancel,Nat.add_sub_cancel];obtain ⟨g1,g2⟩:=ih i j (by omega) (by omega) (by omega);refine ⟨?_,by rw [cnt_app,g2,← h2];rfl⟩;rw [row_snoc (xs:=xs) (by omega),row_snoc (xs:=ys) (by omega)];exact Al.app (v:=[2]) (ps:=[xs.getD i []]) (rs:=[ys.getD j []]) (.inr (.inl ⟨rfl,_,_,[],[],rfl,rfl,⟨rfl,rfl⟩⟩)) g1
            · rw [if_neg h2] at hl
              by_cases h3 : cst (eqAt xs ys) i (j + 1) + 1 = cst (eqAt xs ys) (i + 1) (j + 1)
              · rw [if_pos h3] at hl;rw [hl,if_neg (by decide),if_pos rfl,Nat.add_sub_cancel];obtain ⟨g1,g2⟩:=ih i (j + 1) (by omega) (by omega) (by omega);refine ⟨?_,by rw [cnt_app,g2,← h3];rfl⟩;rw [row_snoc (xs:=xs) (by omega),show ys.take (j + 1) = ys.take (j + 1) ++ [] from (List.append_nil _).symm];exact Al.app (v:=[3]) (ps:=[xs.getD i []]) (rs:=[]) (.inr (.inr (.inl ⟨rfl,_,[],rfl,⟨rfl,rfl⟩⟩))) g1
              · rw [if_neg h3] at hl;rw [hl,if_pos rfl,if_neg (by decide),Nat.add_sub_cancel];obtain ⟨g1,g2⟩:=ih (i + 1) j (by omega) (by omega) (by omega);have h4 : cst (eqAt xs ys) (i + 1) j + 1 = cst (eqAt xs ys) (i + 1) (j + 1):=by
                  by_cases hq : eqAt xs ys i j = true
                  · rw [if_pos hq] at hc;exact absurd ⟨hq,hc.symm⟩ h1
                  · rw [if_neg hq] at hc;omega
                refine ⟨?_,by rw [cnt_app,g2,← h4];rfl⟩;rw [row_snoc (xs:=ys) (by omega),show xs.take (i + 1) = xs.take (i + 1) ++ [] from (List.append_nil _).symm];exact Al.app (v:=[4]) (ps:=[]) (rs:=[ys.getD j []]) (.inr (.inr (.inr ⟨rfl,_,[],rfl,⟨rfl,rfl⟩⟩))) g1
theorem way_al (xs ys : List Row) : Al (wayOf xs ys) xs ys ∧ cnt (wayOf xs ys) = dist xs ys:=by
  obtain ⟨h1,h2⟩:=wayU_al xs ys (xs.length + ys.length) xs.length ys.length (Nat.le_refl _) (Nat.le_refl _) (Nat.le_refl _);rw [List.take_length,List.take_length] at h1;exact ⟨h1,h2⟩
theorem Al.step : ∀ {w : List Int} {xs ys : List Row},Al w xs ys → ∀ s ∈ w,s = 1 ∨ s = 2 ∨ s = 3 ∨ s = 4
  | s :: w,xs,ys,h,t,ht=>by
    rcases List.mem_cons.1 ht with rfl|ht
    · rcases h with ⟨h,_⟩|⟨h,_⟩|⟨h,_⟩|⟨h,_⟩
      · exact .inl h
      · exact .inr (.inl h)
      · exact .inr (.inr (.inl h))
      · exact .inr (.inr (.inr h))
    · rcases h with ⟨_,x,us,vs,_,_,h⟩|⟨_,x,y,us,vs,_,_,h⟩|⟨_,x,us,_,h⟩|⟨_,y,vs,_,h⟩ <;> exact Al.step h t ht
end Dif
end Go.Proofs.YtpfkncffaanjcaaGreatDoor
namespace Go.Proofs.YtpfkncffaanjcaaGreatDoor
open Go.RowKit
set_option maxRecDepth 100000
namespace Dif
open Rdl
def dv : Value:=.int .i64 0
def rowL (Z : Nat → Nat → Nat) (r j : Nat) : List Int:=(List.range j).map fun c=>(Z r c : Int)
theorem rowL_succ (Z : Nat → Nat → Nat) (r j : Nat) : rowL Z r (j + 1) = rowL Z r j ++ [(Z r j : Int)]:=by simp [rowL,List.range_succ]
theorem own_apart {w : World} {B B2 : Nat} {E2 : TypeId} {sz n : Nat} {v v2 : Value} {xs : List Int} {ys : List Value} (h : Rdl.Own int all w B 3 v xs) (h2 : w.ownsRow B2 E2 sz v2 n ys) (hE : (3 : TypeId) ≠ E2) :
    v.ownBlock = none ∨ v.ownBlock ≠ v2.ownBlock:=by
  obtain ⟨css,hcl,hr,hown⟩:=h;rcases hown.2 with ⟨rfl,h0⟩|⟨g,cap,cur,rfl,_,hg,_⟩
  · left;rfl
  · right
    rcases h2.2 with ⟨rfl,h0⟩|⟨g2,cap2,cur2,rfl,_,hg2,_⟩
    · simp [Value.ownBlock]
    · simp only [Value.ownBlock,ne_eq,Option.some.injEq];intro e;rw [e,hg2] at hg;simp only [Option.some.injEq,Obj.cells.injEq] at hg;exact hE hg.2.1.symm
theorem own_lt {w : World} {B : Nat} {v : Value} {xs : List Int} (h : Rdl.Own int all w B 3 v xs) : ∀ g,v.ownBlock = some g → B ≤ g ∧ g < w.heap.size:=by
  obtain ⟨css,hcl,hr,hown⟩:=h;exact hown.lt
theorem own_kept1 {w w' : World} {B : Nat} {v : Value} {xs : List Int} {row : Option Nat} (h : Rdl.Own int all w B 3 v xs) (hg : w.grownBy w' row) (h1 : v.ownBlock = none ∨ v.ownBlock ≠ row) : Rdl.Own int all w' B 3 v xs:=by
  obtain ⟨css,hl,hr,hown⟩:=h;exact ⟨css,hl,fun i hi=>hr i hi,hown.kept hg h1⟩
theorem grown_setCell (w : World) (a : Addr) (v : Value) : w.grownBy (w.setCell a v) (some a.block) :=
  ⟨rfl,rfl,rfl,by simp [World.setCell],fun b _ hb=>Below.heap_setCell _ _ _ _ (fun e=>hb (by rw [e]))⟩
structure RO (w0 wr : World) (B : Nat) (cv : Value) (rs : List Value) (k m : Nat) (Z : Nat → Nat → Nat) : Prop where
  own : wr.ownsRow B 32 1 cv rs.length rs
  len : rs.length = k
  done : ∀ r,r < k → Rdl.Own int all wr B 3 (rs.getD r dv) (rowL Z r m)
  below : Below B w0 wr
structure RT (w0 wr : World) (B : Nat) (cv : Value) (rs : List Value) (k m j : Nat) (Z : Nat → Nat → Nat) : Prop where
  own : wr.ownsRow B 32 1 cv rs.length rs
  len : rs.length = k + 1
  done : ∀ r,r < k → Rdl.Own int all wr B 3 (rs.getD r dv) (rowL Z r m)
  cur : Rdl.Own int all wr B 3 (rs.getD k dv) (rowL Z k j)
  nd : ∀ r,r < k → (rs.getD r dv).ownBlock = none ∨ (rs.getD r dv).ownBlock ≠ (rs.getD k dv).ownBlock
  below : Below B w0 wr
theorem RT.full {w0 wr : World} {B : Nat} {cv : Value} {rs : List Value} {k m : Nat} {Z : Nat → Nat → Nat} (h : RT w0 wr B cv rs k m m Z) : RO w0 wr B cv rs (k + 1) m Z :=
  ⟨h.own,h.len,fun r hr=>by
    rcases Nat.lt_or_ge r k with h1|h1
    · exact h.done r h1
    · obtain rfl : r = k:=by omega
      exact h.cur,h.below⟩
theorem RO.push {w0 wr w1 : World} {B : Nat} {cv cv' : Value} {rs : List Value} {k m : Nat} {Z : Nat → Nat → Nat} (h : RO w0 wr B cv rs k m Z)
    (hown : w1.ownsRow B 32 1 cv' (rs.length + 1) (rs ++ [.slice none 0 0])) (hB : B ≤ wr.heap.size) {o : Obj} (hg : (wr.alloc o).grownBy w1 cv.ownBlock) : RT w0 w1 B cv' (rs ++ [.slice none 0 0]) k m 0 Z:=by
  have e : ∀ r,r < k → (rs ++ [Value.slice none 0 0]).getD r dv = rs.getD r dv:=fun r hr=>by
    have:=h.len;simp [List.getD,List.getElem?_append_left (show r < rs.length by omega)]
  have ek : (rs ++ [Value.slice none 0 0]).getD k dv = .slice none 0 0:=by
    have:=h.len;simp [List.getD,← this]
  refine ⟨by simpa using hown,by simp [h.len],fun r hr=>?_,?_,fun r hr=>?_,?_⟩
  · rw [e r hr];exact own_kept1 ((h.done r hr).alloc o) hg (own_apart ((h.done r hr).alloc o) (h.own.alloc o) (by decide))
  · rw [ek];exact Rdl.Own.nil
  · rw [ek];cases he : ((rs ++ [Value.slice none 0 0]).getD r dv).ownBlock with
    | none=>left;rfl
    | some b=>right;simp [Value.ownBlock]
  · exact (h.below.alloc hB o).grown hg (by simp;omega) (fun b hb=>(h.own.lt b hb).1)
theorem RT.cell {w0 wr : World} {B : Nat} {cv : Value} {rs : List Value} {k m j : Nat} {Z : Nat → Nat → Nat} (h : RT w0 wr B cv rs k m j Z) :
    ∃ gc cap,cv = .slice (some ⟨gc,0,none⟩) (k + 1) cap ∧ B ≤ gc ∧ (∀ r,r < k + 1 → wr.cell? ⟨gc,r,none⟩ = some (rs.getD r dv)) ∧ ∀ r,wr.frozen? ⟨gc,r,none⟩ = false:=by
  have hl:=h.len;have hown:=h.own;rcases h.own.2 with ⟨_,h0⟩|⟨g,cap,cur,hv,hbg,hg,hnc,hcm,hcs,htake⟩
  · omega
  · rw [hl] at hv hown;rw [hv] at hown;refine ⟨g,cap,hv,hbg,fun r hr=>?_,fun r=>hown.frozenAt r⟩;rw [hown.cellAt r (by omega)];simp [List.getD,show r < rs.length by omega]
theorem row_set {w : World} {B gc cap n k : Nat} {E : TypeId} {rs : List Value} (h : w.ownsRow B E 1 (.slice (some ⟨gc,0,none⟩) n cap) n rs) (hk : k < n) (v : Value) :
    (w.setCell ⟨gc,k,none⟩ v).ownsRow B E 1 (.slice (some ⟨gc,0,none⟩) n cap) n (rs.set k v):=by
  refine ⟨by simpa using h.1,?_⟩;rcases h.2 with ⟨h0,_⟩|⟨g,cap',cur,hv,hbg,hg,hnc,hcm,hcs,htake⟩
  · cases h0
  · right
    simp only [Value.slice.injEq,Option.some.injEq,Addr.mk.injEq,and_true,true_and] at hv;obtain ⟨rfl,rfl⟩:=hv;refine ⟨gc,cap,cur.set! k v,rfl,hbg,?_,hnc,hcm,by simpa using hcs,?_⟩
    · simp [World.setCell,Array.getElem?_modify,hg]
    · rw [← htake];simp [List.take_set]
theorem RT.push {w0 wr w1 : World} {B : Nat} {cv v' : Value} {rs : List Value} {k m j gc cap : Nat} {Z : Nat → Nat → Nat} {x : Int} (h : RT w0 wr B cv rs k m j Z) (hcv : cv = .slice (some ⟨gc,0,none⟩) (k + 1) cap)
    (hown : Rdl.Own int all w1 B 3 v' (rowL Z k j ++ [x])) (hx : x = (Z k j : Int)) (hB : B ≤ wr.heap.size) (hg : wr.grownBy w1 (rs.getD k dv).ownBlock)
    (hv : v'.ownBlock = (rs.getD k dv).ownBlock ∨ ∃ g,v'.ownBlock = some g ∧ wr.heap.size ≤ g) : RT w0 (w1.setCell ⟨gc,k,none⟩ v') B cv (rs.set k v') k m (j + 1) Z:=by
  subst hx;have hl:=h.len;have hgc : B ≤ gc:=by
    have:=(h.own.lt gc (by rw [hcv];rfl)).1;exact this
  have e : ∀ r,r < k → (rs.set k v').getD r dv = rs.getD r dv:=fun r hr=>by
    simp [List.getD,List.getElem?_set,show k ≠ r by omega]
  have ek : (rs.set k v').getD k dv = v':=by simp [List.getD,show k < rs.length by omega]
  have hap:=own_apart h.cur h.own (by decide);have hown1 : w1.ownsRow B 32 1 cv rs.length rs:=h.own.kept hg (by
    rcases hap with h1|h1
    · rw [h1];right;rw [hcv];simp [Value.ownBlock]
    · right;exact fun e=>h1 e.symm)
  have hset : w1.grownBy (w1.setCell ⟨gc,k,none⟩ v') (some gc):=grown_setCell _ _ _;have hcb : cv.ownBlock = some gc:=by rw [hcv];rfl
  have hdone : ∀ r,r < k → Rdl.Own int all w1 B 3 (rs.getD r dv) (rowL Z r m):=fun r hr=>own_kept1 (h.done r hr) hg (h.nd r hr)
  refine ⟨?_,by simpa using hl,fun r hr=>?_,?_,fun r hr=>?_,?_⟩
  · rw [hcv,hl] at hown1;have:=row_set hown1 (show k < k + 1 by omega) v'
    simpa [hcv,hl] using this
  · rw [e r hr];have h1:=own_apart (hdone r hr) hown1 (by decide);rw [hcb] at h1;exact own_kept1 (hdone r hr) hset h1
  · rw [ek,rowL_succ];have h1:=own_apart hown hown1 (by decide);rw [hcb] at h1;exact own_kept1 hown hset h1
  · rw [e r hr,ek];rcases hv with hv|⟨g,hv,hge⟩
    · rw [hv];exact h.nd r hr
    · cases ho : (rs.getD r dv).ownBlock with
      | none=>left;rfl
      | some b =>
        right
        have:=own_lt (h.done r hr) b ho;rw [hv];simp only [ne_eq,Option.some.injEq];omega
  · exact (h.below.grown hg hB (fun b hb=>(own_lt h.cur b hb).1)).setCell hgc _
end Dif
end Go.Proofs.YtpfkncffaanjcaaGreatDoor
namespace Go.Proofs.YtpfkncffaanjcaaGreatDoor
open Go.RowKit
namespace Dif
open Rdl
end Dif
end Go.Proofs.YtpfkncffaanjcaaGreatDoor
namespace Go.Proofs.YtpfkncffaanjcaaGreatDoor
open Go.RowKit
namespace Ab
def ty3 : TyI:=⟨.int .i64,1,8,[.int .i64 0],some ⟨_,(.int .i64)⟩,true⟩
theorem tyOk3 : TyOk Tryz.prog 3 ty3:=qS (by kernel_rfl) Tryz.underlying3 rfl (by decide) rfl (fun _ _ h=>by cases h;rfl) (fun _=>by kernel_rfl)
def ty9 : TyI:=⟨.str,1,16,[.string ⟨#[]⟩],some ⟨_,.str⟩,true⟩
theorem tyOk9 : TyOk Tryz.prog 9 ty9:=qS (by kernel_rfl) Tryz.underlying9 rfl (by decide) rfl (fun _ _ h=>by cases h;rfl) (fun _=>by kernel_rfl)
def ty22 : TyI:=⟨.slice 46,1,24,[.slice none 0 0],some ⟨_,(.sl (.st (.int .i64) (.st (.int .i64) (.sl (.st .str .str)))))⟩,false⟩
theorem tyOk22 : TyOk Tryz.prog 22 ty22:=qS (by kernel_rfl) Tryz.underlying22 rfl (by decide) rfl (fun _ _ h=>by cases h;rfl) (fun h=>by cases h)
def ty28 : TyI:=⟨.struct [(0,26),(1,3)],2,32,[.slice none 0 0,.int .i64 0],some ⟨_,(.st (.sl (.st (.st (.int .i64) (.st .str (.sl (.st .str .str)))) (.int .i64))) (.int .i64))⟩,false⟩
theorem tyOk28 : TyOk Tryz.prog 28 ty28:=qS (by kernel_rfl) ⟨by kernel_rfl,by kernel_rfl,by kernel_rfl,by kernel_rfl,by kernel_rfl⟩ rfl (by decide) rfl (fun _ _ h=>by cases h;rfl) (fun h=>by cases h)
def ty44 : TyI:=⟨.slice 82,1,24,[.slice none 0 0],some ⟨_,(.sl (.st .str .str))⟩,false⟩
theorem tyOk44 : TyOk Tryz.prog 44 ty44:=qS (by kernel_rfl) Tryz.underlying44 rfl (by decide) rfl (fun _ _ h=>by cases h;rfl) (fun h=>by cases h)
def ty46 : TyI:=⟨.struct [(0,3),(1,3),(2,44)],3,40,[.int .i64 0,.int .i64 0,.slice none 0 0],some ⟨_,(.st (.int .i64) (.st (.int .i64) (.sl (.st .str .str))))⟩,false⟩
theorem tyOk46 : TyOk Tryz.prog 46 ty46:=qS (by kernel_rfl) ⟨by kernel_rfl,by kernel_rfl,by kernel_rfl,by kernel_rfl,by kernel_rfl⟩ rfl (by decide) rfl (fun _ _ h=>by cases h;rfl) (fun h=>by cases h)
def ty32 : TyI:=⟨.slice 3,1,24,[.slice none 0 0],some ⟨_,(.sl (.int .i64))⟩,false⟩
theorem tyOk32 : TyOk Tryz.prog 32 ty32:=qS (by kernel_rfl) Tryz.underlying32 rfl (by decide) rfl (fun _ _ h=>by cases h;rfl) (fun h=>by cases h)
def ty25 : TyI:=⟨.ptr 116,1,8,[.pointer none],none,false⟩
theorem tyOk25 : TyOk Tryz.prog 25 ty25:=qS (by kernel_rfl) Tryz.underlying25 rfl (by decide) rfl (fun _ _ h=>by cases h) (fun h=>by cases h)
def ty157 : TyI:=⟨.slice 9,1,24,[.slice none 0 0],some ⟨_,(.sl .str)⟩,false⟩
theorem tyOk157 : TyOk Tryz.prog 157 ty157:=qS (by kernel_rfl) Tryz.underlying157 rfl (by decide) rfl (fun _ _ h=>by cases h;rfl) (fun h=>by cases h)
def ty68 : TyI:=⟨.slice 44,1,24,[.slice none 0 0],some ⟨_,(.sl (.sl (.st .str .str)))⟩,false⟩
theorem tyOk68 : TyOk Tryz.prog 68 ty68:=qS (by kernel_rfl) Tryz.underlying68 rfl (by decide) rfl (fun _ _ h=>by cases h;rfl) (fun h=>by cases h)
def ty34 : TyI:=⟨.iface,1,16,[.nilIface],some ⟨_,.raw⟩,false⟩
theorem tyOk34 : TyOk Tryz.prog 34 ty34:=qS (by kernel_rfl) ⟨_,Tryz.underlying34⟩ rfl (by decide) rfl (fun _ _ h=>by cases h;rfl) (fun h=>by cases h)
def ty114 : TyI:=⟨.slice 111,1,24,[.slice none 0 0],some ⟨_,(.sl (.st (.st (.int .i64) (.st .str (.sl (.st .str .str)))) (.int .i64)))⟩,false⟩
theorem tyOk114 : TyOk Tryz.prog 114 ty114:=qS (by kernel_rfl) Tryz.underlying114 rfl (by decide) rfl (fun _ _ h=>by cases h;rfl) (fun h=>by cases h)
def ty5 : TyI:=⟨.int .u8,1,1,[.int .u8 0],some ⟨_,(.int .u8)⟩,true⟩
theorem tyOk5 : TyOk Tryz.prog 5 ty5:=qS (by kernel_rfl) Tryz.underlying5 rfl (by decide) rfl (fun _ _ h=>by cases h;rfl) (fun _=>by kernel_rfl)
def ty82 : TyI:=⟨.struct [(0,9),(1,9)],2,32,[.string ⟨#[]⟩,.string ⟨#[]⟩],some ⟨_,(.st .str .str)⟩,true⟩
theorem tyOk82 : TyOk Tryz.prog 82 ty82:=qS (by kernel_rfl) ⟨by kernel_rfl,by kernel_rfl,by kernel_rfl,by kernel_rfl,by kernel_rfl⟩ rfl (by decide) rfl (fun _ _ h=>by cases h;rfl) (fun _=>by kernel_rfl)
def ty109 : TyI:=⟨.struct [(0,3),(1,9),(2,44)],3,48,[.int .i64 0,.string ⟨#[]⟩,.slice none 0 0],some ⟨_,(.st (.int .i64) (.st .str (.sl (.st .str .str))))⟩,false⟩
theorem tyOk109 : TyOk Tryz.prog 109 ty109:=qS (by kernel_rfl) ⟨by kernel_rfl,by kernel_rfl,by kernel_rfl,by kernel_rfl,by kernel_rfl⟩ rfl (by decide) rfl (fun _ _ h=>by cases h;rfl) (fun h=>by cases h)
def ty98 : TyI:=⟨.slice 109,1,24,[.slice none 0 0],some ⟨_,(.sl (.st (.int .i64) (.st .str (.sl (.st .str .str)))))⟩,false⟩
theorem tyOk98 : TyOk Tryz.prog 98 ty98:=qS (by kernel_rfl) Tryz.underlying98 rfl (by decide) rfl (fun _ _ h=>by cases h;rfl) (fun h=>by cases h)
def ty26 : TyI:=⟨.slice 113,1,24,[.slice none 0 0],some ⟨_,(.sl (.st (.st (.int .i64) (.st .str (.sl (.st .str .str)))) (.int .i64)))⟩,false⟩
theorem tyOk26 : TyOk Tryz.prog 26 ty26:=qS (by kernel_rfl) Tryz.underlying26 rfl (by decide) rfl (fun _ _ h=>by cases h;rfl) (fun h=>by cases h)
def ty4 : TyI:=⟨.bool,1,1,[.bool false],some ⟨_,.bool⟩,true⟩
theorem tyOk4 : TyOk Tryz.prog 4 ty4:=qS (by kernel_rfl) Tryz.underlying4 rfl (by decide) rfl (fun _ _ h=>by cases h;rfl) (fun _=>by kernel_rfl)
def ty21 : TyI:=⟨.int .i32,1,4,[.int .i32 0],some ⟨_,(.int .i32)⟩,true⟩
theorem tyOk21 : TyOk Tryz.prog 21 ty21:=qS (by kernel_rfl) Tryz.underlying21 rfl (by decide) rfl (fun _ _ h=>by cases h;rfl) (fun _=>by kernel_rfl)
def ty134 : TyI:=⟨.slice 32,1,24,[.slice none 0 0],some ⟨_,(.sl (.sl (.int .i64)))⟩,false⟩
theorem tyOk134 : TyOk Tryz.prog 134 ty134:=qS (by kernel_rfl) Tryz.underlying134 rfl (by decide) rfl (fun _ _ h=>by cases h;rfl) (fun h=>by cases h)
def ty59 : TyI:=⟨.int .i64,1,8,[.int .i64 0],some ⟨_,(.int .i64)⟩,true⟩
theorem tyOk59 : TyOk Tryz.prog 59 ty59:=qS (by kernel_rfl) Tryz.underlying59 rfl (by decide) rfl (fun _ _ h=>by cases h;rfl) (fun _=>by kernel_rfl)
def ty116 : TyI:=⟨.struct [(0,114),(1,3),(2,3)],3,40,[.slice none 0 0,.int .i64 0,.int .i64 0],some ⟨_,(.st (.sl (.st (.st (.int .i64) (.st .str (.sl (.st .str .str)))) (.int .i64))) (.st (.int .i64) (.int .i64)))⟩,false⟩
theorem tyOk116 : TyOk Tryz.prog 116 ty116:=qS (by kernel_rfl) ⟨by kernel_rfl,by kernel_rfl,by kernel_rfl,by kernel_rfl,by kernel_rfl⟩ rfl (by decide) rfl (fun _ _ h=>by cases h;rfl) (fun h=>by cases h)
def ty49 : TyI:=⟨.slice 104,1,24,[.slice none 0 0],some ⟨_,(.sl (.st (.int .i64) (.sl (.st .str .str))))⟩,false⟩
theorem tyOk49 : TyOk Tryz.prog 49 ty49:=qS (by kernel_rfl) Tryz.underlying49 rfl (by decide) rfl (fun _ _ h=>by cases h;rfl) (fun h=>by cases h)
def ty161 : TyI:=⟨.struct [(0,159),(3,98),(4,157),(5,44),(6,3)],7,120,[.slice none 0 0,.int .i64 0,.bool false,.slice none 0 0,.slice none 0 0,.slice none 0 0,.int .i64 0],some ⟨_,(.st (.st (.sl .str) (.st (.int .i64) .bool)) (.st (.sl (.st (.int .i64) (.st .str (.sl (.st .str .str))))) (.st (.sl .str) (.st (.sl (.st .str .str)) (.int .i64)))))⟩,false⟩
theorem tyOk161 : TyOk Tryz.prog 161 ty161:=qS (by kernel_rfl) ⟨by kernel_rfl,by kernel_rfl,by kernel_rfl,by kernel_rfl,by kernel_rfl⟩ rfl (by decide) rfl (fun _ _ h=>by cases h;rfl) (fun h=>by cases h)
def ty166 : TyI:=⟨.struct [(0,3),(1,3),(2,9),(3,4)],4,40,[.int .i64 0,.int .i64 0,.string ⟨#[]⟩,.bool false],some ⟨_,(.st (.int .i64) (.st (.int .i64) (.st .str .bool)))⟩,true⟩
theorem tyOk166 : TyOk Tryz.prog 166 ty166:=qS (by kernel_rfl) ⟨by kernel_rfl,by kernel_rfl,by kernel_rfl,by kernel_rfl,by kernel_rfl⟩ rfl (by decide) rfl (fun _ _ h=>by cases h;rfl) (fun _=>by kernel_rfl)
def ty111 : TyI:=⟨.struct [(0,109),(3,3)],4,56,[.int .i64 0,.string ⟨#[]⟩,.slice none 0 0,.int .i64 0],some ⟨_,(.st (.st (.int .i64) (.st .str (.sl (.st .str .str)))) (.int .i64))⟩,false⟩
theorem tyOk111 : TyOk Tryz.prog 111 ty111:=qS (by kernel_rfl) ⟨by kernel_rfl,by kernel_rfl,by kernel_rfl,by kernel_rfl,by kernel_rfl⟩ rfl (by decide) rfl (fun _ _ h=>by cases h;rfl) (fun h=>by cases h)
def ty201 : TyI:=⟨.struct [(0,198),(1,199)],2,32,[.pointer none,.slice none 0 0],none,false⟩
theorem tyOk201 : TyOk Tryz.prog 201 ty201:=qS (by kernel_rfl) ⟨by kernel_rfl,by kernel_rfl,by kernel_rfl,by kernel_rfl,by kernel_rfl⟩ rfl (by decide) rfl (fun _ _ h=>by cases h) (fun h=>by cases h)
def ty113 : TyI:=⟨.struct [(0,109),(3,3)],4,56,[.int .i64 0,.string ⟨#[]⟩,.slice none 0 0,.int .i64 0],some ⟨_,(.st (.st (.int .i64) (.st .str (.sl (.st .str .str)))) (.int .i64))⟩,false⟩
theorem tyOk113 : TyOk Tryz.prog 113 ty113:=qS (by kernel_rfl) ⟨by kernel_rfl,by kernel_rfl,by kernel_rfl,by kernel_rfl,by kernel_rfl⟩ rfl (by decide) rfl (fun _ _ h=>by cases h;rfl) (fun h=>by cases h)
def ty132 : TyI:=⟨.struct [(0,49),(1,68),(2,3),(3,3),(4,22)],5,88,[.slice none 0 0,.slice none 0 0,.int .i64 0,.int .i64 0,.slice none 0 0],some ⟨_,(.st (.sl (.st (.int .i64) (.sl (.st .str .str)))) (.st (.sl (.sl (.st .str .str))) (.st (.int .i64) (.st (.int .i64) (.sl (.st (.int .i64) (.st (.int .i64) (.sl (.st .str .str)))))))))⟩,false⟩
theorem tyOk132 : TyOk Tryz.prog 132 ty132:=qS (by kernel_rfl) ⟨by kernel_rfl,by kernel_rfl,by kernel_rfl,by kernel_rfl,by kernel_rfl⟩ rfl (by decide) rfl (fun _ _ h=>by cases h;rfl) (fun h=>by cases h)
def ty136 : TyI:=⟨.struct [(0,68),(1,68),(2,134)],3,72,[.slice none 0 0,.slice none 0 0,.slice none 0 0],some ⟨_,(.st (.sl (.sl (.st .str .str))) (.st (.sl (.sl (.st .str .str))) (.sl (.sl (.int .i64)))))⟩,false⟩
theorem tyOk136 : TyOk Tryz.prog 136 ty136:=qS (by kernel_rfl) ⟨by kernel_rfl,by kernel_rfl,by kernel_rfl,by kernel_rfl,by kernel_rfl⟩ rfl (by decide) rfl (fun _ _ h=>by cases h;rfl) (fun h=>by cases h)
def ty174 : TyI:=⟨.slice 177,1,24,[.slice none 0 0],some ⟨_,(.sl (.st (.int .i64) (.st (.int .i64) (.st .str .bool))))⟩,false⟩
theorem tyOk174 : TyOk Tryz.prog 174 ty174:=qS (by kernel_rfl) Tryz.underlying174 rfl (by decide) rfl (fun _ _ h=>by cases h;rfl) (fun h=>by cases h)
def ty199 : TyI:=⟨.slice 5,1,24,[.slice none 0 0],some ⟨_,(.sl (.int .u8))⟩,false⟩
theorem tyOk199 : TyOk Tryz.prog 199 ty199:=qS (by kernel_rfl) Tryz.underlying199 rfl (by decide) rfl (fun _ _ h=>by cases h;rfl) (fun h=>by cases h)
def ty104 : TyI:=⟨.struct [(0,3),(1,44)],2,32,[.int .i64 0,.slice none 0 0],some ⟨_,(.st (.int .i64) (.sl (.st .str .str)))⟩,false⟩
theorem tyOk104 : TyOk Tryz.prog 104 ty104:=qS (by kernel_rfl) ⟨by kernel_rfl,by kernel_rfl,by kernel_rfl,by kernel_rfl,by kernel_rfl⟩ rfl (by decide) rfl (fun _ _ h=>by cases h;rfl) (fun h=>by cases h)
def ty272 : TyI:=⟨.int .u32,1,4,[.int .u32 0],some ⟨_,(.int .u32)⟩,true⟩
theorem tyOk272 : TyOk Tryz.prog 272 ty272:=qS (by kernel_rfl) Tryz.underlying272 rfl (by decide) rfl (fun _ _ h=>by cases h;rfl) (fun _=>by kernel_rfl)
def ty96 : TyI:=⟨.struct [(0,3),(1,34)],2,24,[.int .i64 0,.nilIface],some ⟨_,(.st (.int .i64) .raw)⟩,false⟩
theorem tyOk96 : TyOk Tryz.prog 96 ty96:=qS (by kernel_rfl) ⟨by kernel_rfl,by kernel_rfl,by kernel_rfl,by kernel_rfl,by kernel_rfl⟩ rfl (by decide) rfl (fun _ _ h=>by cases h;rfl) (fun h=>by cases h)
def ty156 : TyI:=⟨.ptr 161,1,8,[.pointer none],none,false⟩
theorem tyOk156 : TyOk Tryz.prog 156 ty156:=qS (by kernel_rfl) Tryz.underlying156 rfl (by decide) rfl (fun _ _ h=>by cases h) (fun h=>by cases h)
def ty93 : TyI:=⟨.ptr 96,1,8,[.pointer none],none,false⟩
theorem tyOk93 : TyOk Tryz.prog 93 ty93:=qS (by kernel_rfl) Tryz.underlying93 rfl (by decide) rfl (fun _ _ h=>by cases h) (fun h=>by cases h)
def ty159 : TyI:=⟨.struct [(0,157),(1,3),(2,4)],3,40,[.slice none 0 0,.int .i64 0,.bool false],some ⟨_,(.st (.sl .str) (.st (.int .i64) .bool))⟩,false⟩
theorem tyOk159 : TyOk Tryz.prog 159 ty159:=qS (by kernel_rfl) ⟨by kernel_rfl,by kernel_rfl,by kernel_rfl,by kernel_rfl,by kernel_rfl⟩ rfl (by decide) rfl (fun _ _ h=>by cases h;rfl) (fun h=>by cases h)
def ty198 : TyI:=⟨.ptr 201,1,8,[.pointer none],none,false⟩
theorem tyOk198 : TyOk Tryz.prog 198 ty198:=qS (by kernel_rfl) Tryz.underlying198 rfl (by decide) rfl (fun _ _ h=>by cases h) (fun h=>by cases h)
def ty279 : TyI:=⟨.struct [(0,5),(1,5)],2,2,[.int .u8 0,.int .u8 0],some ⟨_,(.st (.int .u8) (.int .u8))⟩,true⟩
theorem tyOk279 : TyOk Tryz.prog 279 ty279:=qS (by kernel_rfl) ⟨by kernel_rfl,by kernel_rfl,by kernel_rfl,by kernel_rfl,by kernel_rfl⟩ rfl (by decide) rfl (fun _ _ h=>by cases h;rfl) (fun _=>by kernel_rfl)
def ty20 : TyI:=⟨.iface,1,16,[.nilIface],some ⟨_,.raw⟩,false⟩
theorem tyOk20 : TyOk Tryz.prog 20 ty20:=qS (by kernel_rfl) ⟨_,Tryz.underlying20⟩ rfl (by decide) rfl (fun _ _ h=>by cases h;rfl) (fun h=>by cases h)
def ty177 : TyI:=⟨.struct [(0,3),(1,3),(2,9),(3,4)],4,40,[.int .i64 0,.int .i64 0,.string ⟨#[]⟩,.bool false],some ⟨_,(.st (.int .i64) (.st (.int .i64) (.st .str .bool)))⟩,true⟩
theorem tyOk177 : TyOk Tryz.prog 177 ty177:=qS (by kernel_rfl) ⟨by kernel_rfl,by kernel_rfl,by kernel_rfl,by kernel_rfl,by kernel_rfl⟩ rfl (by decide) rfl (fun _ _ h=>by cases h;rfl) (fun _=>by kernel_rfl)
def ty129 : TyI:=⟨.slice 68,1,24,[.slice none 0 0],some ⟨_,(.sl (.sl (.sl (.st .str .str))))⟩,false⟩
theorem tyOk129 : TyOk Tryz.prog 129 ty129:=qS (by kernel_rfl) Tryz.underlying129 rfl (by decide) rfl (fun _ _ h=>by cases h;rfl) (fun h=>by cases h)
def ty259 : TyI:=⟨.ptr 255,1,8,[.pointer none],none,false⟩
theorem tyOk259 : TyOk Tryz.prog 259 ty259:=qS (by kernel_rfl) Tryz.underlying259 rfl (by decide) rfl (fun _ _ h=>by cases h) (fun h=>by cases h)
def ty119 : TyI:=⟨.slice 22,1,24,[.slice none 0 0],some ⟨_,(.sl (.sl (.st (.int .i64) (.st (.int .i64) (.sl (.st .str .str))))))⟩,false⟩
theorem tyOk119 : TyOk Tryz.prog 119 ty119:=qS (by kernel_rfl) Tryz.underlying119 rfl (by decide) rfl (fun _ _ h=>by cases h;rfl) (fun h=>by cases h)
def ty171 : TyI:=⟨.other,1,8,[.nilFunc],none,false⟩
theorem tyOk171 : TyOk Tryz.prog 171 ty171:=qS (by kernel_rfl) ⟨_,Tryz.underlying171,trivial⟩ rfl (by decide) rfl (fun _ _ h=>by cases h) (fun h=>by cases h)
def ty137 : TyI:=⟨.ptr 136,1,8,[.pointer none],none,false⟩
theorem tyOk137 : TyOk Tryz.prog 137 ty137:=qS (by kernel_rfl) Tryz.underlying137 rfl (by decide) rfl (fun _ _ h=>by cases h) (fun h=>by cases h)
def ty227 : TyI:=⟨.int .u8,1,1,[.int .u8 0],some ⟨_,(.int .u8)⟩,true⟩
theorem tyOk227 : TyOk Tryz.prog 227 ty227:=qS (by kernel_rfl) Tryz.underlying227 rfl (by decide) rfl (fun _ _ h=>by cases h;rfl) (fun _=>by kernel_rfl)
def ty249 : TyI:=⟨.slice 34,1,24,[.slice none 0 0],some ⟨_,(.sl .raw)⟩,false⟩
theorem tyOk249 : TyOk Tryz.prog 249 ty249:=qS (by kernel_rfl) Tryz.underlying249 rfl (by decide) rfl (fun _ _ h=>by cases h;rfl) (fun h=>by cases h)
def ty130 : TyI:=⟨.ptr 132,1,8,[.pointer none],none,false⟩
theorem tyOk130 : TyOk Tryz.prog 130 ty130:=qS (by kernel_rfl) Tryz.underlying130 rfl (by decide) rfl (fun _ _ h=>by cases h) (fun h=>by cases h)
def ty102 : TyI:=⟨.other,1,8,[.nilFunc],none,false⟩
theorem tyOk102 : TyOk Tryz.prog 102 ty102:=qS (by kernel_rfl) ⟨_,Tryz.underlying102,trivial⟩ rfl (by decide) rfl (fun _ _ h=>by cases h) (fun h=>by cases h)
def ty193 : TyI:=⟨.ptr 93,1,8,[.pointer none],none,false⟩
theorem tyOk193 : TyOk Tryz.prog 193 ty193:=qS (by kernel_rfl) Tryz.underlying193 rfl (by decide) rfl (fun _ _ h=>by cases h) (fun h=>by cases h)
def ty155 : TyI:=⟨.other,1,8,[.nilFunc],none,false⟩
theorem tyOk155 : TyOk Tryz.prog 155 ty155:=qS (by kernel_rfl) ⟨_,Tryz.underlying155,trivial⟩ rfl (by decide) rfl (fun _ _ h=>by cases h) (fun h=>by cases h)
def ty233 : TyI:=⟨.ptr 5,1,8,[.pointer none],none,false⟩
theorem tyOk233 : TyOk Tryz.prog 233 ty233:=qS (by kernel_rfl) Tryz.underlying233 rfl (by decide) rfl (fun _ _ h=>by cases h) (fun h=>by cases h)
def ty244 : TyI:=⟨.iface,1,16,[.nilIface],some ⟨_,.raw⟩,false⟩
theorem tyOk244 : TyOk Tryz.prog 244 ty244:=qS (by kernel_rfl) ⟨_,Tryz.underlying244⟩ rfl (by decide) rfl (fun _ _ h=>by cases h;rfl) (fun h=>by cases h)
def ty247 : TyI:=⟨.iface,1,16,[.nilIface],some ⟨_,.raw⟩,false⟩
theorem tyOk247 : TyOk Tryz.prog 247 ty247:=qS (by kernel_rfl) ⟨_,Tryz.underlying247⟩ rfl (by decide) rfl (fun _ _ h=>by cases h;rfl) (fun h=>by cases h)
def ty248 : TyI:=⟨.iface,1,16,[.nilIface],some ⟨_,.raw⟩,false⟩
theorem tyOk248 : TyOk Tryz.prog 248 ty248:=qS (by kernel_rfl) ⟨_,Tryz.underlying248⟩ rfl (by decide) rfl (fun _ _ h=>by cases h;rfl) (fun h=>by cases h)
def ty308 : TyI:=⟨.ptr 34,1,8,[.pointer none],none,false⟩
theorem tyOk308 : TyOk Tryz.prog 308 ty308:=qS (by kernel_rfl) Tryz.underlying308 rfl (by decide) rfl (fun _ _ h=>by cases h) (fun h=>by cases h)
def ty17 : TyI:=⟨.ptr 294,1,8,[.pointer none],none,false⟩
theorem tyOk17 : TyOk Tryz.prog 17 ty17:=qS (by kernel_rfl) Tryz.underlying17 rfl (by decide) rfl (fun _ _ h=>by cases h) (fun h=>by cases h)
def te : List (TypeId × TyI):=[(3,ty3),(9,ty9),(22,ty22),(28,ty28),(44,ty44),(46,ty46),(32,ty32),(25,ty25),(157,ty157),(68,ty68),(34,ty34),(114,ty114),(5,ty5),(82,ty82),(109,ty109),(98,ty98),(26,ty26),(4,ty4),(21,ty21),(134,ty134),(59,ty59),(116,ty116),(49,ty49),(161,ty161),(166,ty166),(111,ty111),(201,ty201),(113,ty113),(132,ty132),(136,ty136),(174,ty174),(199,ty199),(104,ty104),(272,ty272),(96,ty96),(156,ty156),(93,ty93),(159,ty159),(198,ty198),(279,ty279),(20,ty20),(177,ty177),(129,ty129),(259,ty259),(119,ty119),(171,ty171),(137,ty137),(227,ty227),(249,ty249),(130,ty130),(102,ty102),(193,ty193),(155,ty155),(233,ty233),(244,ty244),(247,ty247),(248,ty248),(308,ty308),(17,ty17)]
theorem teOk : TEok Tryz.prog te:=by
  intro p hp;simp only [te,List.mem_cons,List.not_mem_nil,or_false] at hp;rcases hp with rfl|rfl|rfl|rfl|rfl|rfl|rfl|rfl|rfl|rfl|rfl|rfl|rfl|rfl|rfl|rfl|rfl|rfl|rfl|rfl|rfl|rfl|rfl|rfl|rfl|rfl|rfl|rfl|rfl|rfl|rfl|rfl|rfl|rfl|rfl|rfl|rfl|rfl|rfl|rfl|rfl|rfl|rfl|rfl|rfl|rfl|rfl|rfl|rfl|rfl|rfl|rfl|rfl|rfl|rfl|rfl|rfl|rfl|rfl
  · exact tyOk3
  · exact tyOk9
  · exact tyOk22
  · exact tyOk28
  · exact tyOk44
  · exact tyOk46
  · exact tyOk32
  · exact tyOk25
  · exact tyOk157
  · exact tyOk68
  · exact tyOk34
  · exact tyOk114
  · exact tyOk5
  · exact tyOk82
  · exact tyOk109
  · exact tyOk98
  · exact tyOk26
  · exact tyOk4
  · exact tyOk21
  · exact tyOk134
  · exact tyOk59
  · exact tyOk116
  · exact tyOk49
  · exact tyOk161
  · exact tyOk166
  · exact tyOk111
  · exact tyOk201
  · exact tyOk113
  · exact tyOk132
  · exact tyOk136
  · exact tyOk174
  · exact tyOk199
  · exact tyOk104
  · exact tyOk272
  · exact tyOk96
  · exact tyOk156
  · exact tyOk93
  · exact tyOk159
  · exact tyOk198
  · exact tyOk279
  · exact tyOk20
  · exact tyOk177
  · exact tyOk129
  · exact tyOk259
  · exact tyOk119
  · exact tyOk171
  · exact tyOk137
  · exact tyOk227
  · exact tyOk249
  · exact tyOk130
  · exact tyOk102
  · exact tyOk193
  · exact tyOk155
  · exact tyOk233
  · exact tyOk244
  · exact tyOk247
  · exact tyOk248
  · exact tyOk308
  · exact tyOk17
end Ab
end Go.Proofs.YtpfkncffaanjcaaGreatDoor
namespace Go.Proofs.YtpfkncffaanjcaaGreatDoor
open Go.RowKit
namespace Bld
set_option maxRecDepth 100000
set_option maxHeartbeats 1000000
abbrev IsB (B b : Nat) (bs : List Value) (w : World) : Prop:=Lib.IsBuilder 201 5 B b bs w
theorem sizeBuilder : (Tryz.prog.info? 201).map (·.size) = some 2:=by kernel_rfl
theorem liesBuilder : liesAt Tryz.prog Tryz.prog.depth 201 (2 / Tryz.prog.cellsOf 201) 0 201 1 = true:=by kernel_rfl
theorem copyCheck_used (b : Nat) (w : World) (h0 : w.cell? ⟨b,0,none⟩ = some (.pointer (some ⟨b,0,none⟩))) :
    Calls Tryz.prog 156 #[.pointer (some ⟨b,0,none⟩)] w fun e w'=>e = .returned (.tuple #[]) ∧ w' = w:=by
  obtain ⟨j,hj,_⟩:=Option.map_eq_some_iff.1 sizeBuilder
  go_enter Tryz.func156,Tryz.ntmps156
  go_wp2
  rw [Lib.run_neq_ptr_same w _ Tryz.underlying198 hj]
  go_wp2
  go_end0
  exact ⟨rfl,rfl⟩
theorem copyCheck_fresh (b : Nat) (w : World) (h0 : w.cell? ⟨b,0,none⟩ = some (.pointer none)) (hsh : w.shape? b = some (201,2)) (hfz : w.frozen? ⟨b,0,none⟩ = false) :
    Calls Tryz.prog 156 #[.pointer (some ⟨b,0,none⟩)] w fun e w'=>e = .returned (.tuple #[]) ∧ w' = w.setCell ⟨b,0,none⟩ (.pointer (some ⟨b,0,none⟩)):=by
  obtain ⟨j,hj,hjs⟩:=Option.map_eq_some_iff.1 sizeBuilder
  go_enter Tryz.func156,Tryz.ntmps156
  go_wp2
  rw [Lib.run_to_unsafe w ⟨b,0,none⟩ Tryz.underlying198 Tryz.underlying219 hj (by rw [hjs];decide) hsh (Nat.zero_lt_succ 1)];simp only [Result.andThen];rw [Oper.upon_value]
  go_wp2
  rw [run_callFunc_extern Tryz.func170 (by kernel_rfl) (by kernel_rfl) (by kernel_rfl) (e:=Extern.AbiNoEscape.same) (by kernel_rfl)];rw [Lib.run_noEscape];simp only [Result.andThen];rw [Oper.upon_value]
  go_wp2
  rw [Lib.run_from_unsafe w ⟨b,0,none⟩ Tryz.underlying219 Tryz.underlying198 hj hsh liesBuilder];simp only [Result.andThen];rw [Oper.upon_value]
  go_wp2
  go_end0
  exact ⟨rfl,rfl⟩
end Bld
end Go.Proofs.YtpfkncffaanjcaaGreatDoor
namespace Go.Proofs.YtpfkncffaanjcaaGreatDoor
open Go.RowKit
namespace Ab
abbrev bldO (u : Bool) (xs : List Int) : Obs:=[(0,.box 201 [.nself u 0,.vec 1]),(1,.vec 5 (.int .u8) xs)]
theorem setCell_grew {w : World} {b i : Nat} {v : Value} : Grew w (w.setCell ⟨b,i,none⟩ v) (some b) :=
  ⟨rfl,rfl,rfl,by simp [World.setCell],fun k _ hk=>by
    simp only [World.setCell,Array.getElem?_modify];rw [if_neg (fun e=>hk (by rw [e]))]⟩
theorem setCell_heap {w : World} {b i : Nat} {v : Value} {cs : Array Value} {T : TypeId} {fr : Nat × Nat} (h : w.heap[b]? = some (.cells cs T fr)) : (w.setCell ⟨b,i,none⟩ v).heap[b]? = some (.cells (cs.setIfInBounds i v) T fr):=by
  simp [World.setCell,Array.getElem?_modify,h]
theorem copyCheck_o (u : Bool) (xs : List Int) : qR Tryz.prog 156 [.one (.own 0 0)] (bldO u xs) 2 (.tup []) (bldO true xs) 2:=by
  refine ⟨⟨_,Tryz.func156,rfl,rfl⟩,fun cx ρ w vs hN hnx hw hs hvs=>?_⟩;obtain ⟨b,cs,hρ,hh,hcs⟩:=hs.obs (0,.box 201 [.nself u 0,.vec 1]) (by simp);obtain ⟨p,r,rfl,hp,v,r2,rfl,hv,hr⟩:=hcs;rw [show r2 = [] from hr] at hh;obtain ⟨q,r3,rfl,⟨b',hb1,hb2⟩,hr3⟩:=hvs;rw [hρ] at hb1;simp only [Option.some.injEq,Value.pointer.injEq,Addr.mk.injEq,and_true] at hb1;subst hb1;rw [show r3 = [] from hr3,hb2];have hh : w.heap[b]? = some (.cells #[p,v] 201 (0,0)):=hh;cases u with
  | true =>
    obtain ⟨b2,hb3,hb4⟩:=hp.1 rfl;rw [hρ] at hb3;simp only [Option.some.injEq,Value.pointer.injEq,Addr.mk.injEq,and_true] at hb3;subst hb3;refine (Bld.copyCheck_used b w (by simp [World.cell?,hh,hb4])).mono ?_
    rintro e w' ⟨rfl,rfl⟩
    exact ⟨_,ρ,rfl,hs,[],rfl,rfl⟩
  | false =>
    have hp : p = .pointer none:=hp.2 rfl;refine (Bld.copyCheck_fresh b w (by simp [World.cell?,hh,hp]) (by simp [World.shape?,hh]) (Lib.frozen_of_heap hh 0)).mono ?_
    rintro e w' ⟨rfl,rfl⟩
    refine ⟨_,ρ,rfl,?_,[],rfl,rfl⟩;have hg : getO (bldO false xs) 0 = some (.box 201 [.nself false 0,.vec 1]):=rfl;have hk : yQ (okOf cx ρ (bldO false xs)) (okOf cx ρ (bldO false xs)) w (w.setCell ⟨b,0,none⟩ (.pointer (some ⟨b,0,none⟩))) :=
      fun _ k hk hlt=>⟨hk,setCell_grew.block k hlt (fun e=>hk.2 _ (qW hg) (by rw [hρ];exact e.symm))⟩
    have:=hs.write (o':=.box 201 [.nself true 0,.vec 1]) hg (w':=w.setCell ⟨b,0,none⟩ (.pointer (some ⟨b,0,none⟩))) (by rw [hρ];exact setCell_grew) (by simp [World.setCell]) ⟨b,[.pointer (some ⟨b,0,none⟩),v],hρ,setCell_heap hh,_,_,rfl,⟨fun _=>⟨b,hρ,rfl⟩,fun e=>by (cases e)⟩,_,_,rfl,C.kept (c:=.vec 1) hk hv,rfl⟩;exact this
set_option maxRecDepth 10000
theorem writeString_o (u : Bool) (xs : List Int) (t : ByteArray) (hl : xs.length + t.size ≤ 140737488355328) : qR Tryz.prog 126 [.one (.own 0 0),is t] (bldO u xs) 2
    (.tup [(false,[.lit (.int .i64 t.size)]),(false,[.lit .nilIface])]) (bldO true (xs ++ xD t)) 2:=by
  refine qP (rs:=[4,5]) Tryz.func126 rfl rfl rfl teOk (by decide) rfl ?_;refine qC (qB ?_);refine qC (qB ?_);refine Or.inr (Or.inl (zei [] (zei [0,1] (zei _ (zei _ (zei _ (zei _ (zei _ (zai (copyCheck_o u xs) (zai rfl (zai (zai (zai rfl rfl) (zai (zai rfl rfl) True.intro)) (zai rfl ?_))))))))))));refine qC (qB ?_);refine zai hl ?_;refine qC (qB ?_);refine qL ?_;exact ⟨rfl,⟨rfl,rfl⟩,rfl⟩
theorem grew_freeze {w w' : World} {g n : Nat} (h : Grew w w' (some g)) : Grew w (w'.freeze ⟨g,0,none⟩ n) (some g):=by
  unfold World.freeze;split
  · exact h
  · exact ⟨h.os,h.tape,h.output,by simpa using h.size,fun k hk hg=>by
      simp only [Array.getElem?_modify];rw [if_neg (fun e=>hg (by rw [e]))];exact h.block k hk hg⟩
theorem grew_drew {w : World} {r : Option Nat} : Grew w w.drew r:=⟨rfl,rfl,rfl,Nat.le_refl _,fun _ _ _=>rfl⟩
theorem grew_alloc {w : World} {o : Obj} {r : Option Nat} : Grew w (w.drew.alloc o) r:=⟨rfl,rfl,rfl,by simp,fun k hk _=>Lib.alloc_old w.drew _ k hk⟩
set_option maxRecDepth 100000
set_option maxHeartbeats 2000000
theorem string_some (b g cap : Nat) (cur : Array Value) (p : Value) (l : List UInt8) (w : World) (h0 : l ≠ []) (hbk : w.heap[b]? = some (.cells #[p,.slice (some ⟨g,0,none⟩) l.length cap] 201 (0,0)))
    (hg : w.heap[g]? = some (.cells cur 5 (0,0))) (hnc : l.length ≤ cap) (hcm : cap ≤ maxLen) (hcs : cur.size = cap * 1) (hown : w.ownsRow 0 5 1 (.slice (some ⟨g,0,none⟩) l.length cap) l.length (Lib.byteCells l)) :
    Calls Tryz.prog 127 #[.pointer (some ⟨b,0,none⟩)] w fun e w'=>e = .returned (.string ⟨l.toArray⟩) ∧ Grew w w' (some g):=by
  have hl0 : l.length ≠ 0:=by simpa using h0
  have c1 : w.drew.cell? ⟨b,1,none⟩ = some (.slice (some ⟨g,0,none⟩) l.length cap):=by
    have : w.drew.heap[b]? = some (.cells #[p,.slice (some ⟨g,0,none⟩) l.length cap] 201 (0,0)):=hbk;rw [Lib.cell_of_heap this];rfl
  have hSD : (Builtin.unsafeSliceData_ #[199] 233 #[.slice (some ⟨g,0,none⟩) l.length cap]).run Tryz.prog w.drew = .ok (.pointer (some ⟨g,0,none⟩)) w.drew :=
    Lib.run_unsafeSliceData_row _ _ _ _ _ _ (by omega)
  have hUS : (Builtin.unsafeString_ #[233,3] 9 #[.pointer (some ⟨g,0,none⟩),.int .i64 l.length]).run Tryz.prog w.drew = .ok (.string ⟨l.toArray⟩) (w.drew.freeze ⟨g,0,none⟩ l.length):=by
    refine Lib.run_unsafeString_row w.drew 233 3 9 5 Tryz.underlying233 (by kernel_rfl) g cur.size (by have hg' : w.drew.heap[g]? = some (.cells cur 5 (0,0)):=hg;simp [World.shape?,hg']) l h0 (by omega) (by unfold maxLen at hcm;omega) ?_;intro j x hx;have:=hown.cells (g:=g) rfl j (.int .u8 x.toNat) (by simp [Lib.byteCells,hx]);exact this
  have mixed : Tryz.prog.follows .mixedOrders = true:=by kernel_rfl
  go_enter Tryz.func127,Tryz.ntmps127
  go_wp2
  go_region_o
  all_goals (go_wp2;go_ret;exact ⟨rfl,grew_freeze grew_drew⟩)
theorem string_nil (b : Nat) (p : Value) (w : World) (hbk : w.heap[b]? = some (.cells #[p,.slice none 0 0] 201 (0,0))) :
    Calls Tryz.prog 127 #[.pointer (some ⟨b,0,none⟩)] w fun e w'=>e = .returned (.string ⟨#[]⟩) ∧ Grew w w' none:=by
  have hUS : ∀ (W : World) (q : Option Addr),(Builtin.unsafeString_ #[233,3] 9 #[.pointer q,.int .i64 0]).run Tryz.prog W = .ok (.string .empty) W:=fun W q=>Lib.run_unsafeString_none W _ _ _ q
  have c1 : w.drew.cell? ⟨b,1,none⟩ = some (.slice none 0 0):=by
    have : w.drew.heap[b]? = some (.cells #[p,.slice none 0 0] 201 (0,0)):=hbk;rw [Lib.cell_of_heap this];rfl
  have hSD : (Builtin.unsafeSliceData_ #[199] 233 #[.slice none 0 0]).run Tryz.prog w.drew = .ok (.pointer none) w.drew:=rfl;have mixed : Tryz.prog.follows .mixedOrders = true:=by kernel_rfl
  go_enter Tryz.func127,Tryz.ntmps127
  go_wp2
  go_region_o
  all_goals (go_wp2;go_ret;exact ⟨rfl,grew_drew⟩)
theorem string_noroom (b g : Nat) (p : Value) (cur : Array Value) (w : World) (hbk : w.heap[b]? = some (.cells #[p,.slice (some ⟨g,0,none⟩) 0 0] 201 (0,0))) (hg : w.heap[g]? = some (.cells cur 5 (0,0))) :
    Calls Tryz.prog 127 #[.pointer (some ⟨b,0,none⟩)] w fun e w'=>e = .returned (.string ⟨#[]⟩) ∧ Grew w w' (some g):=by
  have hUS : ∀ (W : World) (q : Option Addr),(Builtin.unsafeString_ #[233,3] 9 #[.pointer q,.int .i64 0]).run Tryz.prog W = .ok (.string .empty) W:=fun W q=>Lib.run_unsafeString_none W _ _ _ q
  have hlt : b < w.heap.size:=(Array.getElem?_eq_some_iff.1 hbk).1;have c1 : w.drew.cell? ⟨b,1,none⟩ = some (.slice (some ⟨g,0,none⟩) 0 0):=by
    have : w.drew.heap[b]? = some (.cells #[p,.slice (some ⟨g,0,none⟩) 0 0] 201 (0,0)):=hbk;rw [Lib.cell_of_heap this];rfl
  have hSD : (Builtin.unsafeSliceData_ #[199] 233 #[.slice (some ⟨g,0,none⟩) 0 0]).run Tryz.prog w.drew = .ok (.pointer (some ⟨w.drew.heap.size,0,none⟩)) (w.drew.alloc (.view ⟨g,0,none⟩ 5)) :=
    Lib.run_unsafeSliceData_zero w.drew _ _ 5 Tryz.underlying233 ⟨g,0,none⟩ 0 (5,cur.size) (by have hg' : w.drew.heap[g]? = some (.cells cur 5 (0,0)):=hg;simp [World.shape?,hg'])
  have c2 : (w.drew.alloc (.view ⟨g,0,none⟩ 5)).cell? ⟨b,1,none⟩ = some (.slice (some ⟨g,0,none⟩) 0 0):=by
    have : (w.drew.alloc (.view ⟨g,0,none⟩ 5)).heap[b]? = _:=(Lib.alloc_old w.drew _ b hlt).trans hbk;rw [Lib.cell_of_heap this];rfl
  have c3 : (w.alloc (.view ⟨g,0,none⟩ 5)).drew.cell? ⟨b,1,none⟩ = some (.slice (some ⟨g,0,none⟩) 0 0):=c2;have c0 : w.cell? ⟨b,1,none⟩ = some (.slice (some ⟨g,0,none⟩) 0 0):=c1;have mixed : Tryz.prog.follows .mixedOrders = true:=by kernel_rfl
  go_enter Tryz.func127,Tryz.ntmps127
  go_wp2
  go_region_o
  all_goals (go_wp2;go_ret;exact ⟨rfl,grew_alloc⟩)
theorem string_room (b g cap : Nat) (p : Value) (w : World) (hc0 : cap ≠ 0) (hbk : w.heap[b]? = some (.cells #[p,.slice (some ⟨g,0,none⟩) 0 cap] 201 (0,0))) :
    Calls Tryz.prog 127 #[.pointer (some ⟨b,0,none⟩)] w fun e w'=>e = .returned (.string ⟨#[]⟩) ∧ Grew w w' (some g):=by
  have hUS : ∀ (W : World) (q : Option Addr),(Builtin.unsafeString_ #[233,3] 9 #[.pointer q,.int .i64 0]).run Tryz.prog W = .ok (.string .empty) W:=fun W q=>Lib.run_unsafeString_none W _ _ _ q
  have c1 : w.drew.cell? ⟨b,1,none⟩ = some (.slice (some ⟨g,0,none⟩) 0 cap):=by
    have : w.drew.heap[b]? = some (.cells #[p,.slice (some ⟨g,0,none⟩) 0 cap] 201 (0,0)):=hbk;rw [Lib.cell_of_heap this];rfl
  have hSD : (Builtin.unsafeSliceData_ #[199] 233 #[.slice (some ⟨g,0,none⟩) 0 cap]).run Tryz.prog w.drew = .ok (.pointer (some ⟨g,0,none⟩)) w.drew :=
    Lib.run_unsafeSliceData_row _ _ _ _ _ _ hc0
  clear hc0;have mixed : Tryz.prog.follows .mixedOrders = true:=by kernel_rfl
  go_enter Tryz.func127,Tryz.ntmps127
  go_wp2
  go_region_o
  all_goals (go_wp2;go_ret;exact ⟨rfl,grew_drew⟩)
theorem string_calls (b : Nat) (p v : Value) (s : ByteArray) (w : World) (hbk : w.heap[b]? = some (.cells #[p,v] 201 (0,0))) (hown : w.ownsRow 0 5 1 v s.size (Lib.strCells s)) :
    Calls Tryz.prog 127 #[.pointer (some ⟨b,0,none⟩)] w fun e w'=>e = .returned (.string s) ∧ Grew w w' (blk (some v)):=by
  have hs : s = ⟨s.data.toList.toArray⟩:=by cases s;simp
  have hsz : s.size = s.data.toList.length:=by cases s;rfl
  rcases hown.2 with ⟨rfl,hz⟩|⟨g,cap,cur,rfl,_,hg,hnc,hcm,hcs,htake⟩
  · have hl : s.data.toList = []:=List.eq_nil_of_length_eq_zero (by rw [← hsz];exact hz);rw [hl] at hs;refine (string_nil b p w hbk).mono ?_
    rintro e w' ⟨rfl,h⟩
    exact ⟨by rw [hs],h⟩
  · by_cases h0 : s.size = 0
    · have hl : s.data.toList = []:=List.eq_nil_of_length_eq_zero (by rw [← hsz];exact h0);rw [hl] at hs;rw [h0] at hbk
      by_cases hc : cap = 0
      · subst hc;refine (string_noroom b g p cur w hbk hg).mono ?_
        rintro e w' ⟨rfl,h⟩
        exact ⟨by rw [hs],h⟩
      · refine (string_room b g cap p w hc hbk).mono ?_
        rintro e w' ⟨rfl,h⟩
        exact ⟨by rw [hs],h⟩
    · rw [hsz] at hbk hnc hown;refine (string_some b g cap cur p s.data.toList w (fun e=>h0 (by rw [hsz,e];rfl)) hbk hg hnc hcm hcs hown).mono ?_
      rintro e w' ⟨rfl,h⟩
      exact ⟨by rw [← hs],h⟩
theorem string_o (u : Bool) (s : ByteArray) : qR Tryz.prog 127 [.one (.own 0 0)] (bldO u (xD s)) 2 (is s) [] 2:=by
  refine ⟨⟨_,Tryz.func127,rfl,rfl⟩,fun cx ρ w vs hN hnx hw hs hvs=>?_⟩;obtain ⟨b,cs,hρ,hh,hcs⟩:=hs.obs (0,.box 201 [.nself u 0,.vec 1]) (by simp);obtain ⟨p,r,rfl,hp,v,r2,rfl,hv,hr⟩:=hcs;rw [show r2 = [] from hr] at hh;obtain ⟨q,r3,rfl,⟨b',hb1,hb2⟩,hr3⟩:=hvs;rw [hρ] at hb1;simp only [Option.some.injEq,Value.pointer.injEq,Addr.mk.injEq,and_true] at hb1;subst hb1;rw [show r3 = [] from hr3,hb2];have hh : w.heap[b]? = some (.cells #[p,v] 201 (0,0)):=hh;obtain ⟨v',hv',css,h1,h2,h3⟩:=hs.obs (1,.vec 5 (.int .u8) (xD s)) (by simp);have hv1 : ρ 1 = some v:=hv.1;rw [show ρ 1 = some v' from hv'] at hv1;obtain rfl:=Option.some.inj hv1;have hc : css = (xD s).map fun n=>[Value.int .u8 n]:=by
    apply List.ext_getElem
    · simp [h1]
    · intro i hi hi';have hlt : i < (xD s).length:=by rw [← h1];exact hi
      have h4 : css.getD i [] = [.int .u8 (xD s)[i]]:=h2 i hlt;simp only [List.getD,List.getElem?_eq_getElem hi,Option.getD_some] at h4;rw [h4,List.getElem_map]
  have hown : w.ownsRow 0 5 1 v' s.size (Lib.strCells s):=by
    rw [← flat_ints,← hc,← intsOf_length];exact h3
  refine (string_calls b p v' s w hh hown).mono ?_
  rintro e w' ⟨rfl,hg⟩
  refine ⟨_,ρ,rfl,⟨hs.size,DefOk.none hN.2.2,fun _=>trivial,fun p hp=>by (cases hp),List.nodup_nil,fun p hp=>by (cases hp),hs.names,hs.nx0,fun p hp=>by (cases hp),fun p hp=>by (cases hp),?_,hs.disj,hs.pin,hs.glob,hs.bags⟩,rfl⟩;refine ⟨by rw [hw];exact hg.os,by rw [hw];exact hg.tape,by rw [hw];exact hg.output,by rw [hw];exact hg.size,fun k hk hno=>?_,fun k hbg=>by rw [hw];exact .rfl' (hg.block k (by have:=(hs.bags k hbg).1;rw [hw] at this;exact this) fun e=>hs.bag_own hbg (p:=(1,.vec 5 (.int .u8) (xD s))) (by simp) (by rw [show ρ 1 = some v' from hv'];exact e.symm))⟩;rw [hw] at hk ⊢;refine fun _=>hg.block k hk fun e=>?_
  rcases (hs.low (1,.vec 5 (.int .u8) (xD s)) (by simp) k (by rw [show ρ 1 = some v' from hv'];exact e.symm)).2 with h4|h4
  · rw [hw] at h4;omega
  · exact hno h4
theorem acall2 {P : Program} {f : FuncId} {a b u : Value} {r : A} (hfn : FnOk P f) (hr : ∀ ok w,r.rep ok yM w u) (h : ∀ w,MaxCell w → Calls P f #[a,b] w fun e w'=>e = .returned u ∧ Below w.heap.size w w') : qU P f [.one (.lit a),.one (.lit b)] r:=by
  refine ⟨hfn,fun ok w vs hg hvs=>?_⟩;obtain ⟨v,t,rfl,hv,v2,t2,rfl,hv2,ht⟩:=hvs;rw [show t2 = [] from ht,show v = a from hv,show v2 = b from hv2];refine (h w hg.2.2.max).mono ?_
  rintro e w' ⟨rfl,hb⟩
  exact ⟨_,rfl,hb,hr _ _⟩
theorem same_below {e : Ending} {u : Value} {w w' : World} (h : e = .returned u ∧ w' = w) : e = .returned u ∧ Below w.heap.size w w':=⟨h.1,by rw [h.2];exact Below.refl _ _⟩
theorem hasPrefix_c (s p : ByteArray) : qU Tryz.prog 145 [is s,is p] (ib (Lib.hasPrefix s.data.toList p.data.toList)) :=
  acall2 ⟨_,Tryz.func145,rfl,rfl⟩ (fun _ _=>rfl) fun w _=>(Tryz.strings_HasPrefix s p w).mono fun _ _ h=>same_below h
theorem contains_c (s p : ByteArray) (hs : s.size < 4294967281) : qU Tryz.prog 146 [is s,is p] (ib (Lib.contains s.data.toList p.data.toList)) :=
  acall2 ⟨_,Tryz.func146,rfl,rfl⟩ (fun _ _=>rfl) fun w ⟨m,hm⟩=>(Tryz.strings_Contains s p m w hs hm).mono fun _ _ h=>same_below h
theorem trimPrefix_c (s p : ByteArray) : qU Tryz.prog 180 [is s,is p] (is ⟨(Lib.trimPrefix s.data.toList p.data.toList).toArray⟩) :=
  acall2 ⟨_,Tryz.func180,rfl,rfl⟩ (fun _ _=>rfl) fun w _=>(Tryz.strings_TrimPrefix s p w).mono fun _ _ h=>same_below h
theorem cut_c (s p : ByteArray) (hs : s.size < 4294967281) : qU Tryz.prog 130 [is s,is p] (.tup [(false,[.lit (.string ⟨(Lib.cut s.data.toList p.data.toList).1.toArray⟩)]),(false,[.lit (.string ⟨(Lib.cut s.data.toList p.data.toList).2.1.toArray⟩)]),(false,[.lit (.bool (Lib.cut s.data.toList p.data.toList).2.2)])]) :=
  acall2 ⟨_,Tryz.func130,rfl,rfl⟩ (fun _ _=>⟨_,rfl,_,_,rfl,⟨_,_,rfl,rfl,rfl⟩,_,_,rfl,⟨_,_,rfl,rfl,rfl⟩,_,_,rfl,⟨_,_,rfl,rfl,rfl⟩,rfl⟩) fun w ⟨m,hm⟩=>(Tryz.strings_Cut s p m w hs hm).mono fun _ _ h=>⟨h.1,by obtain ⟨n,hn⟩:=h.2;rw [hn];exact ⟨rfl,rfl,rfl,Nat.le_refl _,fun _ _=>rfl⟩⟩
theorem split_c (s p : ByteArray) (hs : s.size < 4294967281) (h1 : 1 ≤ p.size) (hc : Lib.countB s p + 1 ≤ maxLen) : qU Tryz.prog 195 [is s,is p] (.one (.sl .str (Lib.splitB p 0 (Lib.countB s p) s))):=by
  refine ⟨⟨_,Tryz.func195,rfl,rfl⟩,fun ok w vs hg hvs=>?_⟩;obtain ⟨v,t,rfl,hv,v2,t2,rfl,hv2,ht⟩:=hvs;rw [show t2 = [] from ht,show v = .string s from hv,show v2 = .string p from hv2];obtain ⟨m,hm⟩:=hg.2.2.max;refine (Tryz.strings_Split s p m w hs hm h1).mono ?_
  rintro e w' ⟨rfl,rfl⟩
  refine ⟨_,rfl,below_alloc w _,?_⟩;have hl:=Lib.splitB_all p h1 0 (Lib.countB s p) s rfl;rw [← hl] at hc ⊢;refine ⟨_,_,rfl,Nat.le_refl _,hc,fun i hi=>⟨w.heap.size,0,[.string (Lib.splitB p 0 (Lib.countB s p) s)[i]],rfl,okU0 (.inr ⟨Nat.le_refl _,by decide⟩),by simp,⟨rfl,fun j hj=>?_⟩,rfl⟩⟩;obtain rfl : j = 0:=by simp only [Rd.n] at hj;omega
  have hh : (w.alloc (Obj.cells (List.map Value.string (Lib.splitB p 0 (Lib.countB s p) s)).toArray 9)).heap[w.heap.size]? = _:=heap_new w _;simp only [World.cell?,hh];simp [Rd.n,hi]
theorem join_c (xs : List ByteArray) (sep : ByteArray) (hN : xs.length ≤ 140737488355328) (hlen : (Lib.join (xs.map (·.data.toList)) sep.data.toList).length ≤ 140737488355328) : qU Tryz.prog 136 [.one (.sl .str xs),is sep] (is ⟨(Lib.join (xs.map (·.data.toList)) sep.data.toList).toArray⟩):=by
  refine ⟨⟨_,Tryz.func136,rfl,rfl⟩,fun ok w vs hg hvs=>?_⟩;obtain ⟨v,t,rfl,⟨a,cap,rfl,h1,h2,hc⟩,v2,t2,rfl,hv2,ht⟩:=hvs;rw [show t2 = [] from ht,show v2 = .string sep from hv2]
  by_cases h0 : xs = []
  · subst h0;refine (Tryz.strings_Join_none a cap sep w).mono ?_
    rintro e w' ⟨rfl,rfl⟩
    exact ⟨_,rfl,Below.refl _ _,rfl⟩
  · have hpos : 0 < xs.length:=List.length_pos_iff.2 h0;obtain ⟨b,off,_,rfl,_,hb,_⟩:=hc 0 hpos;refine (Tryz.strings_Join b off cap xs sep w (fun j x hj=>?_) hb hN h1 hlen).mono ?_
    · obtain ⟨hjl,rfl⟩:=List.getElem?_eq_some_iff.1 hj;obtain ⟨b',off',cs,e,_,_,hcell,hr⟩:=hc j hjl;cases e;have hr : cs = [.string xs[j]]:=hr;have:=hcell.2 0 (by decide);rw [hr] at this
      simpa [Rd.n] using this
    · rintro e w' ⟨rfl,hb⟩
      exact ⟨_,rfl,hb,rfl⟩
theorem trimS_c (s p : ByteArray) (hp : p.data.toList.all (fun b=>decide (b.toNat < 128)) = true) (hps : p.size < 4294967281) (hs : s.size ≤ 9223372036854775807) : qU Tryz.prog 158 [is s,is p] (is ⟨(Lib.trimS s.data.toList p.data.toList).toArray⟩) :=
  acall2 ⟨_,Tryz.func158,rfl,rfl⟩ (fun _ _=>rfl) fun w _=>(Any.strings_Trim_laid Tryz.lays160 (by kernel_rfl) s p w hs hps (ascii_of_all hp)).mono fun _ _ h=>h
end Ab
end Go.Proofs.YtpfkncffaanjcaaGreatDoor
namespace Go.Proofs.YtpfkncffaanjcaaGreatDoor
open Go.RowKit
namespace Ab
set_option maxRecDepth 100000
abbrev Fld:=ByteArray × ByteArray
abbrev rFld : Rd Fld:=.st .str .str
theorem qQ {n b : Nat} (h : n ≤ 1000000000) (hb : b ≤ 1000) : n * b ≤ 140737488355328:=Nat.le_trans (Nat.mul_le_mul h hb) (by decide)
theorem map_next {α β : Type} (g : α → β) (d : α) {l : List α} {i : Nat} (h : i < l.length) (b : β) (hb : b = g (l.getD i d)) (c : List β) : c ++ (l.take i).map g ++ [b] = c ++ (l.take (i + 1)).map g:=by
  rw [hb,List.append_assoc,← xA d h,List.map_append];rfl
namespace Q
def yA (l : List Fld) : Prop:=l.length ≤ 1000 ∧ ∀ f ∈ l,f.1.size ≤ 1000000 ∧ f.2.size ≤ 1000000
def sumF (l : List Fld) : Nat:=(l.map fun f=>min f.1.size 10000 + min f.2.size 10000).sum
def muchB (l : List Fld) : Bool:=decide (61 < l.length) || decide (6000 < sumF l)
theorem drop_cons {l : List UInt8} {i : Nat} (h : i < l.length) : l.drop i = l.getD i 0 :: l.drop (i + 1):=by
  rw [List.drop_eq_getElem_cons h,List.getD_eq_getElem?_getD,List.getElem?_eq_getElem h];rfl
theorem yF (s : ByteArray) : s.size = s.data.toList.length:=by cases s;rfl
abbrev ls (s : ByteArray) : List UInt8:=s.data.toList
def bytes (l : List UInt8) : ByteArray:=⟨l.toArray⟩
theorem qY (l : List UInt8) : (bytes l).data.toList = l:=by simp [bytes]
theorem bytes_ls (s : ByteArray) : bytes (ls s) = s:=by cases s;rfl
def Clean (sep p : List UInt8) : Prop:=(∀ r j,j < p.length → Lib.occAt (p ++ sep ++ r) sep j = false) ∧ ∀ j,j ≤ p.length → Lib.occAt p sep j = false
theorem join_two (p q : List UInt8) (ps : List (List UInt8)) (sep : List UInt8) : Lib.join (p :: q :: ps) sep = p ++ sep ++ Lib.join (q :: ps) sep:=by
  rw [Lib.join_cons,Lib.join_cons];simp [Lib.joinTail]
theorem ints_app (l m : List UInt8) : xD (bytes l) ++ xD (bytes m) = xD (bytes (l ++ m)):=by
  unfold xD;rw [qY,qY,qY,List.map_append]
theorem ints_len (l : List UInt8) : (xD (bytes l)).length = l.length:=by unfold xD;rw [qY,List.length_map]
theorem extract_one {s : ByteArray} {i : Nat} (h : i < s.data.toList.length) : s.extract i (i + 1) = bytes [s.data.toList.getD i 0]:=by
  apply ByteArray.ext;apply Array.ext';rw [qY,Lib.extract_data,Nat.add_sub_cancel_left,drop_cons h];rfl
theorem bytes_app (l m : List UInt8) : bytes (l ++ m) = bytes l ++ bytes m:=by
  apply ByteArray.ext;simp [bytes]
theorem ints_add (l m : List UInt8) (t : ByteArray) (h : t = bytes m) : xD (bytes l) ++ xD t = xD (bytes (l ++ m)):=by rw [h,ints_app]
theorem yV (l : List UInt8) : (bytes l).size = l.length:=by rw [yF,qY]
theorem extract_ls (s : ByteArray) (a b : Nat) : (s.extract a b).data.toList = (s.data.toList.drop a).take (b - a):=Lib.extract_data s a b
theorem split_v (s p : ByteArray) (ws : List ByteArray) (hw : Lib.splitB p 0 (Lib.countB s p) s = ws) (hs : s.size ≤ 1000000) (h1 : 1 ≤ p.size) : qU Tryz.prog 195 [is s,is p] (.one (.sl .str ws)):=by
  subst hw;exact split_c s p (by omega) h1 (by have:=Lib.countB_le p h1 _ s (Nat.le_refl _);unfold maxLen;omega)
theorem split_size (p : ByteArray) : ∀ (k : Nat) (s : ByteArray),∀ x ∈ Lib.splitB p 0 k s,x.size ≤ s.size
  | 0,s,x,hx=>by rw [List.mem_singleton.1 hx];exact Nat.le_refl _
  | k + 1,s,x,hx=>by
    unfold Lib.splitB at hx;split at hx
    · rw [List.mem_singleton.1 hx];exact Nat.le_refl _
    · rcases List.mem_cons.1 hx with rfl|hx
      · rw [ByteArray.size_extract];omega
      · have:=split_size p k _ x hx;rw [ByteArray.size_extract] at this;omega
theorem split_len (p s : ByteArray) (h1 : 1 ≤ p.size) : (Lib.splitB p 0 (Lib.countB s p) s).length ≤ s.size + 1:=by
  rw [Lib.splitB_all p h1 0 _ s rfl];have:=Lib.countB_le p h1 _ s (Nat.le_refl _);omega
theorem split_ls (p s : ByteArray) : (Lib.splitB p 0 (Lib.countB s p) s).map ls = Lib.split (ls s) (ls p):=Lib.splitB_data p 0 _ s
theorem map_take_succ {α β : Type} (g : α → β) (l : List α) (d : α) (i : Nat) (h : i < l.length) : (l.take (i + 1)).map g = (l.take i).map g ++ [g (l.getD i d)]:=by
  rw [← xA d h,List.map_append];rfl
theorem occ_one (l : List UInt8) (c : UInt8) (i : Nat) : Lib.occAt l [c] i = true ↔ l[i]? = some c:=by
  refine ⟨fun h=>Lib.occAt_head rfl h,fun h=>?_⟩;unfold Lib.occAt;obtain ⟨hi,e⟩:=List.getElem?_eq_some_iff.1 h;rw [List.drop_eq_getElem_cons hi,e];simp [List.isPrefixOf]
theorem contains_one (l : List UInt8) (c : UInt8) : Lib.contains l [c] = decide (c ∈ l):=by
  unfold Lib.contains;refine decide_eq_decide.2 ⟨fun h=>?_,fun h=>?_⟩
  · rcases Lib.index_spec l [c] with ⟨e,_⟩|⟨i,_,_,h3,_⟩
    · omega
    · exact List.mem_of_getElem? ((occ_one l c i).1 h3)
  · obtain ⟨i,hi,e⟩:=List.getElem_of_mem h;rcases Lib.index_spec l [c] with ⟨_,h2⟩|⟨i,h1,_⟩
    · have:=h2 i (Nat.le_of_lt hi);rw [(occ_one l c i).2 (by rw [List.getElem?_eq_getElem hi,e])] at this;cases this
    · omega
def blankC (c : UInt8) : Bool:=decide (c = 32) || decide (c = 9)
def blankL (l : List UInt8) : Bool:=decide (1 ≤ l.length) && blankC (l.getD 0 0)
def keyOk (l : List UInt8) : Bool:=(((((decide (1 ≤ l.length) && decide (l.length ≤ 32)) && !blankC (l.getD 0 0)) && !decide (l.getD 0 0 = 35)) && !decide (58 ∈ l)) && !decide (10 ∈ l))
theorem emp {s : ByteArray} : s = ⟨#[]⟩ ↔ s.data.toList.length = 0:=by
  refine ⟨fun h=>by rw [h];rfl,fun h=>?_⟩;have:=List.eq_nil_of_length_eq_zero h;rw [← bytes_ls s,show ls s = [] from this];rfl
theorem hasPrefix_one (l : List UInt8) (c : UInt8) : Lib.hasPrefix l [c] = (decide (1 ≤ l.length) && decide (l.getD 0 0 = c)):=by
  unfold Lib.hasPrefix;cases l with
  | nil=>rfl
  | cons d l =>
    have : (c == d) = decide (d = c):=by rw [Bool.eq_iff_iff,beq_iff_eq,decide_eq_true_iff];exact eq_comm
    simp [List.isPrefixOf,this]
theorem keyOk_prog (l : List UInt8) : keyOk l = (!(((decide (l.length = 0) || decide (32 < l.length)) || blankL l) || Lib.hasPrefix l [35]) && (!Lib.contains l [58] && !Lib.contains l [10])):=by
  rw [contains_one,contains_one,hasPrefix_one];unfold keyOk blankL
  by_cases h : 1 ≤ l.length
  · have h0 : ¬ l.length = 0:=by omega
    by_cases h2 : l.length ≤ 32
    · have h3 : ¬ 32 < l.length:=by omega
      simp [h,h0,h2,h3,Bool.and_assoc]
    · have h3 : 32 < l.length:=by omega
      simp [h2,h3]
  · have h0 : l.length = 0:=by omega
    simp [h0]
theorem blank_c (s : ByteArray) (hs : s.size ≤ 1000000000) : qU Tryz.prog 144 [is s] (ib (blankL s.data.toList)):=by
  have hz:=yF s;refine qT (rs:=[2]) Tryz.func144 rfl rfl rfl teOk rfl ?_;refine qC ?_;refine qB ?_;refine qC ?_;refine qB ?_;refine zai (fun h=>trivial) ?_;refine zai (fun h=>⟨⟨⟨h,trivial⟩,trivial⟩,by have h9 : ¬ s = ⟨#[]⟩:=(by simpa [gq] using h);rw [emp] at h9;omega⟩) ?_;refine Or.inl ?_;refine zai (rfl) ?_;refine zei _ (zai (fun h=>⟨⟨⟨h,trivial⟩,trivial⟩,contains_c _ _ (by decide)⟩) ?_);refine zai (by exact fun h=>h) ?_;refine qL ?_;refine ib_eq ?_
  by_cases h : s.data.toList.length = 0
  ·rw [decide_eq_true (emp.2 h),Bool.not_true,Bool.false_and];unfold blankL;rw [h];rfl
  ·rw [decide_eq_false (fun e=>h (emp.1 e)),show s.extract (Int.toNat 0) (Int.toNat 1) = bytes [s.data.toList.getD 0 0] from extract_one (by omega),qY,contains_one];unfold blankL blankC;rw [decide_eq_true (show 1 ≤ s.data.toList.length by omega)];simp
theorem key_c (s : ByteArray) (hs : s.size ≤ 1000000000) : qU Tryz.prog 117 [is s] (ib (keyOk s.data.toList)):=by
  have hz:=yF s;refine qT (rs:=[2]) Tryz.func117 rfl rfl rfl teOk rfl ?_;refine qC ?_;refine qB ?_;refine qC ?_;refine qC ?_;refine qB ?_;refine zai (fun h=>trivial) ?_;refine zai (fun h=>⟨⟨h,trivial⟩,trivial⟩) ?_;refine zai (fun h=>⟨⟨h,trivial⟩,trivial⟩) ?_;refine zai (by first|(intro h;rw [h];rfl)|(intro h;cases h)) ?_;refine zai (fun h=>trivial) ?_;refine Or.inl ?_;refine zai (rfl) ?_;refine zei _ (zai (fun h=>⟨⟨⟨h,trivial⟩,trivial⟩,blank_c _ hs⟩) ?_);refine zai (by first|(intro h;rw [h];rfl)|(intro h;cases h)) ?_;refine zai (fun h=>trivial) ?_;refine Or.inl ?_;refine zai (rfl) ?_;refine zei _ (zai (fun h=>⟨⟨⟨h,trivial⟩,trivial⟩,hasPrefix_c _ _⟩) ?_);refine zai (by first|(intro h;rw [h];rfl)|(intro h;cases h)) ?_;refine qK rfl (fun h17=>?_) (fun h17=>?_)
  ·try simp only [decide_eq_true_eq,Bool.or_eq_true] at h17
   try simp only [zds] at h17
   refine qC ?_;refine qB ?_;refine qL ?_;refine ib_eq ?_;rw [keyOk_prog];rw [emp] at h17;rcases h17 with ((h|h)|h)|h
   ·simp [h]
   ·rw [decide_eq_true (show 32 < s.data.toList.length by omega)];simp
   ·simp [h]
   ·simp [h]
  ·try simp only [decide_eq_false_iff_not,Bool.or_eq_false_iff,Int.not_lt] at h17
   try simp only [zds] at h17
   refine qM ?_;refine qC ?_;refine qB ?_;refine Or.inl ?_;refine zai (rfl) ?_;refine zei _ (zai (contains_c _ _ (by omega)) ?_);refine zai (fun h=>trivial) ?_;refine Or.inl ?_;refine zai (rfl) ?_;refine zei _ (zai (fun h=>⟨⟨⟨h,trivial⟩,trivial⟩,contains_c _ _ (by omega)⟩) ?_);refine zai (fun h=>⟨⟨h,trivial⟩,trivial⟩) ?_;refine zai (by exact fun h=>h) ?_;refine qL ?_;refine ib_eq ?_;rw [keyOk_prog];rw [emp] at h17;obtain ⟨⟨⟨h1,h2⟩,h3⟩,h4⟩:=h17;simp only [h3,h4,decide_eq_false h1,decide_eq_false (show ¬ 32 < s.data.toList.length by omega)];rfl
theorem map_snoc {α β : Type} (f : α → β) {l : List α} {i : Nat} (d : α) (h : i < l.length) : (l.take i).map f ++ [f (l.getD i d)] = (l.take (i + 1)).map f:=(map_take_succ f l d i h).symm
theorem split_mem {s sep w : List UInt8} (h : w ∈ Lib.split s sep) : w.length ≤ s.length:=by
  have : Lib.split s sep = (Lib.splitB (bytes sep) 0 (Lib.countB (bytes s) (bytes sep)) (bytes s)).map ls:=by rw [split_ls];unfold ls;rw [qY,qY]
  rw [this] at h;obtain ⟨x,hx,rfl⟩:=List.mem_map.1 h;have:=split_size _ _ _ x hx;rw [yV,yF] at this;exact this
end Q
end Ab
end Go.Proofs.YtpfkncffaanjcaaGreatDoor
namespace Go.Proofs.YtpfkncffaanjcaaGreatDoor
open Go.RowKit
namespace Ab
namespace Q
theorem dropWhile_nil {α : Type} {p : α → Bool} : ∀ {l : List α},l.dropWhile p = [] ↔ l.all p = true
  | []=>by simp
  | a :: l=>by
    rw [List.dropWhile_cons,List.all_cons];cases h : p a
    · simp
    · simp [dropWhile_nil (p:=p) (l:=l)]
theorem mem_tw {α : Type} {p : α → Bool} {x : α} : ∀ {l : List α},x ∈ l.takeWhile p → p x = true
  | a :: l,h=>by
    rw [List.takeWhile_cons] at h;split at h
    · rename_i hp;rcases List.mem_cons.1 h with rfl|h
      · exact hp
      · exact mem_tw h
    · cases h
theorem trim_nil (l : List UInt8) : Lib.trimS l [32,9] = [] ↔ l.all blankC = true:=by
  have hp : (fun c : UInt8=>([32,9] : List UInt8).contains c) = blankC:=by
    funext c;unfold blankC;simp
  unfold Lib.trimS Lib.trimLeftS Lib.trimRightS;rw [show (fun x : UInt8=>([32,9] : List UInt8).contains x) = blankC from hp,dropWhile_nil];refine ⟨fun h=>?_,fun h=>?_⟩
  · refine List.all_eq_true.2 fun x hx=>?_
    by_cases hb : blankC x = true
    · exact hb
    · exfalso
      have h2 : x ∈ (l.reverse.dropWhile blankC):=by
        have hs : l.reverse = l.reverse.takeWhile blankC ++ l.reverse.dropWhile blankC:=(List.takeWhile_append_dropWhile).symm;have hm : x ∈ l.reverse:=List.mem_reverse.2 hx;rw [hs] at hm;rcases List.mem_append.1 hm with h3|h3
        · exact absurd (mem_tw h3) hb
        · exact h3
      exact hb (List.all_eq_true.1 h x (List.mem_reverse.2 h2))
  · have : l.reverse.dropWhile blankC = []:=dropWhile_nil.2 (by rw [List.all_reverse];exact h);rw [this];rfl
def stuffL (s : List UInt8) : List UInt8:=if s.all blankC || Lib.hasPrefix s [46] then 46 :: s else s
def partsL (v : List UInt8) : List (List UInt8):=Lib.split v [10]
def firstL (key : List UInt8) (p : List UInt8) : List UInt8:=key ++ [58] ++ (if p = [] then [] else 32 :: p)
def linesL (key v : List UInt8) : List (List UInt8):=firstL key ((partsL v).headD []) :: ((partsL v).drop 1).map fun s=>32 :: stuffL s
def yC (l : List UInt8) : Int:=if 10 ∈ l then 5 else if l.all blankC = true then 1 else if Lib.hasPrefix l [35] = true then 2 else if blankL l = true then 3
  else if ((Lib.cut l [58]).2.2 && keyOk (Lib.cut l [58]).1) = true then 4 else 5
theorem split_ne (v : List UInt8) (sep : List UInt8) : Lib.split v sep ≠ []:=by
  unfold Lib.split;cases Lib.count v sep with
  | zero=>simp [Lib.splitK]
  | succ k=>unfold Lib.splitK;split <;> simp
theorem cut_at {key r : List UInt8} {c : UInt8} (h : c ∉ key) : Lib.cut (key ++ c :: r) [c] = (key,r,true):=by
  have hi : Lib.index (key ++ c :: r) [c] = key.length:=by
    refine Lib.index_first (by simp) ((occ_one _ _ _).2 (by simp)) fun j hj=>Bool.eq_false_iff.2 fun e=>?_
    have:=(occ_one _ _ _).1 e;rw [List.getElem?_append_left hj] at this;exact h (List.mem_of_getElem? this)
  unfold Lib.cut;rw [hi,if_pos (by omega),Int.toNat_natCast,List.take_left];show (key,List.drop (key.length + 1) (key ++ c :: r),true) = _;rw [← List.drop_drop,List.drop_left];rfl
def valueL (l0 : List UInt8) (rest : List (List UInt8)) : List UInt8:=Lib.join (Lib.trimPrefix (Lib.cut l0 [58]).2.1 [32] :: rest.map fun s=>Lib.trimPrefix (s.drop 1) [46]) [10]
def yB : List (List UInt8) → (List UInt8 × List UInt8) × Int
  | []=>(([],[]),2)
  | l0 :: rest=>if yC l0 ≠ 4 ∨ (rest.any fun s=>!decide (yC s = 3)) = true then (([],[]),2) else if 1000 < (valueL l0 rest).length then (([],[]),6) else (((Lib.cut l0 [58]).1,valueL l0 rest),0)
end Q
end Ab
end Go.Proofs.YtpfkncffaanjcaaGreatDoor
namespace Go.Proofs.YtpfkncffaanjcaaGreatDoor
open Go.RowKit
namespace Ab
set_option maxRecDepth 100000
namespace Q
def yO (f : Fld) : Int:=if keyOk f.1.data.toList = true then (if 1000 < f.2.size then 6 else 0) else 5
def errN (n : Int) : C:=.lit (.iface 59 (.int .i64 n))
def errA (n : Int) : C:=if n = 0 then .lit .nilIface else errN n
theorem errA_eq {n m : Int} (h : n = m) : A.one (errA n) = A.one (errA m):=by rw [h]
theorem check_c (f : Fld) (hk : f.1.size ≤ 1000000000) : qU Tryz.prog 80 [.agg (toL rFld f)] (.one (errA (yO f))):=by
  refine qT (rs:=[2]) Tryz.func80 rfl rfl rfl teOk rfl ?_;refine qC ?_;refine qB ?_;refine qC ?_;refine qN ?_;refine qC ?_;refine qB ?_;refine Or.inl ?_;refine zai (rfl) ?_;refine zei _ (zai (key_c _ hk) ?_);refine qK rfl (fun h3=>?_) (fun h3=>?_)
  ·try simp only [Bool.not_eq_true'] at h3
   try simp only [zds] at h3
   refine qC ?_;refine qB ?_;refine qL ?_;exact errA_eq (n:=5) (by unfold yO;rw [if_neg (by rw [h3];decide)])
  ·try simp only [Bool.not_eq_false'] at h3
   try simp only [zds] at h3
   refine qC ?_;refine qB ?_;refine qK rfl (fun h9=>?_) (fun h9=>?_)
   ·try simp only [decide_eq_true_eq] at h9
    try simp only [zds] at h9
    refine qC ?_;refine qB ?_;refine qL ?_;exact errA_eq (n:=6) (by unfold yO;rw [if_pos h3,if_pos (by omega)])
   ·try simp only [decide_eq_false_iff_not,Int.not_lt] at h9
    try simp only [zds] at h9
    refine qM ?_;refine qC ?_;refine qB ?_;refine qL ?_;exact errA_eq (n:=0) (by unfold yO;rw [if_pos h3,if_neg (by omega)])
theorem check_cases (f : Fld) : yO f = 5 ∨ yO f = 6 ∨ yO f = 0:=by
  unfold yO;split <;> (try split) <;> simp
theorem check_v (f : Fld) (n : Int) (hk : f.1.size ≤ 1000000000) (h : yO f = n) : qU Tryz.prog 80 [.agg (toL rFld f)] (.one (errA n)):=by
  subst h;exact check_c f hk
theorem stuffed_c (s : ByteArray) (hs : s.size ≤ 1000000) : qU Tryz.prog 196 [is s] (is (bytes (stuffL s.data.toList))):=by
  have hz:=yF s;have he : (⟨(Lib.trimS s.data.toList [32,9]).toArray⟩ : ByteArray) = ⟨#[]⟩ ↔ s.data.toList.all blankC = true:=by
    rw [emp,← trim_nil];show (bytes (Lib.trimS s.data.toList [32,9])).data.toList.length = 0 ↔ _;rw [qY];exact ⟨List.eq_nil_of_length_eq_zero,fun h=>by rw [h];rfl⟩
  refine qT (rs:=[2]) Tryz.func196 rfl rfl rfl teOk rfl ?_;refine qC ?_;refine qB ?_;refine qC ?_;refine qC ?_;refine qB ?_;refine Or.inl ?_;refine zai (rfl) ?_;refine zei _ (zai (trimS_c _ _ (by decide) (by decide) (by omega)) ?_);refine zai (fun h=>trivial) ?_;refine Or.inl ?_;refine zai (rfl) ?_;refine zei _ (zai (fun h=>⟨⟨⟨h,trivial⟩,trivial⟩,hasPrefix_c _ _⟩) ?_);refine zai (by first|(intro h;rw [h];rfl)|(intro h;cases h)) ?_;refine qK rfl (fun h9=>?_) (fun h9=>?_)
  ·try simp only [decide_eq_true_eq,Bool.or_eq_true] at h9
   try simp only [zds] at h9
   have hq : (s.data.toList.all blankC || Lib.hasPrefix s.data.toList [46]) = true:=by rw [Bool.or_eq_true];exact h9.imp he.1 id
   refine qC ?_;refine qB ?_;refine zai (by (have hk0 : ByteArray.size { data:=#[46] } = 1:=rfl;first|(unfold maxLen;omega)|(simp only [ByteArray.size_append];omega)|(unfold maxLen;(try simp only [ByteArray.size_append]);omega))) ?_;refine qL ?_;refine is_eq ?_;unfold stuffL;rw [if_pos hq,show (46 :: s.data.toList) = [46] ++ s.data.toList from rfl,bytes_app,show bytes s.data.toList = s from bytes_ls s];rfl
  ·try simp only [decide_eq_false_iff_not,Bool.or_eq_false_iff] at h9
   try simp only [zds] at h9
   have hq : ¬ (s.data.toList.all blankC || Lib.hasPrefix s.data.toList [46]) = true:=by rw [Bool.or_eq_true];exact fun e=>e.elim (fun e=>h9.1 (he.2 e)) (fun e=>by rw [h9.2] at e;cases e)
   refine qM ?_;refine qC ?_;refine qB ?_;refine qL ?_;refine is_eq ?_;unfold stuffL;rw [if_neg hq];exact (bytes_ls s).symm
theorem cut_v (s p : ByteArray) (l : List UInt8) (c : List UInt8 × List UInt8 × Bool) (hl : p.data.toList = l) (hc : Lib.cut s.data.toList l = c) (hs : s.size < 4294967281) : qU Tryz.prog 130 [is s,is p] (.tup [(false,[.lit (.string (bytes c.1))]),(false,[.lit (.string (bytes c.2.1))]),(false,[.lit (.bool c.2.2)])]):=by
  subst hl hc;exact cut_c s p hs
theorem cut_len (l sep : List UInt8) : (Lib.cut l sep).1.length ≤ l.length ∧ (Lib.cut l sep).2.1.length ≤ l.length:=by
  unfold Lib.cut;split
  · simp only [List.length_take,List.length_drop];omega
  · exact ⟨Nat.le_refl _,Nat.zero_le _⟩
theorem kind_c (s : ByteArray) (hs : s.size ≤ 1000000000) : qU Tryz.prog 131 [is s] (ii .i64 (yC s.data.toList)):=by
  have hz:=yF s;obtain ⟨c,hc⟩ : ∃ c,Lib.cut s.data.toList [58] = c:=⟨_,rfl⟩;have hcl : (bytes c.1).size ≤ 1000000000:=by rw [yV,← hc];have:=(cut_len s.data.toList [58]).1;omega
  have he : (⟨(Lib.trimS s.data.toList [32,9]).toArray⟩ : ByteArray) = ⟨#[]⟩ ↔ s.data.toList.all blankC = true:=by
    rw [emp,← trim_nil];show (bytes (Lib.trimS s.data.toList [32,9])).data.toList.length = 0 ↔ _;rw [qY];exact ⟨List.eq_nil_of_length_eq_zero,fun h=>by rw [h];rfl⟩
  have hcon : Lib.contains s.data.toList [10] = decide (10 ∈ s.data.toList):=contains_one _ _;refine qT (rs:=[2]) Tryz.func131 rfl rfl rfl teOk rfl ?_;refine qC ?_;refine qB ?_;refine qC ?_;refine qN ?_;refine qC ?_;refine qB ?_;refine Or.inl ?_;refine zai (rfl) ?_;refine zei _ (zai (contains_c _ _ (by omega)) ?_);refine qK rfl (fun h6=>?_) (fun h6=>?_)
  ·skip
   have hm : 10 ∈ s.data.toList:=of_decide_eq_true (hcon ▸ h6);refine qC ?_;refine qB ?_;refine qL ?_;refine ii_eq ?_;unfold yC;rw [if_pos hm]
  ·skip
   have hm : 10 ∉ s.data.toList:=of_decide_eq_false (hcon ▸ h6);refine qC ?_;refine qB ?_;refine Or.inl ?_;refine zai (rfl) ?_;refine zei _ (zai (trimS_c _ _ (by decide) (by decide) (by omega)) ?_);refine qK rfl (fun h9=>?_) (fun h9=>?_)
   ·try simp only [decide_eq_true_eq] at h9
    try simp only [zds] at h9
    rw [he] at h9;refine qC ?_;refine qB ?_;refine qL ?_;refine ii_eq ?_;unfold yC;rw [if_neg hm,if_pos h9]
   ·try simp only [decide_eq_false_iff_not] at h9
    try simp only [zds] at h9
    rw [he] at h9;refine qC ?_;refine qB ?_;refine Or.inl ?_;refine zai (rfl) ?_;refine zei _ (zai (hasPrefix_c _ _) ?_);refine qK rfl (fun h13=>?_) (fun h13=>?_)
    ·skip
     refine qC ?_;refine qB ?_;refine qL ?_;refine ii_eq ?_;unfold yC;rw [if_neg hm,if_neg h9,if_pos h13]
    ·skip
     refine qC ?_;refine qB ?_;refine Or.inl ?_;refine zai (rfl) ?_;refine zei _ (zai (blank_c _ hs) ?_);refine qK rfl (fun h16=>?_) (fun h16=>?_)
     ·try simp only [zbq] at h16
      try simp only [zds] at h16
      refine qC ?_;refine qB ?_;refine qL ?_;refine ii_eq ?_;unfold yC;rw [if_neg hm,if_neg h9,if_neg (by rw [Bool.not_eq_true];exact h13),if_pos h16]
     ·try simp only [zbq] at h16
      try simp only [zds] at h16
      refine qM ?_;refine qC ?_;refine qC ?_;refine qB ?_;refine Or.inl ?_;refine zai (rfl) ?_;refine zei _ (zai (cut_v _ _ [58] c rfl hc (by omega)) ?_);refine qC ?_;refine qB ?_;refine zai (fun h=>trivial) ?_;refine Or.inl ?_;refine zai (rfl) ?_;refine zei _ (zai (fun h=>⟨⟨⟨h,trivial⟩,trivial⟩,key_c _ hcl⟩) ?_);refine zai (by exact fun h=>h) ?_;refine qK rfl (fun h29=>?_) (fun h29=>?_)
      ·try simp only [Bool.and_eq_true] at h29
       try simp only [zds] at h29
       refine qC ?_;refine qB ?_;refine qL ?_;refine ii_eq ?_;unfold yC;rw [if_neg hm,if_neg h9,if_neg (by rw [Bool.not_eq_true];exact h13),if_neg (by rw [Bool.not_eq_true];exact h16),hc,if_pos (by rw [Bool.and_eq_true];rw [qY] at h29;exact h29)]
      ·try simp only [Bool.and_eq_false_iff] at h29
       try simp only [zds] at h29
       refine qM ?_;refine qC ?_;refine qB ?_;refine qL ?_;refine ii_eq ?_;unfold yC;rw [if_neg hm,if_neg h9,if_neg (by rw [Bool.not_eq_true];exact h13),if_neg (by rw [Bool.not_eq_true];exact h16),hc,if_neg (by rw [Bool.not_eq_true,Bool.and_eq_false_iff];rw [qY] at h29;exact h29)]
def cutL (l : List UInt8) : List UInt8 × List UInt8 × Bool:=if yC l = 4 then Lib.cut l [58] else ([],[],false)
def cutA (c : List UInt8 × List UInt8 × Bool) : A:=.tup [(false,[.lit (.string (bytes c.1))]),(false,[.lit (.string (bytes c.2.1))]),(false,[.lit (.bool c.2.2)])]
theorem cutA_eq {c c' : List UInt8 × List UInt8 × Bool} (h : c = c') : cutA c = cutA c':=by rw [h]
theorem lcut_c (s : ByteArray) (hs : s.size ≤ 1000000000) : qU Tryz.prog 179 [is s] (cutA (cutL s.data.toList)):=by
  refine qT (rs:=[2,3,4]) Tryz.func179 rfl rfl rfl teOk rfl ?_;refine qC ?_;refine qB ?_;refine qC ?_;refine qC ?_;refine qB ?_;refine Or.inl ?_;refine zai (rfl) ?_;refine zei _ (zai (kind_c s hs) ?_);refine qK rfl (fun h7=>?_) (fun h7=>?_)
  ·try simp only [decide_eq_false_iff_not,Bool.not_eq_true'] at h7
   try simp only [zds] at h7
   refine qC ?_;refine qB ?_;refine qL ?_;exact cutA_eq (c:=([],[],false)) (by unfold cutL;rw [if_neg h7])
  ·try simp only [decide_eq_true_eq,Bool.not_eq_false'] at h7
   try simp only [zds] at h7
   refine qM ?_;refine qC ?_;refine qB ?_;refine Or.inl ?_;refine zai (rfl) ?_;refine zei _ (zai (cut_v _ _ [58] _ rfl rfl (by omega)) ?_);refine qL ?_;exact cutA_eq (c:=Lib.cut s.data.toList [58]) (by unfold cutL;rw [if_pos h7])
def refCutL (l : List UInt8) : List UInt8 × List UInt8 × Bool:=if 10 ∈ l then ([],[],false) else if ((Lib.cut l [58]).2.2 && keyOk (Lib.cut l [58]).1) = true then Lib.cut l [58] else ([],[],false)
theorem cut_none {l : List UInt8} {c : UInt8} (h : c ∉ l) : Lib.cut l [c] = (l,[],false):=by
  have hi : Lib.index l [c] = -1:=Lib.index_none fun j _=>Bool.eq_false_iff.2 fun e=>h (List.mem_of_getElem? ((occ_one _ _ _).1 e))
  unfold Lib.cut;rw [hi,if_neg (by omega)]
def lineB (key v : ByteArray) : List ByteArray:=(linesL key.data.toList v.data.toList).map bytes
theorem check_ok {f : Fld} (h : yO f = 0) : keyOk f.1.data.toList = true ∧ f.2.size ≤ 1000 ∧ f.1.size ≤ 32:=by
  unfold yO at h;split at h
  · rename_i hk;split at h
    · cases h
    · refine ⟨hk,by omega,?_⟩;have:=hk;unfold keyOk at this;simp only [Bool.and_eq_true,decide_eq_true_eq] at this;rw [yF];exact this.1.1.1.1.2
  · cases h
theorem stuff_len (s : List UInt8) : (stuffL s).length ≤ s.length + 1:=by
  unfold stuffL;split <;> simp
def linesA (f : Fld) : A:=if yO f = 0 then .tup [(false,[.sl .str (lineB f.1 f.2)]),(false,[.lit .nilIface])] else .tup [(false,[.sl .str []]),(false,[errN (yO f)])]
theorem linesA_bad {f : Fld} {n : Int} (h : yO f = n) (hn : n ≠ 0) : linesA f = .tup [(false,[.sl .str []]),(false,[errN n])]:=by
  unfold linesA;rw [if_neg (by rw [h];exact hn),h]
theorem linesA_ok {f : Fld} (h : yO f = 0) : linesA f = .tup [(false,[.sl .str (lineB f.1 f.2)]),(false,[.lit .nilIface])]:=by
  unfold linesA;rw [if_pos h]
theorem stuffed_v (s : ByteArray) (l : List UInt8) (hl : s.data.toList = l) (hs : l.length ≤ 1000000) : qU Tryz.prog 196 [is s] (is (bytes (stuffL l))):=by
  subst hl;exact stuffed_c s (by rw [yF];exact hs)
theorem first_b (k p : ByteArray) (h : ¬ p = ⟨#[]⟩) : (k ++ (⟨#[58]⟩ : ByteArray)) ++ ((⟨#[32]⟩ : ByteArray) ++ p) = bytes (firstL k.data.toList p.data.toList):=by
  have hp : p.data.toList ≠ []:=fun e=>h (emp.2 (by rw [e];rfl))
  unfold firstL;rw [if_neg hp,bytes_app,bytes_app,show (32 :: p.data.toList) = [32] ++ p.data.toList from rfl,bytes_app,show bytes k.data.toList = k from bytes_ls k,show bytes p.data.toList = p from bytes_ls p];rfl
theorem first_e (k p : ByteArray) (h : p = ⟨#[]⟩) : k ++ (⟨#[58]⟩ : ByteArray) = bytes (firstL k.data.toList p.data.toList):=by
  have hp : p.data.toList = []:=by rw [h]
  unfold firstL;rw [if_pos hp,List.append_nil,bytes_app,show bytes k.data.toList = k from bytes_ls k];rfl
theorem tupS_eq {xs ys : List ByteArray} (h : xs = ys) : A.tup [(false,[.sl .str xs]),(false,[.lit .nilIface])] = A.tup [(false,[.sl .str ys]),(false,[.lit .nilIface])]:=by rw [h]
theorem lineB_eq {key v : ByteArray} {ws : List ByteArray} (hsp : ws.map ls = partsL v.data.toList) (hpos : 0 < ws.length) : bytes (firstL key.data.toList (ws.getD 0 ByteArray.empty).data.toList) :: (ws.drop 1).map (fun s=>bytes (32 :: stuffL s.data.toList)) = lineB key v:=by
  unfold lineB linesL;rw [← hsp];cases ws with
  | nil=>cases hpos
  | cons w r=>simp [ls]
theorem lines_c (f : Fld) (hk : f.1.size ≤ 1000000) (hv : f.2.size ≤ 1000000) : qU Tryz.prog 182 [.agg (toL rFld f)] (linesA f):=by
  obtain ⟨ws,hws⟩ : ∃ ws,Lib.splitB ⟨#[10]⟩ 0 (Lib.countB f.2 ⟨#[10]⟩) f.2 = ws:=⟨_,rfl⟩;have hsz : ∀ x ∈ ws,x.size ≤ 1000000:=fun x hx=>Nat.le_trans (split_size _ _ _ x (hws ▸ hx)) hv
  have hlen : ws.length ≤ f.2.size + 1:=by rw [← hws];exact split_len _ _ (by decide)
  have hsp : ws.map ls = partsL f.2.data.toList:=by rw [← hws];exact split_ls _ _
  have hpos : 0 < ws.length:=by
    have:=split_ne f.2.data.toList [10];rw [← List.length_map (f:=ls),hsp];exact List.length_pos_iff.2 this
  refine qT (rs:=[2,3]) Tryz.func182 rfl rfl rfl teOk rfl ?_;refine qC ?_;refine qB ?_;refine qC ?_;refine qC ?_;rcases check_cases f with hc|hc|hc
  ·refine qB ?_;refine Or.inl ?_;refine zai (rfl) ?_;refine zei _ (zai ((check_v f 5 (by omega) hc : qU _ _ _ (.one (errN 5)))) ?_);refine qC ?_;refine qB ?_;refine qK rfl (fun h12=>?_) (fun h12=>?_)
   ·skip
    refine qC ?_;refine qB ?_;refine acode_nilvec 2 9 .str rfl ?_;refine qL ?_;rw [linesA_bad hc (by decide)];rfl
   ·try simp only [zbq] at h12
    try simp only [zds] at h12
    cases h12
  ·refine qB ?_;refine Or.inl ?_;refine zai (rfl) ?_;refine zei _ (zai ((check_v f 6 (by omega) hc : qU _ _ _ (.one (errN 6)))) ?_);refine qC ?_;refine qB ?_;refine qK rfl (fun h12=>?_) (fun h12=>?_)
   ·skip
    refine qC ?_;refine qB ?_;refine acode_nilvec 2 9 .str rfl ?_;refine qL ?_;rw [linesA_bad hc (by decide)];rfl
   ·try simp only [zbq] at h12
    try simp only [zds] at h12
    cases h12
  ·refine qB ?_;refine Or.inl ?_;refine zai (rfl) ?_;refine zei _ (zai ((check_v f 0 (by omega) hc : qU _ _ _ (.one (.lit .nilIface)))) ?_);refine qC ?_;refine qB ?_;refine qK rfl (fun h12=>?_) (fun h12=>?_)
   ·try simp only [Bool.not_eq_true'] at h12
    try simp only [zds] at h12
    cases h12
   ·try simp only [Bool.not_eq_false'] at h12
    try simp only [zds] at h12
    have hdl : (ws.drop 1).length = ws.length - 1:=List.length_drop;obtain ⟨hko,hv1,hk1⟩:=check_ok hc;obtain ⟨p0,hp0⟩ : ∃ p,ws.getD 0 ByteArray.empty = p:=⟨_,rfl⟩;have hp0s : p0.size ≤ 1000000:=by rw [← hp0];exact hsz _ (xK hpos _)
    refine qM ?_;refine qC ?_;refine qB ?_;refine Or.inl ?_;refine zai (rfl) ?_;refine zei _ (zai (split_v f.2 ⟨#[10]⟩ ws hws (by omega) (by decide)) ?_);refine qC ?_;refine qB ?_;refine zai (by (have hk0 : ByteArray.size { data:=#[58] } = 1:=rfl;first|(unfold maxLen;omega)|(simp only [ByteArray.size_append];omega)|(unfold maxLen;(try simp only [ByteArray.size_append]);omega))) ?_;refine acode_cut (fun (u : Unit)=>True) (fun (u : Unit)=>[(5,.one (.sl .str ws)),(6,.one (.vec 1))]) (fun (u : Unit)=>[(1,.vec 9 .str [bytes (firstL f.1.data.toList p0.data.toList)])]) 2 ?_ ?_
    ·refine qC ?_;refine qB ?_;refine zai (by first|omega|assumption|decide|(simp only [zds];omega)|(simp <;> omega)) ?_;refine qK rfl (fun h24=>?_) (fun h24=>?_)
     ·try simp only [decide_eq_false_iff_not,Bool.not_eq_true'] at h24
      try simp only [qE] at h24
      have hq : (ws.getD (Int.toNat 0) (Rd.str).dflt).size ≤ 1000000:=hsz _ (xK hpos _);have hk2 : ([f.1 ++ (⟨#[58]⟩ : ByteArray)].getD (Int.toNat 0) (Rd.str).dflt).size ≤ 1000:=by show (f.1 ++ (⟨#[58]⟩ : ByteArray)).size ≤ _;rw [ByteArray.size_append,show ByteArray.size ⟨#[58]⟩ = 1 from rfl];omega
      refine xB rfl ?_;refine qJ 0 rfl rfl rfl (by kernel_rfl) ?_;refine qJ 1 rfl rfl rfl (by kernel_rfl) ?_;refine zai (by first|omega|assumption|decide|(simp only [zds];omega)|(simp <;> omega)) ?_;refine qJ 3 rfl rfl rfl (by kernel_rfl) ?_;refine qJ 4 rfl rfl rfl (by kernel_rfl) ?_;refine zai (by first|omega|assumption|decide|(simp only [zds];omega)|(simp <;> omega)) ?_;refine qI [2,5] (by kernel_rfl) rfl ?_;refine zai ?_ ?_
      ·refine zai (by exact Nat.zero_lt_one) ?_;refine qI [5] (by kernel_rfl) rfl ?_;refine qJ 6 rfl rfl rfl (by kernel_rfl) ?_;refine zai (by (have hk0 : ByteArray.size { data:=#[32] } = 1:=rfl;first|(unfold maxLen;omega)|(simp only [ByteArray.size_append];omega)|(unfold maxLen;(try simp only [ByteArray.size_append]);omega))) ?_;refine qJ 7 rfl rfl rfl (by kernel_rfl) ?_;refine zai (by (have hk0 : ByteArray.size { data:=#[32] } = 1:=rfl;first|(unfold maxLen;omega)|(simp only [ByteArray.size_append];omega)|(unfold maxLen;(try simp only [ByteArray.size_append]);omega))) ?_;refine qJ 8 rfl rfl rfl (by kernel_rfl) ?_;refine zai (by first|omega|assumption|decide|(simp only [zds];omega)|(simp <;> omega)) ?_;refine qI [9] (by kernel_rfl) rfl ?_;refine zai (by exact Nat.zero_lt_one) ?_;refine qO (by kernel_rfl) ?_;exact ⟨(),trivial,qV ⟨rfl,rfl⟩ (yN (congrArg (fun x=>[x]) (by rw [← hp0];exact first_b _ _ h24))) rfl⟩
      ·refine qJ 6 rfl rfl rfl (by kernel_rfl) ?_;refine zai (by (have hk0 : ByteArray.size { data:=#[32] } = 1:=rfl;first|(unfold maxLen;omega)|(simp only [ByteArray.size_append];omega)|(unfold maxLen;(try simp only [ByteArray.size_append]);omega))) ?_;refine qI [2] (by kernel_rfl) rfl ?_;refine zai (by exact Nat.zero_lt_one) ?_;refine qJ 7 rfl rfl rfl (by kernel_rfl) ?_;refine zai (by (have hk0 : ByteArray.size { data:=#[32] } = 1:=rfl;first|(unfold maxLen;omega)|(simp only [ByteArray.size_append];omega)|(unfold maxLen;(try simp only [ByteArray.size_append]);omega))) ?_;refine qJ 8 rfl rfl rfl (by kernel_rfl) ?_;refine zai (by first|omega|assumption|decide|(simp only [zds];omega)|(simp <;> omega)) ?_;refine qI [9] (by kernel_rfl) rfl ?_;refine zai (by exact Nat.zero_lt_one) ?_;refine qO (by kernel_rfl) ?_;exact ⟨(),trivial,qV ⟨rfl,rfl⟩ (yN (congrArg (fun x=>[x]) (by rw [← hp0];exact first_b _ _ h24))) rfl⟩
     ·try simp only [decide_eq_true_eq,Bool.not_eq_false'] at h24
      try simp only [qE] at h24
      refine qM ?_;exact ⟨(),trivial,qV ⟨rfl,rfl⟩ (yN (congrArg (fun x=>[x]) (by rw [← hp0];exact first_e _ _ h24))) rfl⟩
    ·intro u hcut8;refine qC ?_;refine qC ?_;refine qB ?_;refine zai (by first|omega|assumption|decide|(simp only [zds];omega)|(simp <;> omega)) ?_;intro l8_2
     try simp only [zds] at l8_2
     refine qN ?_;refine yP (fun (i : Nat)=>i ≤ (ws.drop 1).length) (fun (i : Nat)=>[(6,.one (.vec 1)),(35,.one (.sl .str (ws.drop 1))),(36,ii .i64 (ws.drop 1).length),(37,ii .i64 i)]) (fun (i : Nat)=>[(1,.vec 9 .str (bytes (firstL f.1.data.toList p0.data.toList) :: ((ws.drop 1).take i).map fun s=>bytes (32 :: stuffL s.data.toList)))]) 2 (fun (i : Nat)=>(ws.drop 1).length - i) 0 (Nat.zero_le _) (qV ⟨rfl,(sl_eq rfl),(ii_eq rfl),rfl⟩ rfl rfl) ?_;intro i hI0;have hi:=hI0;refine qC ?_;refine qB ?_;refine qC ?_;refine qK rfl (fun h38=>?_) (fun h38=>?_)
     ·try simp only [decide_eq_true_eq] at h38
      try simp only [zds] at h38
      have hlt : i < (ws.drop 1).length:=by omega
      have hm : ((ws.drop 1).getD i ByteArray.empty).size ≤ 1000000:=hsz _ (List.mem_of_mem_drop (xK hlt _));have hst : (bytes (stuffL ((ws.drop 1).getD i ByteArray.empty).data.toList)).size ≤ 1000001:=by rw [yV];have:=stuff_len ((ws.drop 1).getD i ByteArray.empty).data.toList;rw [yF] at hm;omega
      refine qM ?_;refine qC ?_;refine qN ?_;refine qC ?_;refine qB ?_;refine zai (by first|omega|assumption|decide|(simp only [zds];omega)|(simp <;> omega)) ?_;refine qB ?_;refine Or.inl ?_;refine zai (rfl) ?_;refine zei _ (zai (stuffed_v _ _ rfl (by rw [← yF];exact hm)) ?_);refine zai (by unfold maxLen;rw [show ByteArray.size ⟨#[32]⟩ = 1 from rfl,Int.toNat_natCast];exact Nat.le_trans (Nat.add_le_add_left hst 1) (by decide)) ?_;refine zai (by show (_ + 1) * 16 ≤ 140737488355328;rw [List.length_cons,List.length_map,List.length_take];omega) ?_;refine qB ?_;refine zai (by first|omega|assumption|decide|(simp only [zds];omega)|(simp <;> omega)) ?_;exact ⟨i + 1,by omega,by first|omega|(simp <;> omega),qV ⟨rfl,rfl,rfl,(ii_eq (by omega))⟩ (yN (by rw [← map_snoc (fun s : ByteArray=>bytes (32 :: stuffL s.data.toList)) ByteArray.empty hlt,← List.cons_append,show bytes (32 :: stuffL ((ws.drop 1).getD i ByteArray.empty).data.toList) = bytes [32] ++ bytes (stuffL ((ws.drop 1).getD i ByteArray.empty).data.toList) from bytes_app [32] _];rfl)) rfl⟩
     ·try simp only [decide_eq_false_iff_not,Int.not_lt] at h38
      try simp only [zds] at h38
      refine xI ?_;refine qC ?_;refine qB ?_;refine qL ?_;rw [linesA_ok hc];exact tupS_eq (by rw [List.take_of_length_le (by omega),← lineB_eq hsp hpos,hp0])
def endL (ls : List (List UInt8)) : List UInt8:=ls.flatMap fun s=>s ++ [10]
def textL (f : Fld) : List UInt8:=endL (linesL f.1.data.toList f.2.data.toList)
def foldL (l : List Fld) : List UInt8:=l.flatMap textL
def badF (l : List Fld) : Int:=match l with
  | []=>0
  | f :: r=>if yO f = 0 then badF r else yO f
theorem badF_ok : ∀ {l : List Fld},(∀ f ∈ l,yO f = 0) → badF l = 0
  | [],_=>rfl
  | f :: r,h=>by unfold badF;rw [if_pos (h f (by simp)),badF_ok fun g hg=>h g (by simp [hg])]
theorem badF_at : ∀ {l : List Fld} {i : Nat} (d : Fld),i < l.length → (∀ f ∈ l.take i,yO f = 0) → yO (l.getD i d) ≠ 0 → badF l = yO (l.getD i d)
  | f :: r,0,d,_,_,h=>by unfold badF;rw [if_neg (by simpa using h)];rfl
  | f :: r,i + 1,d,hi,ht,h=>by
    unfold badF;rw [if_pos (ht f (by simp)),badF_at d (by simpa using hi) (fun g hg=>ht g (by simp [hg])) (by simpa using h)];simp
theorem endL_snoc (ps : List (List UInt8)) (k : Nat) (h : k < ps.length) : endL (ps.take (k + 1)) = endL (ps.take k) ++ (ps.getD k [] ++ [10]):=by
  rw [← xA [] h];simp [endL]
theorem foldL_snoc (l : List Fld) (i : Nat) (d : Fld) (h : i < l.length) : foldL (l.take (i + 1)) = foldL (l.take i) ++ textL (l.getD i d):=by
  rw [← xA d h];simp [foldL]
theorem flat_le {α : Type} (g : α → List UInt8) (B : Nat) : ∀ l : List α,(∀ x ∈ l,(g x).length ≤ B) → (l.flatMap g).length ≤ l.length * B
  | [],_=>by simp
  | x :: l,h=>by
    rw [List.flatMap_cons,List.length_append,List.length_cons,Nat.succ_mul];have:=h x (by simp);have:=flat_le g B l fun y hy=>h y (by simp [hy])
    omega
theorem line_len {k v : List UInt8} (hk : k.length ≤ 32) (hv : v.length ≤ 1000) : (linesL k v).length ≤ 2000 ∧ ∀ s ∈ linesL k v,s.length ≤ 2000:=by
  have hp : ∀ p ∈ partsL v,p.length ≤ v.length:=fun p hp=>split_mem hp
  have hl : (partsL v).length ≤ v.length + 1:=by
    have:=split_len (bytes [10]) (bytes v) (by decide);have h2:=congrArg List.length (split_ls (bytes [10]) (bytes v));rw [List.length_map] at h2;rw [h2] at this;unfold ls at this;rw [qY,qY,yV] at this;exact this
  refine ⟨?_,fun s hs=>?_⟩
  · unfold linesL;simp only [List.length_cons,List.length_map,List.length_drop];omega
  · unfold linesL at hs;rcases List.mem_cons.1 hs with rfl|hs
    · unfold firstL;have h0 : ((partsL v).headD []).length ≤ v.length:=by
        cases e : partsL v with
        | nil=>exact absurd e (split_ne v [10])
        | cons p ps=>rw [e] at hp;exact hp p (by simp)
      have h1 : (if (partsL v).headD [] = [] then [] else 32 :: (partsL v).headD [] : List UInt8).length ≤ ((partsL v).headD []).length + 1:=by split <;> simp
      simp only [List.length_append,List.length_cons,List.length_nil];omega
    · obtain ⟨q,hq,rfl⟩:=List.mem_map.1 hs;have:=stuff_len q;have:=hp q (List.mem_of_mem_drop hq);simp only [List.length_cons];omega
theorem text_len {f : Fld} (h : yO f = 0) : (textL f).length ≤ 5000000 ∧ ∀ k,(endL ((linesL f.1.data.toList f.2.data.toList).take k)).length ≤ 5000000:=by
  obtain ⟨_,h2,h3⟩:=check_ok h;rw [yF] at h2 h3;obtain ⟨h4,h5⟩:=line_len h3 h2;have : ∀ ps : List (List UInt8),ps.length ≤ 2000 → (∀ s ∈ ps,s.length ≤ 2000) → (endL ps).length ≤ 5000000:=fun ps hl hs=>by
    have:=flat_le (fun s : List UInt8=>s ++ [10]) 2001 ps (fun s h=>by have:=hs s h;simp;omega);unfold endL;have : ps.length * 2001 ≤ 2000 * 2001:=Nat.mul_le_mul_right _ hl;omega
  exact ⟨this _ h4 h5,fun k=>this _ (by rw [List.length_take];omega) fun s hs=>h5 s (List.mem_of_mem_take hs)⟩
def foldA (l : List Fld) : A:=if badF l = 0 then .tup [(false,[.lit (.string (bytes (foldL l)))]),(false,[.lit .nilIface])] else .tup [(false,[.lit (.string ⟨#[]⟩)]),(false,[errN (badF l)])]
theorem lineB_get {k v : ByteArray} {j : Nat} (h : j < (lineB k v).length) : (lineB k v).getD j ByteArray.empty = bytes ((linesL k.data.toList v.data.toList).getD j []):=by
  unfold lineB at *;rw [List.length_map] at h;rw [List.getD_eq_getElem?_getD,List.getElem?_map,List.getD_eq_getElem?_getD,List.getElem?_eq_getElem h];rfl
theorem fold_c {κ : Nat} (l : List Fld) (hl : yA l) : qU Tryz.prog 164 [.one (.slk κ rFld l)] (foldA l):=by
  have hln:=hl.1;refine qT (rs:=[2,3]) Tryz.func164 rfl rfl rfl teOk rfl ?_;refine qC ?_;refine qB ?_;refine qC ?_;refine qB ?_;refine qC ?_;refine qC ?_;refine acode_bld 0 5 (.int .u8) rfl ?_;refine qB ?_;intro l2_1
  try simp only [zds] at l2_1
  refine qN ?_;refine yP (fun (x : Nat × Bool)=>x.1 ≤ l.length ∧ ∀ f ∈ l.take x.1,yO f = 0) (fun (x : Nat × Bool)=>[(4,.one (.own 0 0)),(11,.one (.slk κ rFld l)),(12,ii .i64 l.length),(13,ii .i64 x.1)]) (fun (x : Nat × Bool)=>[(0,.box 201 [.nself x.2 0,.vec 1]),(1,.vec 5 (.int .u8) (xD (bytes (foldL (l.take x.1)))))]) 2 (fun (x : Nat × Bool)=>l.length - x.1) (0,false) (⟨Nat.zero_le _,by simp⟩) (qV ⟨rfl,rfl,rfl,rfl⟩ ⟨rfl,rfl⟩ rfl) ?_;intro ⟨i,u⟩ hI0;simp only at hI0 ⊢;obtain ⟨hi,hall⟩:=hI0;refine qC ?_;refine qB ?_;refine qC ?_;refine qK rfl (fun h14=>?_) (fun h14=>?_)
  ·try simp only [decide_eq_true_eq] at h14
   try simp only [zds] at h14
   have hlt : i < l.length:=by omega
   have hm:=hl.2 _ (xK hlt (ByteArray.empty,ByteArray.empty));have hfl : (foldL (l.take i)).length ≤ 1000 * 5000000:=by refine Nat.le_trans (flat_le textL 5000000 _ fun f hf=>(text_len (hall f hf)).1) (Nat.mul_le_mul_right _ (by rw [List.length_take];omega))
   refine qM ?_;refine qC ?_;refine qN ?_;refine qC ?_;refine qB ?_;refine zai (by first|omega|assumption|decide|(simp only [zds];omega)|(simp <;> omega)) ?_;refine qC ?_;rcases check_cases (l.getD i (ByteArray.empty,ByteArray.empty)) with hc|hc|hc
   ·refine qB ?_;refine Or.inl ?_;refine zai (rfl) ?_;refine zei _ (zai ((by have:=lines_c (l.getD i (ByteArray.empty,ByteArray.empty)) hm.1 hm.2;rw [linesA_bad hc (by decide)] at this;exact this)) ?_);refine qC ?_;refine qC ?_;refine qB ?_;refine qK rfl (fun h23=>?_) (fun h23=>?_)
    ·skip
     refine qC ?_;refine qB ?_;refine qL ?_;have hb : badF l = 5:=by rw [badF_at (ByteArray.empty,ByteArray.empty) hlt hall (by rw [hc];decide),hc]
     unfold foldA;rw [if_neg (by rw [hb];decide),hb];rfl
    ·try simp only [zbq] at h23
     try simp only [zds] at h23
     cases h23
   ·refine qB ?_;refine Or.inl ?_;refine zai (rfl) ?_;refine zei _ (zai ((by have:=lines_c (l.getD i (ByteArray.empty,ByteArray.empty)) hm.1 hm.2;rw [linesA_bad hc (by decide)] at this;exact this)) ?_);refine qC ?_;refine qC ?_;refine qB ?_;refine qK rfl (fun h23=>?_) (fun h23=>?_)
    ·skip
     refine qC ?_;refine qB ?_;refine qL ?_;have hb : badF l = 6:=by rw [badF_at (ByteArray.empty,ByteArray.empty) hlt hall (by rw [hc];decide),hc]
     unfold foldA;rw [if_neg (by rw [hb];decide),hb];rfl
    ·try simp only [zbq] at h23
     try simp only [zds] at h23
     cases h23
   ·refine qB ?_;refine Or.inl ?_;refine zai (rfl) ?_;refine zei _ (zai ((by have:=lines_c (l.getD i (ByteArray.empty,ByteArray.empty)) hm.1 hm.2;rw [linesA_ok hc] at this;exact this)) ?_);refine qC ?_;refine qC ?_;refine qB ?_;refine qK rfl (fun h23=>?_) (fun h23=>?_)
    ·try simp only [Bool.not_eq_true'] at h23
     try simp only [zds] at h23
     cases h23
    ·try simp only [Bool.not_eq_false'] at h23
     try simp only [zds] at h23
     obtain ⟨ps,hps⟩ : ∃ ps,lineB (l.getD i (ByteArray.empty,ByteArray.empty)).1 (l.getD i (ByteArray.empty,ByteArray.empty)).2 = ps:=⟨_,rfl⟩;refine qM ?_;refine qC ?_;refine qB ?_;intro l8_1
     try simp only [zds] at l8_1
     refine qN ?_;refine yP (fun (y : Nat × Bool)=>y.1 ≤ (lineB (l.getD i (ByteArray.empty,ByteArray.empty)).1 (l.getD i (ByteArray.empty,ByteArray.empty)).2).length) (fun (y : Nat × Bool)=>[(4,.one (.own 0 0)),(11,.one (.slk κ rFld l)),(12,ii .i64 l.length),(13,ii .i64 i),(25,.one (.sl .str (lineB (l.getD i (ByteArray.empty,ByteArray.empty)).1 (l.getD i (ByteArray.empty,ByteArray.empty)).2))),(26,ii .i64 (lineB (l.getD i (ByteArray.empty,ByteArray.empty)).1 (l.getD i (ByteArray.empty,ByteArray.empty)).2).length),(27,ii .i64 y.1)]) (fun (y : Nat × Bool)=>[(0,.box 201 [.nself y.2 0,.vec 1]),(1,.vec 5 (.int .u8) (xD (bytes (foldL (l.take i) ++ endL ((linesL (l.getD i (ByteArray.empty,ByteArray.empty)).1.data.toList (l.getD i (ByteArray.empty,ByteArray.empty)).2.data.toList).take y.1)))))]) 2 (fun (y : Nat × Bool)=>(lineB (l.getD i (ByteArray.empty,ByteArray.empty)).1 (l.getD i (ByteArray.empty,ByteArray.empty)).2).length - y.1) (0,u) (Nat.zero_le _) (qV ⟨rfl,rfl,rfl,rfl,rfl,rfl,rfl⟩ ⟨rfl,(yN (by simp [endL]))⟩ rfl) ?_;intro ⟨k,u2⟩ hI2;simp only at hI2 ⊢;have hk:=hI2;refine qC ?_;refine qB ?_;refine qC ?_;refine qK rfl (fun h28=>?_) (fun h28=>?_)
     ·try simp only [decide_eq_true_eq] at h28
      try simp only [zds] at h28
      have hlk : k < (lineB (l.getD i (ByteArray.empty,ByteArray.empty)).1 (l.getD i (ByteArray.empty,ByteArray.empty)).2).length:=by omega
      have hg:=lineB_get hlk;have hlk2 : k < (linesL (l.getD i (ByteArray.empty,ByteArray.empty)).1.data.toList (l.getD i (ByteArray.empty,ByteArray.empty)).2.data.toList).length:=by unfold lineB at hlk;rw [List.length_map] at hlk;exact hlk
      have hgs : ((lineB (l.getD i (ByteArray.empty,ByteArray.empty)).1 (l.getD i (ByteArray.empty,ByteArray.empty)).2).getD k ByteArray.empty).size ≤ 2000:=by rw [hg,yV];obtain ⟨_,h2,h3⟩:=check_ok hc;rw [yF] at h2 h3;exact (line_len h3 h2).2 _ (xK hlk2 _)
      have hen:=(text_len hc).2 k;refine qM ?_;refine qC ?_;refine qN ?_;refine qC ?_;refine qB ?_;refine zai (by first|omega|assumption|decide|(simp only [zds];omega)|(simp <;> omega)) ?_;refine qB ?_;refine zai (by unfold maxLen;rw [Int.toNat_natCast];exact Nat.le_trans (Nat.add_le_add_right hgs 1) (by decide)) ?_;refine Or.inr (Or.inl (zei [] (zei [0,1] (zei _ (zei _ (zei _ (zei _ (zei _ (zai (writeString_o _ _ _ (by rw [ints_len,List.length_append,ByteArray.size_append,Int.toNat_natCast,show ByteArray.size ⟨#[10]⟩ = 1 from rfl];have:=hgs;show _ + (((lineB (l.getD i (ByteArray.empty,ByteArray.empty)).1 (l.getD i (ByteArray.empty,ByteArray.empty)).2).getD k ByteArray.empty).size + 1) ≤ _;omega)) (zai rfl (zai (zai (zai rfl rfl) (zai (zai rfl rfl) True.intro)) (zai rfl ?_))))))))))));refine qB ?_;refine zai (by first|omega|assumption|decide|(simp only [zds];omega)|(simp <;> omega)) ?_;exact ⟨(k + 1,true),(by simp only;omega),by first|omega|(simp <;> omega),qV ⟨rfl,rfl,rfl,rfl,rfl,rfl,(ii_eq (by simp only;omega))⟩ ⟨rfl,(yN (by simp only;rw [endL_snoc _ _ hlk2,← List.append_assoc];exact ints_add _ _ _ (by rw [bytes_app,← hg];rfl)))⟩ rfl⟩
     ·try simp only [decide_eq_false_iff_not,Int.not_lt] at h28
      try simp only [zds] at h28
      refine xI ?_;refine qB ?_;refine zai (by first|omega|assumption|decide|(simp only [zds];omega)|(simp <;> omega)) ?_;exact ⟨(i + 1,u2),⟨by simp only;omega,by simp only;rw [← xA (ByteArray.empty,ByteArray.empty) hlt];intro f hf;rcases List.mem_append.1 hf with h|h;exact hall f h;rw [List.mem_singleton.1 h];exact hc⟩,by first|omega|(simp <;> omega),qV ⟨rfl,rfl,rfl,(ii_eq (by simp only;omega))⟩ ⟨rfl,(yN (by simp only;rw [foldL_snoc l i (ByteArray.empty,ByteArray.empty) hlt,show List.take k (linesL (l.getD i (ByteArray.empty,ByteArray.empty)).1.data.toList (l.getD i (ByteArray.empty,ByteArray.empty)).2.data.toList) = linesL (l.getD i (ByteArray.empty,ByteArray.empty)).1.data.toList (l.getD i (ByteArray.empty,ByteArray.empty)).2.data.toList from List.take_of_length_le (by unfold lineB at h28;rw [List.length_map] at h28;omega)];rfl))⟩ rfl⟩
  ·try simp only [decide_eq_false_iff_not,Int.not_lt] at h14
   try simp only [zds] at h14
   refine xI ?_;refine qC ?_;refine qB ?_;refine Or.inr (Or.inl (zei [] (zei [0,1] (zei _ (zei _ (zei _ (zei _ (zei _ (zai (string_o _ _) (zai rfl (zai (zai (zai rfl rfl) (zai (zai rfl rfl) True.intro)) (zai rfl ?_))))))))))));refine qL ?_;rw [List.take_of_length_le (by omega)] at hall ⊢;unfold foldA;rw [if_pos (badF_ok hall)];rfl
theorem fold_yes {κ : Nat} {l : List Fld} (hl : yA l) (h : badF l = 0) : qU Tryz.prog 164 [.one (.slk κ rFld l)] (.tup [(false,[.lit (.string (bytes (foldL l)))]),(false,[.lit .nilIface])]):=by
  have:=fold_c (κ:=κ) l hl;unfold foldA at this;rw [if_pos h] at this;exact this
def partB (s : ByteArray) : List ByteArray:=(partsL s.data.toList).map bytes
abbrev rFault : Rd (Int × Value):=.st (.int .i64) .raw
def errF (at_ n : Int) : C:=.ifc 93 (.addr rFault (at_,.iface 59 (.int .i64 n)))
theorem num_errno (n : Int) (hn : n ≠ 0) : qU Tryz.prog 15 [.one (errN n)] (ii .i64 n):=by
  refine qT (rs:=[2]) Tryz.func15 rfl rfl rfl teOk rfl ?_;refine qC ?_;refine qB ?_;refine qC ?_;refine qC ?_;refine qB ?_;refine qN ?_;refine yP (fun (u : Unit)=>True) (fun (u : Unit)=>[(0,.one (errN n)),(7,ii .i64 0)]) (fun (u : Unit)=>[]) 0 (fun (u : Unit)=>0) () (trivial) (qV ⟨rfl,rfl⟩ trivial rfl) ?_;intro u hI0;refine qC ?_;refine qB ?_;refine qC ?_;refine qK rfl (fun h8=>?_) (fun h8=>?_)
  ·try simp only [decide_eq_true_eq] at h8
   try simp only [zds] at h8
   refine qM ?_;refine qC ?_;refine qN ?_;refine qC ?_;refine qC ?_;refine qB ?_;refine qK rfl (fun h10=>?_) (fun h10=>?_)
   ·try simp only [zbq] at h10
    try simp only [zds] at h10
    cases h10
   ·skip
    refine qM ?_;refine qC ?_;refine qC ?_;refine qB ?_;refine qC ?_;refine qB ?_;refine zai (fun h=>trivial) ?_;refine zai (fun h=>⟨⟨h,trivial⟩,trivial⟩) ?_;refine zai (by exact fun h=>h) ?_;refine qK rfl (fun h20=>?_) (fun h20=>?_)
    ·try simp only [decide_eq_false_iff_not,Bool.and_eq_true,Bool.not_eq_true'] at h20
     try simp only [zds] at h20
     refine qC ?_;refine qB ?_;refine qL ?_;rfl
    ·try simp only [decide_eq_true_eq,Bool.not_eq_false',Bool.and_eq_false_iff] at h20
     try simp only [zds] at h20
     exact absurd (h20.resolve_left (fun e=>by cases e)) hn
  ·try simp only [decide_eq_false_iff_not,Int.not_lt] at h8
   try simp only [zds] at h8
   cases h8
theorem num_fault (at_ n : Int) (hn : n ≠ 0) : qU Tryz.prog 15 [.one (errF at_ n)] (ii .i64 n):=by
  refine qT (rs:=[2]) Tryz.func15 rfl rfl rfl teOk rfl ?_;refine qC ?_;refine qB ?_;refine qC ?_;refine qC ?_;refine qB ?_;refine qN ?_;refine yP (fun (b : Bool)=>True) (fun (b : Bool)=>[(0,cond b (.one (errN n)) (.one (errF at_ n))),(7,ii .i64 (cond b 1 0))]) (fun (b : Bool)=>[]) 0 (fun (b : Bool)=>cond b 0 1) false (trivial) (qV ⟨rfl,rfl⟩ trivial rfl) ?_;intro b hI0;refine qC ?_;cases b
  ·refine qB ?_;refine qC ?_;refine qK rfl (fun h8=>?_) (fun h8=>?_)
   ·try simp only [decide_eq_true_eq] at h8
    try simp only [zds] at h8
    refine qM ?_;refine qC ?_;refine qN ?_;refine qC ?_;refine qC ?_;refine qB ?_;refine qK rfl (fun h10=>?_) (fun h10=>?_)
    ·try simp only [zbq] at h10
     try simp only [zds] at h10
     cases h10
    ·skip
     refine qM ?_;refine qC ?_;refine qC ?_;refine qB ?_;refine qC ?_;refine qB ?_;refine zai (fun h=>trivial) ?_;refine zai (fun h=>⟨⟨h,trivial⟩,trivial⟩) ?_;refine zai (by exact fun h=>h) ?_;refine qK rfl (fun h20=>?_) (fun h20=>?_)
     ·try simp only [decide_eq_false_iff_not,Bool.and_eq_true,Bool.not_eq_true'] at h20
      try simp only [zds] at h20
      exact absurd h20.1 (by decide)
     ·try simp only [decide_eq_true_eq,Bool.not_eq_false',Bool.and_eq_false_iff] at h20
      try simp only [zds] at h20
      refine qM ?_;refine qC ?_;refine qB ?_;refine qC ?_;refine qC ?_;refine qB ?_;refine zai (fun h=>trivial) ?_;refine zai (fun h=>⟨⟨h,trivial⟩,trivial⟩) ?_;refine zai (by first|(intro h;rw [h];rfl)|(intro h;cases h)) ?_;refine zai (fun h=>trivial) ?_;refine zai (fun h=>⟨⟨h,trivial⟩,trivial⟩) ?_;refine zai (fun h=>⟨⟨h,trivial⟩,trivial⟩) ?_;refine zai (fun h=>⟨⟨h,trivial⟩,trivial⟩) ?_;refine zai (fun h=>⟨⟨h,trivial⟩,trivial⟩) ?_;refine zai (by first|(intro h;rw [h];rfl)|(intro h;cases h)) ?_;refine qK rfl (fun h39=>?_) (fun h39=>?_)
      ·try simp only [Bool.not_eq_true',Bool.or_eq_true] at h39
       try simp only [zds] at h39
       exact absurd h39 (by decide)
      ·try simp only [Bool.not_eq_false',Bool.or_eq_false_iff] at h39
       try simp only [zds] at h39
       refine qM ?_;refine qB ?_;refine qB ?_;refine zai (by first|omega|assumption|decide|(simp only [zds];omega)|(simp <;> omega)) ?_;exact ⟨true,trivial,by decide,qV ⟨rfl,rfl⟩ trivial rfl⟩
   ·try simp only [decide_eq_false_iff_not,Int.not_lt] at h8
    try simp only [zds] at h8
    exact absurd h8 (by decide)
  ·refine qB ?_;refine qC ?_;refine qK rfl (fun h8=>?_) (fun h8=>?_)
   ·try simp only [decide_eq_true_eq] at h8
    try simp only [zds] at h8
    refine qM ?_;refine qC ?_;refine qN ?_;refine qC ?_;refine qC ?_;refine qB ?_;refine qK rfl (fun h10=>?_) (fun h10=>?_)
    ·try simp only [zbq] at h10
     try simp only [zds] at h10
     cases h10
    ·skip
     refine qM ?_;refine qC ?_;refine qC ?_;refine qB ?_;refine qC ?_;refine qB ?_;refine zai (fun h=>trivial) ?_;refine zai (fun h=>⟨⟨h,trivial⟩,trivial⟩) ?_;refine zai (by exact fun h=>h) ?_;refine qK rfl (fun h20=>?_) (fun h20=>?_)
     ·try simp only [decide_eq_false_iff_not,Bool.and_eq_true,Bool.not_eq_true'] at h20
      try simp only [zds] at h20
      refine qC ?_;refine qB ?_;refine qL ?_;rfl
     ·try simp only [decide_eq_true_eq,Bool.not_eq_false',Bool.and_eq_false_iff] at h20
      try simp only [zds] at h20
      exact absurd (h20.resolve_left (fun e=>by cases e)) hn
   ·try simp only [decide_eq_false_iff_not,Int.not_lt] at h8
    try simp only [zds] at h8
    exact absurd h8 (by decide)
def LinesOk (l : List ByteArray) : Prop:=l.length ≤ 1000000 ∧ (l.map (·.size)).sum ≤ 100000000
theorem sum_mem {l : List ByteArray} {s : ByteArray} (h : s ∈ l) : s.size ≤ (l.map (·.size)).sum:=by
  induction l with
  | nil=>cases h
  | cons a r ih =>
    rw [List.map_cons,List.sum_cons];rcases List.mem_cons.1 h with rfl|h
    · omega
    · have:=ih h;omega
def unfA (l : List ByteArray) : A:=if (yB (l.map ls)).2 = 0 then .tup [(true,[.lit (.string (bytes (yB (l.map ls)).1.1)),.lit (.string (bytes (yB (l.map ls)).1.2))]),(false,[.lit .nilIface])]
  else .tup [(true,[.lit (.string ⟨#[]⟩),.lit (.string ⟨#[]⟩)]),(false,[errN (yB (l.map ls)).2])]
theorem unfA_bad {l : List ByteArray} {n : Int} (h : (yB (l.map ls)).2 = n) (hn : n ≠ 0) : unfA l = .tup [(true,[.lit (.string ⟨#[]⟩),.lit (.string ⟨#[]⟩)]),(false,[errN n])]:=by
  unfold unfA;rw [if_neg (by rw [h];exact hn),h]
theorem unfA_ok {l : List ByteArray} {k v : List UInt8} (h : yB (l.map ls) = ((k,v),0)) : unfA l = .tup [(true,[.lit (.string (bytes k)),.lit (.string (bytes v))]),(false,[.lit .nilIface])]:=by
  unfold unfA;rw [if_pos (by rw [h]),h]
theorem trimP_len (s p : List UInt8) : (Lib.trimPrefix s p).length ≤ s.length:=by
  unfold Lib.trimPrefix;split
  · rw [List.length_drop];omega
  · exact Nat.le_refl _
theorem joinL_len (c : UInt8) : ∀ l : List (List UInt8),(Lib.join l [c]).length ≤ (l.map (·.length)).sum + l.length
  | []=>by simp [Lib.join]
  | [a]=>by rw [Lib.join_one];simp
  | a :: b :: r=>by
    have:=joinL_len c (b :: r);rw [join_two];simp only [List.length_append,List.length_cons,List.length_nil,List.map_cons,List.sum_cons] at this ⊢;omega
theorem map_sum_le {α : Type} (f g : α → Nat) : ∀ l : List α,(∀ x ∈ l,f x ≤ g x) → (l.map f).sum ≤ (l.map g).sum
  | [],_=>Nat.le_refl _
  | a :: r,h=>by
    simp only [List.map_cons,List.sum_cons];have:=h a (by simp);have:=map_sum_le f g r fun x hx=>h x (by simp [hx])
    omega
def moreB (s : ByteArray) : ByteArray:=bytes (Lib.trimPrefix (s.data.toList.drop 1) [46])
def firstB (s : ByteArray) : ByteArray:=bytes (Lib.trimPrefix (Lib.cut s.data.toList [58]).2.1 [32])
theorem value_join (s : ByteArray) (r : List ByteArray) : Lib.join ((firstB s :: r.map moreB).map (·.data.toList)) [10] = valueL (ls s) (r.map ls):=by
  unfold valueL firstB moreB;rw [List.map_cons,qY,List.map_map,List.map_map]
  congr 2
theorem value_len (s : ByteArray) (r : List ByteArray) : (valueL (ls s) (r.map ls)).length ≤ s.size + (r.map (·.size)).sum + r.length + 1:=by
  unfold valueL;refine Nat.le_trans (joinL_len 10 _) ?_;rw [List.map_cons,List.sum_cons,List.length_cons,List.map_map,List.map_map,List.length_map,List.length_map];have h1:=trimP_len (Lib.cut (ls s) [58]).2.1 [32];have h2:=(cut_len (ls s) [58]).2;have h3 : s.size = (ls s).length:=yF s;have h4:=map_sum_le (((fun l : List UInt8=>l.length) ∘ (fun s : List UInt8=>Lib.trimPrefix (s.drop 1) [46])) ∘ ls) (fun s : ByteArray=>s.size) r fun x _=>by
    have h5:=trimP_len ((ls x).drop 1) [46];have h6 : x.size = (ls x).length:=yF x;simp only [Function.comp];rw [List.length_drop] at h5;omega
  omega
theorem cutL_ok {l : List UInt8} (h : (cutL l).2.2 = true) : yC l = 4 ∧ cutL l = Lib.cut l [58] ∧ keyOk (Lib.cut l [58]).1 = true:=by
  unfold cutL at h ⊢;split
  · rename_i h4;refine ⟨h4,rfl,?_⟩;have:=h4;unfold yC at this;split at this
    · cases this
    · split at this
      · cases this
      · split at this
        · cases this
        · split at this
          · cases this
          · split at this
            · rename_i h5;rw [Bool.and_eq_true] at h5;exact h5.2
            · cases this
  · rename_i h4;rw [if_neg h4] at h;cases h
theorem cutL_no {l : List UInt8} (h : (cutL l).2.2 = false) : yC l ≠ 4:=fun h4=>by
  unfold cutL at h;rw [if_pos h4] at h;unfold yC at h4;split at h4
  · cases h4
  · split at h4
    · cases h4
    · split at h4
      · cases h4
      · split at h4
        · cases h4
        · split at h4
          · rename_i h5;rw [Bool.and_eq_true] at h5;rw [h] at h5;cases h5.1
          · cases h4
theorem kind3_pos {l : List UInt8} (h : yC l = 3) : 1 ≤ l.length:=by
  cases l with
  | nil=>cases h
  | cons a r=>simp
theorem unf_form {s : ByteArray} {r : List ByteArray} (h : yC (ls s) ≠ 4 ∨ ∃ x ∈ r,yC (ls x) ≠ 3) : (yB ((s :: r).map ls)).2 = 2:=by
  rw [List.map_cons,yB,if_pos];rcases h with h|⟨x,hx,h⟩
  · exact .inl h
  · exact .inr (List.any_eq_true.2 ⟨ls x,List.mem_map.2 ⟨x,hx,rfl⟩,by rw [decide_eq_false h];rfl⟩)
theorem unf_good {s : ByteArray} {r : List ByteArray} (h : yC (ls s) = 4) (hr : ∀ x ∈ r,yC (ls x) = 3) : yB ((s :: r).map ls) = if 1000 < (valueL (ls s) (r.map ls)).length then (([],[]),6) else (((Lib.cut (ls s) [58]).1,valueL (ls s) (r.map ls)),0):=by
  rw [List.map_cons,yB,if_neg]
  rintro (h1|h1)
  · exact h1 h
  · obtain ⟨x,hx,h2⟩:=List.any_eq_true.1 h1;obtain ⟨y,hy,rfl⟩:=List.mem_map.1 hx;rw [hr y hy] at h2;exact absurd h2 (by decide)
theorem lcut_v (s : ByteArray) (c : List UInt8 × List UInt8 × Bool) (hc : cutL s.data.toList = c) (hs : s.size ≤ 1000000000) : qU Tryz.prog 179 [is s] (cutA c):=by
  subst hc;exact lcut_c s hs
theorem drop_size (s : ByteArray) (n : Nat) : (s.extract n s.size).data.toList = s.data.toList.drop n:=by
  rw [extract_ls,List.take_of_length_le (by rw [List.length_drop,yF];omega)]
theorem more_eq (s : ByteArray) : (⟨(Lib.trimPrefix (s.extract (Int.toNat 1) (s.size : Int).toNat).data.toList ({ data:=#[46] } : ByteArray).data.toList).toArray⟩ : ByteArray) = moreB s:=by
  rw [Int.toNat_natCast,show Int.toNat 1 = 1 from rfl,drop_size];rfl
theorem join_v (s : ByteArray) (r : List ByteArray) (h : LinesOk (s :: r)) : qU Tryz.prog 136 [.one (.sl .str (firstB s :: r.map moreB)),is ⟨#[10]⟩] (is (bytes (valueL (ls s) (r.map ls)))):=by
  have h1:=h.1;have h2:=h.2;simp only [List.length_cons,List.map_cons,List.sum_cons] at h1 h2;have hv:=value_len s r;have:=join_c (firstB s :: r.map moreB) ⟨#[10]⟩ (by simp only [List.length_cons,List.length_map];omega) (by rw [show (⟨#[10]⟩ : ByteArray).data.toList = [10] from rfl,value_join];omega);rw [show (⟨#[10]⟩ : ByteArray).data.toList = [10] from rfl,value_join] at this;exact this
theorem check_kv (k v : List UInt8) (hk : keyOk k = true) : yO (bytes k,bytes v) = if 1000 < v.length then 6 else 0:=by
  unfold yO;rw [if_pos (by rw [qY];exact hk),yV]
theorem unfold_c (s0 : ByteArray) (r : List ByteArray) (hl : LinesOk (s0 :: r)) : qU Tryz.prog 159 [.one (.sl .str (s0 :: r))] (unfA (s0 :: r)):=by
  obtain ⟨l,hl0⟩ : ∃ l,s0 :: r = l:=⟨_,rfl⟩;rw [hl0] at hl ⊢;have hsz : ∀ x ∈ l,x.size ≤ 100000000:=fun x hx=>Nat.le_trans (sum_mem hx) hl.2
  have hll:=hl.1;have hd : l.drop 1 = r:=by rw [← hl0];rfl
  have h0 : l.getD 0 ByteArray.empty = s0:=by rw [← hl0];rfl
  have hs0 : s0.size ≤ 100000000:=hsz _ (by rw [← hl0];simp);obtain ⟨c,hc⟩ : ∃ c,cutL s0.data.toList = c:=⟨_,rfl⟩;have hlen : l.length = r.length + 1:=by rw [← hl0];rfl
  have hdl : (l.drop 1).length = l.length - 1:=List.length_drop;refine acall_ofc (rs:=[.cell 2 82,.tmp 3]) Tryz.func159 rfl rfl rfl teOk rfl ?_;refine qC ?_;refine qB ?_;refine qC ?_;refine qC ?_;refine qB ?_;intro l1_1
  try simp only [zds] at l1_1
  refine qK rfl (fun h14=>?_) (fun h14=>?_)
  ·try simp only [decide_eq_true_eq] at h14
   try simp only [zds] at h14
   exfalso;omega
  ·try simp only [decide_eq_false_iff_not] at h14
   try simp only [zds] at h14
   refine qM ?_;refine qC ?_;refine qB ?_;refine zai (by first|omega|assumption|decide|(simp only [zds];omega)|(simp <;> omega)) ?_;refine Or.inl ?_;refine zai (rfl) ?_;refine zei _ (zai ((lcut_v (l.getD 0 ByteArray.empty) c (by rw [h0];exact hc) (by rw [h0];omega))) ?_);refine qC ?_;refine qC ?_;refine qB ?_;refine qK rfl (fun h26=>?_) (fun h26=>?_)
   ·try simp only [Bool.not_eq_true'] at h26
    try simp only [zds] at h26
    refine qC ?_;refine qB ?_;refine qL ?_;rw [unfA_bad (n:=2) (by rw [← hl0];exact unf_form (.inl (cutL_no (by rw [show ls s0 = s0.data.toList from rfl,hc];exact h26)))) (by decide)];rfl
   ·try simp only [Bool.not_eq_false'] at h26
    try simp only [zds] at h26
    have hco : (cutL s0.data.toList).2.2 = true:=by rw [hc];exact h26
    obtain ⟨hk4,hcc,hko⟩:=cutL_ok hco;have hcl : c = Lib.cut s0.data.toList [58]:=by rw [← hc,hcc]
    refine qM ?_;refine qC ?_;refine qB ?_;refine Or.inl ?_;refine zai (rfl) ?_;refine zei _ (zai (trimPrefix_c _ _) ?_);refine qC ?_;refine qC ?_;refine qB ?_;refine zai (by first|omega|assumption|decide|(simp only [zds];omega)|(simp <;> omega)) ?_;intro l7_2
    try simp only [zds] at l7_2
    refine qN ?_;refine yP (fun (i : Nat)=>i ≤ (l.drop 1).length ∧ ∀ x ∈ (l.drop 1).take i,yC (ls x) = 3) (fun (i : Nat)=>[(2,.one (.own 0 0)),(4,is (bytes c.1)),(7,.one (.vec 1)),(33,.one (.sl .str (l.drop 1))),(34,ii .i64 (l.drop 1).length),(35,ii .i64 i)]) (fun (i : Nat)=>[(0,.box 82 [.lit (.string ⟨#[]⟩),.lit (.string ⟨#[]⟩)]),(1,.vec 9 .str (firstB s0 :: ((l.drop 1).take i).map moreB))]) 2 (fun (i : Nat)=>(l.drop 1).length - i) 0 (⟨Nat.zero_le _,by simp⟩) (qV ⟨rfl,rfl,rfl,rfl,rfl,rfl⟩ ⟨rfl,(yN (by rw [List.take_zero,List.map_nil,qY,hcl];rfl))⟩ rfl) ?_;intro i hI0;obtain ⟨hi,hall⟩:=hI0;refine qC ?_;refine qB ?_;refine qC ?_;refine qK rfl (fun h36=>?_) (fun h36=>?_)
    ·try simp only [decide_eq_true_eq] at h36
     try simp only [zds] at h36
     have hlt : i < (l.drop 1).length:=by omega
     have hm:=List.mem_of_mem_drop (xK hlt ByteArray.empty);have hms:=hsz _ hm;refine qM ?_;refine qC ?_;refine qN ?_;refine qC ?_;refine qB ?_;refine zai (by first|omega|assumption|decide|(simp only [zds];omega)|(simp <;> omega)) ?_;refine qC ?_;refine qC ?_;refine qB ?_;refine Or.inl ?_;refine zai (rfl) ?_;refine zei _ (zai (kind_c ((l.drop 1).getD i ByteArray.empty) (by omega)) ?_);refine qK rfl (fun h41=>?_) (fun h41=>?_)
     ·try simp only [decide_eq_false_iff_not,Bool.not_eq_true'] at h41
      try simp only [zds] at h41
      refine qC ?_;refine qB ?_;refine qL ?_;rw [unfA_bad (n:=2) (by rw [← hl0];exact unf_form (.inr ⟨_,by rw [← hd];exact xK hlt ByteArray.empty,h41⟩)) (by decide)];rfl
     ·try simp only [decide_eq_true_eq,Bool.not_eq_false'] at h41
      try simp only [zds] at h41
      have h1:=kind3_pos h41;have hz:=yF ((l.drop 1).getD i ByteArray.empty);refine qM ?_;refine qB ?_;refine zai (by first|omega|assumption|decide|(simp only [Int.toNat_natCast,qE];omega)|(simp <;> omega)) ?_;refine Or.inl ?_;refine zai (rfl) ?_;refine zei _ (zai (trimPrefix_c _ _) ?_);refine zai (by first|exact qQ (by first|omega|(simp only [List.length_cons,List.length_nil,List.length_map,List.length_take,List.length_drop];omega)|(simp;omega)) (by decide)|omega|assumption|decide|(simp only [zds];omega)|(simp <;> omega)) ?_;refine qB ?_;refine zai (by first|omega|assumption|decide|(simp only [zds];omega)|(simp <;> omega)) ?_;exact ⟨i + 1,⟨by omega,by rw [← xA ByteArray.empty hlt];intro f hf;rcases List.mem_append.1 hf with h|h;exact hall f h;rw [List.mem_singleton.1 h];exact h41⟩,by first|omega|(simp <;> omega),qV ⟨rfl,rfl,rfl,rfl,rfl,(ii_eq (by omega))⟩ ⟨rfl,(yN (map_next moreB ByteArray.empty hlt _ (more_eq _) [_]))⟩ rfl⟩
    ·try simp only [decide_eq_false_iff_not,Int.not_lt] at h36
     try simp only [zds] at h36
     rw [List.take_of_length_le (by omega)] at hall ⊢;rw [hd] at hall ⊢;refine xI ?_;refine qC ?_;refine qB ?_;refine Or.inl ?_;refine zai (rfl) ?_;refine zei _ (zai (join_v s0 r (by rw [hl0];exact hl)) ?_);refine qC ?_;refine qC ?_
     by_cases hv : 1000 < (valueL (ls s0) (r.map ls)).length
     ·refine qB ?_;refine Or.inl ?_;refine zai (rfl) ?_;refine zei _ (zai ((check_v (bytes c.1,bytes (valueL (ls s0) (r.map ls))) 6 (by rw [yV];have:=(cut_len s0.data.toList [58]).1;rw [hcl];rw [yF] at hs0;omega) (by rw [check_kv _ _ (by rw [hcl];exact hko),if_pos hv]) : qU _ _ _ (.one (errN 6)))) ?_);refine qC ?_;refine qB ?_;refine qK rfl (fun h58=>?_) (fun h58=>?_)
      ·skip
       refine qC ?_;refine qB ?_;refine qL ?_;rw [unfA_bad (n:=6) (by rw [← hl0,unf_good hk4 hall,if_pos hv]) (by decide)];rfl
      ·try simp only [zbq] at h58
       try simp only [zds] at h58
       cases h58
     ·refine qB ?_;refine Or.inl ?_;refine zai (rfl) ?_;refine zei _ (zai ((check_v (bytes c.1,bytes (valueL (ls s0) (r.map ls))) 0 (by rw [yV];have:=(cut_len s0.data.toList [58]).1;rw [hcl];rw [yF] at hs0;omega) (by rw [check_kv _ _ (by rw [hcl];exact hko),if_neg hv]) : qU _ _ _ (.one (.lit .nilIface)))) ?_);refine qC ?_;refine qB ?_;refine qK rfl (fun h58=>?_) (fun h58=>?_)
      ·try simp only [Bool.not_eq_true'] at h58
       try simp only [zds] at h58
       cases h58
      ·try simp only [Bool.not_eq_false'] at h58
       try simp only [zds] at h58
       refine qM ?_;refine qC ?_;refine qB ?_;refine qL ?_;rw [unfA_ok (k:=c.1) (v:=valueL (ls s0) (r.map ls)) (by rw [← hl0,unf_good hk4 hall,if_neg hv,hcl])];rfl
theorem unfold_e : qU Tryz.prog 159 [.one (.sl .str [])] (unfA []):=by
  refine acall_ofc (rs:=[.cell 2 82,.tmp 3]) Tryz.func159 rfl rfl rfl teOk rfl ?_;refine qC ?_;refine qB ?_;refine qC ?_;refine qC ?_;refine qB ?_;intro l1_1
  try simp only [zds] at l1_1
  refine qK rfl (fun h14=>?_) (fun h14=>?_)
  ·try simp only [decide_eq_true_eq] at h14
   try simp only [zds] at h14
   refine qC ?_;refine qB ?_;refine qL ?_;rfl
  ·try simp only [decide_eq_false_iff_not] at h14
   try simp only [zds] at h14
   exact absurd rfl h14
theorem unfold_a (l : List ByteArray) (hl : LinesOk l) : qU Tryz.prog 159 [.one (.sl .str l)] (unfA l):=by
  cases l with
  | nil=>exact unfold_e
  | cons s r=>exact unfold_c s r hl
theorem kind4_key {l : List UInt8} (h4 : yC l = 4) : 10 ∉ l ∧ ((Lib.cut l [58]).2.2 && keyOk (Lib.cut l [58]).1) = true:=by
  unfold yC at h4;split at h4
  · cases h4
  · rename_i h10;refine ⟨h10,?_⟩;split at h4
    · cases h4
    · split at h4
      · cases h4
      · split at h4
        · cases h4
        · split at h4
          · rename_i h5;exact h5
          · cases h4
theorem unf_cases (L : List (List UInt8)) : (∃ n,(n = 2 ∨ n = 6) ∧ yB L = (([],[]),n)) ∨ ∃ k v,yB L = ((k,v),0) ∧ keyOk k = true ∧ v.length ≤ 1000:=by
  cases L with
  | nil=>exact .inl ⟨2,.inl rfl,rfl⟩
  | cons a r =>
    rw [yB];split
    · exact .inl ⟨2,.inl rfl,rfl⟩
    · rename_i h1;split
      · exact .inl ⟨6,.inr rfl,rfl⟩
      · rename_i h2;have h4 : yC a = 4:=Classical.not_not.1 fun h=>h1 (.inl h)
        have:=(kind4_key h4).2;rw [Bool.and_eq_true] at this;exact .inr ⟨_,_,rfl,this.2,by omega⟩
theorem unfold_bad (l : List ByteArray) (hl : LinesOk l) {n : Int} (h : yB (l.map ls) = (([],[]),n)) (hn : n = 2 ∨ n = 6) : qU Tryz.prog 159 [.one (.sl .str l)] (.tup [(true,[.lit (.string ⟨#[]⟩),.lit (.string ⟨#[]⟩)]),(false,[errN n])]):=by
  have:=unfold_a l hl;rw [unfA_bad (n:=n) (by rw [h]) (by rcases hn with rfl|rfl <;> decide)] at this;exact this
theorem unfold_ok (l : List ByteArray) (hl : LinesOk l) {k v : List UInt8} (h : yB (l.map ls) = ((k,v),0)) : qU Tryz.prog 159 [.one (.sl .str l)] (.tup [(true,[.lit (.string (bytes k)),.lit (.string (bytes v))]),(false,[.lit .nilIface])]):=by
  have:=unfold_a l hl;rw [unfA_ok h] at this;exact this
def plainL (l : List ByteArray) : Bool:=decide ((yB (l.map ls)).2 = 0) && decide (lineB (bytes (yB (l.map ls)).1.1) (bytes (yB (l.map ls)).1.2) = l)
def refUnfA (l : List ByteArray) : A:=.tup [(true,[.lit (.string (bytes (yB (l.map ls)).1.1)),.lit (.string (bytes (yB (l.map ls)).1.2))]),(false,[.lit (.int .i64 (yB (l.map ls)).2)])]
end Q
end Ab
end Go.Proofs.YtpfkncffaanjcaaGreatDoor
namespace Go.Proofs.YtpfkncffaanjcaaGreatDoor
open Go.RowKit
namespace Ab
set_option maxRecDepth 100000
abbrev Itm:=Int × ByteArray × List Fld
abbrev rItm : Rd Itm:=.st (.int .i64) (.st .str (.sl rFld))
abbrev Lne:=Int × Int × ByteArray × Bool
abbrev rLne : Rd Lne:=.st (.int .i64) (.st (.int .i64) (.st .str .bool))
namespace Q
structure PSt where
  lns : List ByteArray
  frm : Int
  full : Bool
  its : List Itm
  blk : List ByteArray
  flds : List Fld
  recs : Int
def yH (p : PSt) : (Int × Int) ⊕ PSt :=
  if p.lns = [] then .inr p
  else if (yB (p.lns.map ls)).2 ≠ 0 then .inl (p.frm,(yB (p.lns.map ls)).2)
  else if p.full = true then .inl (p.frm,11)
  else .inr { p with flds:=p.flds ++ [(bytes (yB (p.lns.map ls)).1.1,bytes (yB (p.lns.map ls)).1.2)],lns:=[] }
def rawB (blk : List ByteArray) : ByteArray:=bytes (Lib.join (blk.map (·.data.toList)) [10]) ++ ⟨#[10]⟩
def xF (q : PSt) : PSt :=
  if q.blk = [] then { q with blk:=[],flds:=[] }
  else { q with its:=q.its ++ [((if q.flds = [] then 2 else 3 : Int),rawB q.blk,q.flds)],recs:=if q.flds = [] then q.recs else q.recs + 1,blk:=[],flds:=[] }
def endS (p : PSt) : (Int × Int) ⊕ PSt:=match yH p with
  | .inl e=>.inl e
  | .inr q=>.inr (xF q)
def xG (p : PSt) (l : Lne) : PSt:={ p with lns:=[l.2.2.1],frm:=l.1,full:=decide ((p.flds.length : Int) = 40) || (decide ((p.flds.length : Int) = 0) && decide (p.recs = 400)) }
def yI (p : PSt) (l : Lne) (kind : Int) : (Int × Int) ⊕ PSt :=
  if kind = 3 then
    if p.lns = [] then .inl (l.1,2)
    else if l.2.2.2 = true then .inr { p with lns:=p.lns ++ [l.2.2.1] }
    else yH { p with lns:=p.lns ++ [l.2.2.1] }
  else if kind = 1 then endS p
  else yH p
def lineS (q : PSt) (l : Lne) (kind : Int) : (Int × Int) ⊕ PSt :=
  if kind = 5 ∨ l.2.2.2 = false then .inl (l.1,2)
  else if kind = 1 then .inr { q with its:=q.its ++ [(1,l.2.2.1 ++ ⟨#[10]⟩,[])] }
  else if kind = 4 then .inr { xG q l with blk:=q.blk ++ [l.2.2.1] }
  else .inr { q with blk:=q.blk ++ [l.2.2.1] }
def yL (p : PSt) (l : Lne) : (Int × Int) ⊕ PSt:=match yI p l (yC (ls l.2.2.1)) with
  | .inl e=>.inl e
  | .inr q=>lineS q l (yC (ls l.2.2.1))
structure PB (p : PSt) (B : Nat) : Prop where
  lns : p.lns.length ≤ B
  lnb : (p.lns.map (·.size)).sum ≤ B
  its : p.its.length ≤ B
  blk : p.blk.length ≤ B
  blb : (p.blk.map (·.size)).sum ≤ B
  flds : p.flds.length ≤ B
  rec0 : 0 ≤ p.recs
  recB : p.recs ≤ B
theorem PB.mono {p : PSt} {B B' : Nat} (h : PB p B) (hB : B ≤ B') : PB p B' :=
  ⟨by have:=h.lns;omega,by have:=h.lnb;omega,by have:=h.its;omega,by have:=h.blk;omega,by have:=h.blb;omega,by have:=h.flds;omega,h.rec0,by have:=h.recB;omega⟩
theorem flushS_B {p q : PSt} {B : Nat} (h : PB p B) (hf : yH p = .inr q) : PB q (B + 1):=by
  unfold yH at hf;split at hf
  · cases hf;exact h.mono (by omega)
  · split at hf
    · cases hf
    · split at hf
      · cases hf
      · cases hf;have:=h.flds;exact ⟨by simp,by simp,by have:=h.its;simp only;omega,by have:=h.blk;simp only;omega,by have:=h.blb;simp only;omega,by simp;omega,h.rec0,by have:=h.recB;simp only;omega⟩
theorem closeS_B {p : PSt} {B : Nat} (h : PB p B) : PB (xF p) (B + 1):=by
  have h1:=h.lns;have h2:=h.lnb;have h3:=h.its;have h4:=h.rec0;have h5:=h.recB;unfold xF;split
  · exact ⟨by simp only;omega,by simp only;omega,by simp only;omega,by simp,by simp,by simp,h4,by simp only;omega⟩
  · refine ⟨by simp only;omega,by simp only;omega,by simp;omega,by simp,by simp,by simp,?_,?_⟩
    · simp only;split <;> omega
    · simp only;split <;> omega
theorem endS_B {p q : PSt} {B : Nat} (h : PB p B) (hf : endS p = .inr q) : PB q (B + 2):=by
  unfold endS at hf;split at hf
  · cases hf
  · rename_i r e;cases hf;exact closeS_B (flushS_B h e)
theorem more_B {p : PSt} {B : Nat} (s : ByteArray) (h : PB p B) : PB { p with lns:=p.lns ++ [s] } (B + 1 + s.size):=by
  have h1:=h.lns;have h2:=h.lnb;have h3:=h.its;have h5:=h.recB;have h6:=h.blk;have h7:=h.blb;have h8:=h.flds;exact ⟨by simp;omega,by simp;omega,by simp only;omega,by simp only;omega,by simp only;omega,by simp only;omega,h.rec0,by simp only;omega⟩
theorem aheadS_B {p q : PSt} {B : Nat} {l : Lne} {k : Int} (h : PB p B) (hf : yI p l k = .inr q) : PB q (B + 2 + l.2.2.1.size):=by
  unfold yI at hf;split at hf
  · split at hf
    · cases hf
    · split at hf
      · cases hf;exact (more_B _ h).mono (by omega)
      · exact (flushS_B (more_B _ h) hf).mono (by omega)
  · split at hf
    · exact (endS_B h hf).mono (by omega)
    · exact (flushS_B h hf).mono (by omega)
theorem lineS_B {p q : PSt} {B : Nat} {l : Lne} {k : Int} (h : PB p B) (hs : l.2.2.1.size ≤ B) (_hB : 1 ≤ B) (hf : lineS p l k = .inr q) : PB q (B + 1 + l.2.2.1.size):=by
  have h1:=h.lns;have h2:=h.lnb;have h3:=h.its;have h5:=h.recB;have h6:=h.blk;have h7:=h.blb;have h8:=h.flds;unfold lineS at hf;split at hf
  · cases hf
  · split at hf
    · cases hf;exact ⟨by simp only;omega,by simp only;omega,by simp;omega,by simp only;omega,by simp only;omega,by simp only;omega,h.rec0,by simp only;omega⟩
    · split at hf
      · cases hf;exact ⟨by simp [xG];omega,by simp [xG],by simp only [xG];omega,by simp;omega,by simp;omega,by simp only [xG];omega,h.rec0,by simp only [xG];omega⟩
      · cases hf;exact ⟨by simp only;omega,by simp only;omega,by simp only;omega,by simp;omega,by simp;omega,by simp only;omega,h.rec0,by simp only;omega⟩
theorem takeS_B {p q : PSt} {B : Nat} {l : Lne} (h : PB p B) (hf : yL p l = .inr q) : PB q (B + 3 + 2 * l.2.2.1.size):=by
  unfold yL at hf;split at hf
  · cases hf
  · rename_i r e;exact (lineS_B (aheadS_B h e) (by omega) (by omega) hf).mono (by omega)
def pst0 : PSt:=⟨[],0,false,[],[],[],0⟩
end Q
end Ab
end Go.Proofs.YtpfkncffaanjcaaGreatDoor
namespace Go.Proofs.YtpfkncffaanjcaaGreatDoor
open Go.RowKit
namespace Ab
set_option maxRecDepth 100000
namespace Q
theorem fault_c (at_ n : Int) : qU Tryz.prog 133 [ii .i64 at_,.one (errN n)] (.one (errF at_ n)):=by
  refine qT (rs:=[4]) Tryz.func133 rfl rfl rfl teOk rfl ?_;refine qC ?_;refine qB ?_;refine qC ?_;refine qB ?_;refine qL ?_;rfl
def psO (p : PSt) : Obs:=[(0,.box 161 [.vec 1,.lit (.int .i64 p.frm),.lit (.bool p.full),.vec 2,.vec 3,.vec 4,.lit (.int .i64 p.recs)]),(1,.vec 9 .str p.lns),(2,.vec 109 rItm p.its),(3,.vec 9 .str p.blk),(4,.vec 82 rFld p.flds)]
theorem flush_nil (p : PSt) (h : p.lns = []) : qR Tryz.prog 135 [.one (.own 0 0)] (psO p) 5 (.one (.lit .nilIface)) (psO p) 5:=by
  refine qP (rs:=[2]) Tryz.func135 rfl rfl rfl teOk (by decide) rfl ?_;refine qC ?_;refine qB ?_;refine qC ?_;refine qC ?_;refine qB ?_;intro l1_5
  try simp only [zds] at l1_5
  refine qK rfl (fun h11=>?_) (fun h11=>?_)
  ·try simp only [decide_eq_true_eq] at h11
   try simp only [zds] at h11
   refine qC ?_;refine qB ?_;refine qL ?_;exact ⟨rfl,⟨rfl,rfl,rfl,rfl,rfl⟩,rfl⟩
  ·try simp only [decide_eq_false_iff_not] at h11
   try simp only [zds] at h11
   exact absurd (by rw [h];rfl) h11
theorem flush_good (p : PSt) {k v : List UInt8} (h0 : p.lns ≠ []) (hu : yB (p.lns.map ls) = ((k,v),0)) (hf : p.full = false) (hb : PB p 1000000) : qR Tryz.prog 135 [.one (.own 0 0)] (psO p) 5 (.one (.lit .nilIface)) (psO { p with flds:=p.flds ++ [(bytes k,bytes v)],lns:=[] }) 5:=by
  have hfl:=hb.flds;refine qP (rs:=[2]) Tryz.func135 rfl rfl rfl teOk (by decide) rfl ?_;refine qC ?_;refine qB ?_;refine qC ?_;refine qC ?_;refine qB ?_;intro l1_5
  try simp only [zds] at l1_5
  refine qK rfl (fun h11=>?_) (fun h11=>?_)
  ·try simp only [decide_eq_true_eq] at h11
   try simp only [zds] at h11
   exact absurd (List.eq_nil_of_length_eq_zero (by omega)) h0
  ·try simp only [decide_eq_false_iff_not] at h11
   try simp only [zds] at h11
   refine qM ?_;refine qC ?_;refine acode_renew 1 rfl ?_;refine qB ?_;refine Or.inl ?_;refine zai (rfl) ?_;refine zei _ (zai (unfold_ok p.lns ⟨hb.lns,Nat.le_trans hb.lnb (by decide)⟩ hu) ?_);refine qC ?_;refine qN ?_;refine qC ?_;refine qB ?_;refine qK rfl (fun h21=>?_) (fun h21=>?_)
   ·try simp only [Bool.not_eq_true'] at h21
    try simp only [zds] at h21
    cases h21
   ·try simp only [Bool.not_eq_false'] at h21
    try simp only [zds] at h21
    refine qC ?_;refine qB ?_;refine qK rfl (fun h31=>?_) (fun h31=>?_)
    ·try simp only [zbq] at h31
     try simp only [zds] at h31
     exact absurd h31 (by rw [hf];decide)
    ·try simp only [zbq] at h31
     try simp only [zds] at h31
     refine qM ?_;refine qC ?_;refine xB rfl ?_;refine qJ 0 rfl rfl rfl (by kernel_rfl) ?_;refine qJ 1 rfl rfl rfl (by kernel_rfl) ?_;refine qJ 2 rfl rfl rfl (by kernel_rfl) ?_;refine qJ 3 rfl rfl rfl (by kernel_rfl) ?_;refine qJ 4 rfl rfl rfl (by kernel_rfl) ?_;refine qI [5,6] (by kernel_rfl) rfl ?_;refine zai ?_ ?_
     ·refine qI [6] (by kernel_rfl) rfl ?_;refine qI [7] (by kernel_rfl) rfl ?_;refine qI [8] (by kernel_rfl) rfl ?_;refine zai (by first|exact qQ (by first|omega|(simp only [List.length_cons,List.length_nil];omega)|(simp;omega)) (by decide)|omega|assumption|decide|(simp only [zds];omega)|(simp <;> omega)) ?_;refine qJ 9 rfl rfl rfl (by kernel_rfl) ?_;refine qJ 10 rfl rfl rfl (by kernel_rfl) ?_;refine qI [11] (by kernel_rfl) rfl ?_;refine qJ 12 rfl rfl rfl (by kernel_rfl) ?_;refine qJ 13 rfl rfl rfl (by kernel_rfl) ?_;refine qJ 14 rfl rfl rfl (by kernel_rfl) ?_;refine qI [15] (by kernel_rfl) rfl ?_;refine qO (by kernel_rfl) ?_;refine qC ?_;refine yD 0 0 9 .str rfl rfl rfl ?_;refine acode_swap 1 7 rfl rfl ?_;refine qB ?_;refine qL ?_;exact ⟨rfl,⟨rfl,rfl,rfl,rfl,rfl⟩,rfl⟩
     ·refine qI [5,7] (by kernel_rfl) rfl ?_;refine zai ?_ ?_
      ·refine qI [7] (by kernel_rfl) rfl ?_;refine qI [8] (by kernel_rfl) rfl ?_;refine zai (by first|exact qQ (by first|omega|(simp only [List.length_cons,List.length_nil];omega)|(simp;omega)) (by decide)|omega|assumption|decide|(simp only [zds];omega)|(simp <;> omega)) ?_;refine qJ 9 rfl rfl rfl (by kernel_rfl) ?_;refine qJ 10 rfl rfl rfl (by kernel_rfl) ?_;refine qI [11] (by kernel_rfl) rfl ?_;refine qJ 12 rfl rfl rfl (by kernel_rfl) ?_;refine qJ 13 rfl rfl rfl (by kernel_rfl) ?_;refine qJ 14 rfl rfl rfl (by kernel_rfl) ?_;refine qI [15] (by kernel_rfl) rfl ?_;refine qO (by kernel_rfl) ?_;refine qC ?_;refine yD 0 0 9 .str rfl rfl rfl ?_;refine acode_swap 1 7 rfl rfl ?_;refine qB ?_;refine qL ?_;exact ⟨rfl,⟨rfl,rfl,rfl,rfl,rfl⟩,rfl⟩
      ·refine qI [5] (by kernel_rfl) rfl ?_;refine qI [8] (by kernel_rfl) rfl ?_;refine zai (by first|exact qQ (by first|omega|(simp only [List.length_cons,List.length_nil];omega)|(simp;omega)) (by decide)|omega|assumption|decide|(simp only [zds];omega)|(simp <;> omega)) ?_;refine qJ 9 rfl rfl rfl (by kernel_rfl) ?_;refine qJ 10 rfl rfl rfl (by kernel_rfl) ?_;refine qI [11] (by kernel_rfl) rfl ?_;refine qJ 12 rfl rfl rfl (by kernel_rfl) ?_;refine qJ 13 rfl rfl rfl (by kernel_rfl) ?_;refine qJ 14 rfl rfl rfl (by kernel_rfl) ?_;refine qI [15] (by kernel_rfl) rfl ?_;refine qO (by kernel_rfl) ?_;refine qC ?_;refine yD 0 0 9 .str rfl rfl rfl ?_;refine acode_swap 1 7 rfl rfl ?_;refine qB ?_;refine qL ?_;exact ⟨rfl,⟨rfl,rfl,rfl,rfl,rfl⟩,rfl⟩
theorem flush_bad (p : PSt) {n : Int} (h0 : p.lns ≠ []) (hu : yB (p.lns.map ls) = (([],[]),n)) (hn : n = 2 ∨ n = 6) (hb : PB p 1000000) : qR Tryz.prog 135 [.one (.own 0 0)] (psO p) 5 (.one (errF p.frm n)) [] 5:=by
  refine qP (rs:=[2]) Tryz.func135 rfl rfl rfl teOk (by decide) rfl ?_;refine qC ?_;refine qB ?_;refine qC ?_;refine qC ?_;refine qB ?_;intro l1_5
  try simp only [zds] at l1_5
  refine qK rfl (fun h11=>?_) (fun h11=>?_)
  ·try simp only [decide_eq_true_eq] at h11
   try simp only [zds] at h11
   exact absurd (List.eq_nil_of_length_eq_zero (by omega)) h0
  ·try simp only [decide_eq_false_iff_not] at h11
   try simp only [zds] at h11
   refine qM ?_;refine qC ?_;refine acode_renew 1 rfl ?_;refine qB ?_;refine Or.inl ?_;refine zai (rfl) ?_;refine zei _ (zai (unfold_bad p.lns ⟨hb.lns,Nat.le_trans hb.lnb (by decide)⟩ hu hn) ?_);refine qC ?_;refine qN ?_;refine qC ?_;refine qB ?_;refine qK rfl (fun h21=>?_) (fun h21=>?_)
   ·skip
    refine qC ?_;refine qB ?_;refine Or.inl ?_;refine zai (rfl) ?_;refine zei _ (zai (fault_c p.frm n) ?_);refine qL ?_;exact ⟨rfl,trivial,rfl⟩
   ·try simp only [zbq] at h21
    try simp only [zds] at h21
    cases h21
theorem flush_full (p : PSt) {k v : List UInt8} (h0 : p.lns ≠ []) (hu : yB (p.lns.map ls) = ((k,v),0)) (hf : p.full = true) (hb : PB p 1000000) : qR Tryz.prog 135 [.one (.own 0 0)] (psO p) 5 (.one (errF p.frm 11)) [] 5:=by
  refine qP (rs:=[2]) Tryz.func135 rfl rfl rfl teOk (by decide) rfl ?_;refine qC ?_;refine qB ?_;refine qC ?_;refine qC ?_;refine qB ?_;intro l1_5
  try simp only [zds] at l1_5
  refine qK rfl (fun h11=>?_) (fun h11=>?_)
  ·try simp only [decide_eq_true_eq] at h11
   try simp only [zds] at h11
   exact absurd (List.eq_nil_of_length_eq_zero (by omega)) h0
  ·try simp only [decide_eq_false_iff_not] at h11
   try simp only [zds] at h11
   refine qM ?_;refine qC ?_;refine acode_renew 1 rfl ?_;refine qB ?_;refine Or.inl ?_;refine zai (rfl) ?_;refine zei _ (zai (unfold_ok p.lns ⟨hb.lns,Nat.le_trans hb.lnb (by decide)⟩ hu) ?_);refine qC ?_;refine qN ?_;refine qC ?_;refine qB ?_;refine qK rfl (fun h21=>?_) (fun h21=>?_)
   ·try simp only [Bool.not_eq_true'] at h21
    try simp only [zds] at h21
    cases h21
   ·try simp only [Bool.not_eq_false'] at h21
    try simp only [zds] at h21
    refine qC ?_;refine qB ?_;refine qK rfl (fun h31=>?_) (fun h31=>?_)
    ·try simp only [zbq] at h31
     try simp only [zds] at h31
     refine qC ?_;refine qB ?_;refine Or.inl ?_;refine zai (rfl) ?_;refine zei _ (zai (fault_c p.frm 11) ?_);refine qL ?_;exact ⟨rfl,trivial,rfl⟩
    ·try simp only [zbq] at h31
     try simp only [zds] at h31
     exact absurd h31 (by rw [hf];decide)
theorem flush_ok {p q : PSt} (h : yH p = .inr q) (hb : PB p 1000000) : qR Tryz.prog 135 [.one (.own 0 0)] (psO p) 5 (.one (.lit .nilIface)) (psO q) 5:=by
  unfold yH at h;split at h
  · rename_i h0;cases h;exact flush_nil p h0
  · rename_i h0;rcases unf_cases (p.lns.map ls) with ⟨n,hn,hu⟩|⟨k,v,hu,_,_⟩
    · rw [hu,if_pos (by rcases hn with rfl|rfl <;> decide)] at h;cases h
    · rw [hu,if_neg (by simp)] at h;split at h
      · cases h
      · rename_i hf;cases h;exact flush_good p h0 hu (by simpa using hf) hb
theorem flush_err {p : PSt} {at_ n : Int} (h : yH p = .inl (at_,n)) (hb : PB p 1000000) : qR Tryz.prog 135 [.one (.own 0 0)] (psO p) 5 (.one (errF at_ n)) [] 5:=by
  unfold yH at h;split at h
  · cases h
  · rename_i h0;rcases unf_cases (p.lns.map ls) with ⟨m,hn,hu⟩|⟨k,v,hu,_,_⟩
    · rw [hu,if_pos (by rcases hn with rfl|rfl <;> decide)] at h;cases h;exact flush_bad p h0 hu hn hb
    · rw [hu,if_neg (by simp)] at h;split at h
      · rename_i hf;cases h;exact flush_full p h0 hu hf hb
      · cases h
end Q
end Ab
end Go.Proofs.YtpfkncffaanjcaaGreatDoor
namespace Go.Proofs.YtpfkncffaanjcaaGreatDoor
open Go.RowKit
namespace Ab
set_option maxRecDepth 100000
set_option maxHeartbeats 4000000
namespace Q
theorem join_sz (l : List ByteArray) : (Lib.join (l.map (·.data.toList)) [10]).length ≤ (l.map (·.size)).sum + l.length:=by
  refine Nat.le_trans (joinL_len 10 _) ?_;rw [List.map_map,List.length_map];refine Nat.add_le_add_right (Nat.le_of_eq ?_) _;exact congrArg _ (List.map_congr_left fun s _=>(yF s).symm)
theorem raw_sz {l : List ByteArray} (h1 : l.length ≤ 2000000) (h2 : (l.map (·.size)).sum ≤ 2000000) : ByteArray.size { data:=(Lib.join (l.map (fun x=>x.data.toList)) [10]).toArray } ≤ 4000000:=by
  have:=join_sz l;show Array.size _ ≤ _;rw [List.size_toArray];omega
theorem end_nil {p q : PSt} (h : yH p = .inr q) (hq : q.blk = []) (hb : PB p 1000000) : qR Tryz.prog 98 [.one (.own 0 0)] (psO p) 5 (.one (.lit .nilIface)) (psO { q with blk:=[],flds:=[] }) 5:=by
  refine qP (rs:=[2]) Tryz.func98 rfl rfl rfl teOk (by decide) rfl ?_;refine qC ?_;refine qB ?_;refine qC ?_;refine qC ?_;refine qB ?_;refine Or.inr (Or.inl (zei [] (zei [0,1,2,3,4] (zei _ (zei _ (zei _ (zei _ (zei _ (zai (flush_ok h hb) (zai rfl (zai (zai (zai rfl rfl) (zai (zai rfl rfl) (zai (zai rfl rfl) (zai (zai rfl rfl) (zai (zai rfl rfl) True.intro))))) (zai rfl ?_))))))))))));refine qC ?_;refine qB ?_;refine qK rfl (fun h8=>?_) (fun h8=>?_)
  ·try simp only [Bool.not_eq_true'] at h8
   try simp only [zds] at h8
   cases h8
  ·try simp only [Bool.not_eq_false'] at h8
   try simp only [zds] at h8
   refine qM ?_;refine qC ?_;refine qC ?_;refine acode_renew 3 rfl ?_;refine acode_renew 4 rfl ?_;refine qB ?_;intro l4_4
   try simp only [zds] at l4_4
   refine qK rfl (fun h15=>?_) (fun h15=>?_)
   ·try simp only [decide_eq_true_eq] at h15
    try simp only [zds] at h15
    exact absurd (by rw [hq];rfl : (q.blk.length : Int) = 0) (by omega)
   ·try simp only [decide_eq_false_iff_not,Int.not_lt] at h15
    try simp only [zds] at h15
    refine qM ?_;refine qC ?_;refine qB ?_;refine qC ?_;refine yD 0 4 9 .str rfl rfl rfl ?_;refine acode_swap 3 5 rfl rfl ?_;refine yD 0 5 82 rFld rfl rfl rfl ?_;refine acode_swap 4 6 rfl rfl ?_;refine qB ?_;refine qL ?_;exact ⟨rfl,⟨rfl,rfl,rfl,rfl,rfl⟩,rfl⟩
theorem end_blk {p q : PSt} (h : yH p = .inr q) (hq : q.blk ≠ []) (hb : PB p 1000000) (hb2 : PB q 2000000) : qR Tryz.prog 98 [.one (.own 0 0)] (psO p) 5 (.one (.lit .nilIface)) (psO { q with its:=q.its ++ [((if q.flds = [] then 2 else 3 : Int),rawB q.blk,q.flds)],recs:=(if q.flds = [] then q.recs else q.recs + 1),blk:=[],flds:=[] }) 5:=by
  have hi:=hb2.its;have hjs:=raw_sz hb2.blk hb2.blb;have hr0:=hb2.rec0;have hrB:=hb2.recB;refine qP (rs:=[2]) Tryz.func98 rfl rfl rfl teOk (by decide) rfl ?_;refine qC ?_;refine qB ?_;refine qC ?_;refine qC ?_;refine qB ?_;refine Or.inr (Or.inl (zei [] (zei [0,1,2,3,4] (zei _ (zei _ (zei _ (zei _ (zei _ (zai (flush_ok h hb) (zai rfl (zai (zai (zai rfl rfl) (zai (zai rfl rfl) (zai (zai rfl rfl) (zai (zai rfl rfl) (zai (zai rfl rfl) True.intro))))) (zai rfl ?_))))))))))));refine qC ?_;refine qB ?_;refine qK rfl (fun h8=>?_) (fun h8=>?_)
  ·try simp only [Bool.not_eq_true'] at h8
   try simp only [zds] at h8
   cases h8
  ·try simp only [Bool.not_eq_false'] at h8
   try simp only [zds] at h8
   refine qM ?_;refine acode_cut (fun (u : Unit)=>True) (fun (u : Unit)=>[(0,.one (.own 0 0))]) (fun (u : Unit)=>[(0,.box 161 [.vec 1,.lit (.int .i64 q.frm),.lit (.bool q.full),.vec 2,.sl .str q.blk,.sl rFld q.flds,.lit (.int .i64 (if q.flds = [] then q.recs else q.recs + 1))]),(1,.vec 9 .str q.lns),(2,.vec 109 rItm (q.its ++ [((if q.flds = [] then 2 else 3 : Int),rawB q.blk,q.flds)])),(3,.vec 9 .str []),(4,.vec 82 rFld [])]) 5 ?_ ?_
   ·refine qC ?_;refine acode_renew 3 rfl ?_;refine acode_renew 4 rfl ?_;refine qB ?_;intro l4_4
    try simp only [zds] at l4_4
    refine qK rfl (fun h15=>?_) (fun h15=>?_)
    ·try simp only [decide_eq_true_eq] at h15
     try simp only [zds] at h15
     refine qC ?_;refine qB ?_;refine acode_cut (fun (u : Int × Int)=>u = ((if q.flds = [] then 2 else 3 : Int),(if q.flds = [] then q.recs else q.recs + 1))) (fun (u : Int × Int)=>[(0,.one (.own 0 0)),(4,ii .i64 u.1)]) (fun (u : Int × Int)=>[(0,.box 161 [.vec 1,.lit (.int .i64 q.frm),.lit (.bool q.full),.vec 2,.sl .str q.blk,.sl rFld q.flds,.lit (.int .i64 u.2)]),(1,.vec 9 .str q.lns),(2,.vec 109 rItm q.its),(3,.vec 9 .str []),(4,.vec 82 rFld [])]) 5 ?_ ?_
     ·refine qC ?_;refine qB ?_;intro l6_4
      try simp only [zds] at l6_4
      refine qK rfl (fun h21=>?_) (fun h21=>?_)
      ·try simp only [decide_eq_true_eq] at h21
       try simp only [zds] at h21
       refine qC ?_;refine qB ?_;refine qB ?_;refine zai (by first|omega|assumption|decide|(simp only [zds];omega)|(simp <;> omega)) ?_;exact ⟨(3,q.recs + 1),by have hf : q.flds ≠ []:=(fun e=>by rw [e] at h21;simp at h21);simp only [if_neg hf],qV ⟨rfl,rfl⟩ ⟨rfl,rfl,rfl,rfl,rfl⟩ rfl⟩
      ·try simp only [decide_eq_false_iff_not,Int.not_lt] at h21
       try simp only [zds] at h21
       refine qM ?_;exact ⟨(2,q.recs),by have hf : q.flds = []:=List.eq_nil_of_length_eq_zero (by omega);simp only [if_pos hf],qV ⟨rfl,rfl⟩ ⟨rfl,rfl,rfl,rfl,rfl⟩ rfl⟩
     ·intro u hcut9;obtain ⟨k,rc⟩:=u;obtain ⟨rfl,rfl⟩:=Prod.mk.inj hcut9;refine xB rfl ?_;refine qJ 0 rfl rfl rfl (by kernel_rfl) ?_;refine qJ 1 rfl rfl rfl (by kernel_rfl) ?_;refine qJ 2 rfl rfl rfl (by kernel_rfl) ?_;refine qJ 3 rfl rfl rfl (by kernel_rfl) ?_;refine qJ 5 rfl rfl rfl (by kernel_rfl) ?_;refine qJ 6 rfl rfl rfl (by kernel_rfl) ?_;refine qJ 7 rfl rfl rfl (by kernel_rfl) ?_;refine qJ 8 rfl rfl rfl (by kernel_rfl) ?_;refine qJ 12 rfl rfl rfl (by kernel_rfl) ?_;refine qJ 13 rfl rfl rfl (by kernel_rfl) ?_;refine qJ 14 rfl rfl rfl (by kernel_rfl) ?_;refine qI [4,9,15] (by kernel_rfl) rfl ?_;refine zai ?_ ?_
      ·refine qI [9,15] (by kernel_rfl) rfl ?_;refine zai ?_ ?_
       ·refine qI [10,15] (by kernel_rfl) rfl ?_;refine zai ?_ ?_
        ·refine Or.inl ?_;refine zai (rfl) ?_;refine zei _ (zai (join_c q.blk ⟨#[10]⟩ (Nat.le_trans hb2.blk (by decide)) (Nat.le_trans (join_sz q.blk) (by have:=hb2.blk;have:=hb2.blb;omega))) ?_);refine qJ 11 rfl rfl rfl (by kernel_rfl) ?_;refine zai (by (have hk0 : ByteArray.size { data:=#[10] } = 1:=rfl;first|(unfold maxLen;omega)|(simp only [];omega)|(unfold maxLen;(try simp only []);omega))) ?_;refine qI [15] (by kernel_rfl) rfl ?_;refine qI [16] (by kernel_rfl) rfl ?_;refine qI [17] (by kernel_rfl) rfl ?_;refine qI [18] (by kernel_rfl) rfl ?_;refine zai (by first|exact qQ (by first|omega|(simp only [List.length_cons,List.length_nil];omega)|(simp;omega)) (by decide)|omega|assumption|decide|(simp only [zds];omega)|(simp <;> omega)) ?_;refine qJ 19 rfl rfl rfl (by kernel_rfl) ?_;refine qJ 20 rfl rfl rfl (by kernel_rfl) ?_;refine qI [21] (by kernel_rfl) rfl ?_;refine qO (by kernel_rfl) ?_;exact ⟨(),trivial,qV rfl ⟨rfl,rfl,rfl,rfl,rfl⟩ rfl⟩
        ·refine qI [10] (by kernel_rfl) rfl ?_;refine Or.inl ?_;refine zai (rfl) ?_;refine zei _ (zai (join_c q.blk ⟨#[10]⟩ (Nat.le_trans hb2.blk (by decide)) (Nat.le_trans (join_sz q.blk) (by have:=hb2.blk;have:=hb2.blb;omega))) ?_);refine qJ 11 rfl rfl rfl (by kernel_rfl) ?_;refine zai (by (have hk0 : ByteArray.size { data:=#[10] } = 1:=rfl;first|(unfold maxLen;omega)|(simp only [];omega)|(unfold maxLen;(try simp only []);omega))) ?_;refine qI [16] (by kernel_rfl) rfl ?_;refine qI [17] (by kernel_rfl) rfl ?_;refine qI [18] (by kernel_rfl) rfl ?_;refine zai (by first|exact qQ (by first|omega|(simp only [List.length_cons,List.length_nil];omega)|(simp;omega)) (by decide)|omega|assumption|decide|(simp only [zds];omega)|(simp <;> omega)) ?_;refine qJ 19 rfl rfl rfl (by kernel_rfl) ?_;refine qJ 20 rfl rfl rfl (by kernel_rfl) ?_;refine qI [21] (by kernel_rfl) rfl ?_;refine qO (by kernel_rfl) ?_;exact ⟨(),trivial,qV rfl ⟨rfl,rfl,rfl,rfl,rfl⟩ rfl⟩
       ·refine qI [9] (by kernel_rfl) rfl ?_;refine qI [10] (by kernel_rfl) rfl ?_;refine Or.inl ?_;refine zai (rfl) ?_;refine zei _ (zai (join_c q.blk ⟨#[10]⟩ (Nat.le_trans hb2.blk (by decide)) (Nat.le_trans (join_sz q.blk) (by have:=hb2.blk;have:=hb2.blb;omega))) ?_);refine qJ 11 rfl rfl rfl (by kernel_rfl) ?_;refine zai (by (have hk0 : ByteArray.size { data:=#[10] } = 1:=rfl;first|(unfold maxLen;omega)|(simp only [];omega)|(unfold maxLen;(try simp only []);omega))) ?_;refine qI [16] (by kernel_rfl) rfl ?_;refine qI [17] (by kernel_rfl) rfl ?_;refine qI [18] (by kernel_rfl) rfl ?_;refine zai (by first|exact qQ (by first|omega|(simp only [List.length_cons,List.length_nil];omega)|(simp;omega)) (by decide)|omega|assumption|decide|(simp only [zds];omega)|(simp <;> omega)) ?_;refine qJ 19 rfl rfl rfl (by kernel_rfl) ?_;refine qJ 20 rfl rfl rfl (by kernel_rfl) ?_;refine qI [21] (by kernel_rfl) rfl ?_;refine qO (by kernel_rfl) ?_;exact ⟨(),trivial,qV rfl ⟨rfl,rfl,rfl,rfl,rfl⟩ rfl⟩
      refine zai ?_ ?_
      ·refine qI [4,10,15] (by kernel_rfl) rfl ?_;refine zai ?_ ?_
       ·refine qI [10,15] (by kernel_rfl) rfl ?_;refine zai ?_ ?_
        ·refine Or.inl ?_;refine zai (rfl) ?_;refine zei _ (zai (join_c q.blk ⟨#[10]⟩ (Nat.le_trans hb2.blk (by decide)) (Nat.le_trans (join_sz q.blk) (by have:=hb2.blk;have:=hb2.blb;omega))) ?_);refine qJ 11 rfl rfl rfl (by kernel_rfl) ?_;refine zai (by (have hk0 : ByteArray.size { data:=#[10] } = 1:=rfl;first|(unfold maxLen;omega)|(simp only [];omega)|(unfold maxLen;(try simp only []);omega))) ?_;refine qI [15] (by kernel_rfl) rfl ?_;refine qI [16] (by kernel_rfl) rfl ?_;refine qI [17] (by kernel_rfl) rfl ?_;refine qI [18] (by kernel_rfl) rfl ?_;refine zai (by first|exact qQ (by first|omega|(simp only [List.length_cons,List.length_nil];omega)|(simp;omega)) (by decide)|omega|assumption|decide|(simp only [zds];omega)|(simp <;> omega)) ?_;refine qJ 19 rfl rfl rfl (by kernel_rfl) ?_;refine qJ 20 rfl rfl rfl (by kernel_rfl) ?_;refine qI [21] (by kernel_rfl) rfl ?_;refine qO (by kernel_rfl) ?_;exact ⟨(),trivial,qV rfl ⟨rfl,rfl,rfl,rfl,rfl⟩ rfl⟩
        ·refine qI [10] (by kernel_rfl) rfl ?_;refine Or.inl ?_;refine zai (rfl) ?_;refine zei _ (zai (join_c q.blk ⟨#[10]⟩ (Nat.le_trans hb2.blk (by decide)) (Nat.le_trans (join_sz q.blk) (by have:=hb2.blk;have:=hb2.blb;omega))) ?_);refine qJ 11 rfl rfl rfl (by kernel_rfl) ?_;refine zai (by (have hk0 : ByteArray.size { data:=#[10] } = 1:=rfl;first|(unfold maxLen;omega)|(simp only [];omega)|(unfold maxLen;(try simp only []);omega))) ?_;refine qI [16] (by kernel_rfl) rfl ?_;refine qI [17] (by kernel_rfl) rfl ?_;refine qI [18] (by kernel_rfl) rfl ?_;refine zai (by first|exact qQ (by first|omega|(simp only [List.length_cons,List.length_nil];omega)|(simp;omega)) (by decide)|omega|assumption|decide|(simp only [zds];omega)|(simp <;> omega)) ?_;refine qJ 19 rfl rfl rfl (by kernel_rfl) ?_;refine qJ 20 rfl rfl rfl (by kernel_rfl) ?_;refine qI [21] (by kernel_rfl) rfl ?_;refine qO (by kernel_rfl) ?_;exact ⟨(),trivial,qV rfl ⟨rfl,rfl,rfl,rfl,rfl⟩ rfl⟩
       refine zai ?_ ?_
       ·refine Or.inl ?_;refine zai (rfl) ?_;refine zei _ (zai (join_c q.blk ⟨#[10]⟩ (Nat.le_trans hb2.blk (by decide)) (Nat.le_trans (join_sz q.blk) (by have:=hb2.blk;have:=hb2.blb;omega))) ?_);refine qJ 11 rfl rfl rfl (by kernel_rfl) ?_;refine zai (by (have hk0 : ByteArray.size { data:=#[10] } = 1:=rfl;first|(unfold maxLen;omega)|(simp only [];omega)|(unfold maxLen;(try simp only []);omega))) ?_;refine qI [4,15] (by kernel_rfl) rfl ?_;refine zai ?_ ?_
        ·refine qI [15] (by kernel_rfl) rfl ?_;refine qI [16] (by kernel_rfl) rfl ?_;refine qI [17] (by kernel_rfl) rfl ?_;refine qI [18] (by kernel_rfl) rfl ?_;refine zai (by first|exact qQ (by first|omega|(simp only [List.length_cons,List.length_nil];omega)|(simp;omega)) (by decide)|omega|assumption|decide|(simp only [zds];omega)|(simp <;> omega)) ?_;refine qJ 19 rfl rfl rfl (by kernel_rfl) ?_;refine qJ 20 rfl rfl rfl (by kernel_rfl) ?_;refine qI [21] (by kernel_rfl) rfl ?_;refine qO (by kernel_rfl) ?_;exact ⟨(),trivial,qV rfl ⟨rfl,rfl,rfl,rfl,rfl⟩ rfl⟩
        ·refine qI [4,16] (by kernel_rfl) rfl ?_;refine zai ?_ ?_
         ·refine qI [16] (by kernel_rfl) rfl ?_;refine qI [17] (by kernel_rfl) rfl ?_;refine qI [18] (by kernel_rfl) rfl ?_;refine zai (by first|exact qQ (by first|omega|(simp only [List.length_cons,List.length_nil];omega)|(simp;omega)) (by decide)|omega|assumption|decide|(simp only [zds];omega)|(simp <;> omega)) ?_;refine qJ 19 rfl rfl rfl (by kernel_rfl) ?_;refine qJ 20 rfl rfl rfl (by kernel_rfl) ?_;refine qI [21] (by kernel_rfl) rfl ?_;refine qO (by kernel_rfl) ?_;exact ⟨(),trivial,qV rfl ⟨rfl,rfl,rfl,rfl,rfl⟩ rfl⟩
         ·refine qI [4,17] (by kernel_rfl) rfl ?_;refine zai ?_ ?_
          ·refine qI [17] (by kernel_rfl) rfl ?_;refine qI [18] (by kernel_rfl) rfl ?_;refine zai (by first|exact qQ (by first|omega|(simp only [List.length_cons,List.length_nil];omega)|(simp;omega)) (by decide)|omega|assumption|decide|(simp only [zds];omega)|(simp <;> omega)) ?_;refine qJ 19 rfl rfl rfl (by kernel_rfl) ?_;refine qJ 20 rfl rfl rfl (by kernel_rfl) ?_;refine qI [21] (by kernel_rfl) rfl ?_;refine qO (by kernel_rfl) ?_;exact ⟨(),trivial,qV rfl ⟨rfl,rfl,rfl,rfl,rfl⟩ rfl⟩
          ·refine qI [4] (by kernel_rfl) rfl ?_;refine qI [18] (by kernel_rfl) rfl ?_;refine zai (by first|exact qQ (by first|omega|(simp only [List.length_cons,List.length_nil];omega)|(simp;omega)) (by decide)|omega|assumption|decide|(simp only [zds];omega)|(simp <;> omega)) ?_;refine qJ 19 rfl rfl rfl (by kernel_rfl) ?_;refine qJ 20 rfl rfl rfl (by kernel_rfl) ?_;refine qI [21] (by kernel_rfl) rfl ?_;refine qO (by kernel_rfl) ?_;exact ⟨(),trivial,qV rfl ⟨rfl,rfl,rfl,rfl,rfl⟩ rfl⟩
       ·refine qI [4,10] (by kernel_rfl) rfl ?_;refine zai ?_ ?_
        ·refine qI [10] (by kernel_rfl) rfl ?_;refine Or.inl ?_;refine zai (rfl) ?_;refine zei _ (zai (join_c q.blk ⟨#[10]⟩ (Nat.le_trans hb2.blk (by decide)) (Nat.le_trans (join_sz q.blk) (by have:=hb2.blk;have:=hb2.blb;omega))) ?_);refine qJ 11 rfl rfl rfl (by kernel_rfl) ?_;refine zai (by (have hk0 : ByteArray.size { data:=#[10] } = 1:=rfl;first|(unfold maxLen;omega)|(simp only [];omega)|(unfold maxLen;(try simp only []);omega))) ?_;refine qI [16] (by kernel_rfl) rfl ?_;refine qI [17] (by kernel_rfl) rfl ?_;refine qI [18] (by kernel_rfl) rfl ?_;refine zai (by first|exact qQ (by first|omega|(simp only [List.length_cons,List.length_nil];omega)|(simp;omega)) (by decide)|omega|assumption|decide|(simp only [zds];omega)|(simp <;> omega)) ?_;refine qJ 19 rfl rfl rfl (by kernel_rfl) ?_;refine qJ 20 rfl rfl rfl (by kernel_rfl) ?_;refine qI [21] (by kernel_rfl) rfl ?_;refine qO (by kernel_rfl) ?_;exact ⟨(),trivial,qV rfl ⟨rfl,rfl,rfl,rfl,rfl⟩ rfl⟩
        ·refine Or.inl ?_;refine zai (rfl) ?_;refine zei _ (zai (join_c q.blk ⟨#[10]⟩ (Nat.le_trans hb2.blk (by decide)) (Nat.le_trans (join_sz q.blk) (by have:=hb2.blk;have:=hb2.blb;omega))) ?_);refine qJ 11 rfl rfl rfl (by kernel_rfl) ?_;refine zai (by (have hk0 : ByteArray.size { data:=#[10] } = 1:=rfl;first|(unfold maxLen;omega)|(simp only [];omega)|(unfold maxLen;(try simp only []);omega))) ?_;refine qI [4,16] (by kernel_rfl) rfl ?_;refine zai ?_ ?_
         ·refine qI [16] (by kernel_rfl) rfl ?_;refine qI [17] (by kernel_rfl) rfl ?_;refine qI [18] (by kernel_rfl) rfl ?_;refine zai (by first|exact qQ (by first|omega|(simp only [List.length_cons,List.length_nil];omega)|(simp;omega)) (by decide)|omega|assumption|decide|(simp only [zds];omega)|(simp <;> omega)) ?_;refine qJ 19 rfl rfl rfl (by kernel_rfl) ?_;refine qJ 20 rfl rfl rfl (by kernel_rfl) ?_;refine qI [21] (by kernel_rfl) rfl ?_;refine qO (by kernel_rfl) ?_;exact ⟨(),trivial,qV rfl ⟨rfl,rfl,rfl,rfl,rfl⟩ rfl⟩
         ·refine qI [4,17] (by kernel_rfl) rfl ?_;refine zai ?_ ?_
          ·refine qI [17] (by kernel_rfl) rfl ?_;refine qI [18] (by kernel_rfl) rfl ?_;refine zai (by first|exact qQ (by first|omega|(simp only [List.length_cons,List.length_nil];omega)|(simp;omega)) (by decide)|omega|assumption|decide|(simp only [zds];omega)|(simp <;> omega)) ?_;refine qJ 19 rfl rfl rfl (by kernel_rfl) ?_;refine qJ 20 rfl rfl rfl (by kernel_rfl) ?_;refine qI [21] (by kernel_rfl) rfl ?_;refine qO (by kernel_rfl) ?_;exact ⟨(),trivial,qV rfl ⟨rfl,rfl,rfl,rfl,rfl⟩ rfl⟩
          ·refine qI [4] (by kernel_rfl) rfl ?_;refine qI [18] (by kernel_rfl) rfl ?_;refine zai (by first|exact qQ (by first|omega|(simp only [List.length_cons,List.length_nil];omega)|(simp;omega)) (by decide)|omega|assumption|decide|(simp only [zds];omega)|(simp <;> omega)) ?_;refine qJ 19 rfl rfl rfl (by kernel_rfl) ?_;refine qJ 20 rfl rfl rfl (by kernel_rfl) ?_;refine qI [21] (by kernel_rfl) rfl ?_;refine qO (by kernel_rfl) ?_;exact ⟨(),trivial,qV rfl ⟨rfl,rfl,rfl,rfl,rfl⟩ rfl⟩
      ·refine qI [4,9] (by kernel_rfl) rfl ?_;refine zai ?_ ?_
       ·refine qI [9] (by kernel_rfl) rfl ?_;refine qI [10] (by kernel_rfl) rfl ?_;refine Or.inl ?_;refine zai (rfl) ?_;refine zei _ (zai (join_c q.blk ⟨#[10]⟩ (Nat.le_trans hb2.blk (by decide)) (Nat.le_trans (join_sz q.blk) (by have:=hb2.blk;have:=hb2.blb;omega))) ?_);refine qJ 11 rfl rfl rfl (by kernel_rfl) ?_;refine zai (by (have hk0 : ByteArray.size { data:=#[10] } = 1:=rfl;first|(unfold maxLen;omega)|(simp only [];omega)|(unfold maxLen;(try simp only []);omega))) ?_;refine qI [16] (by kernel_rfl) rfl ?_;refine qI [17] (by kernel_rfl) rfl ?_;refine qI [18] (by kernel_rfl) rfl ?_;refine zai (by first|exact qQ (by first|omega|(simp only [List.length_cons,List.length_nil];omega)|(simp;omega)) (by decide)|omega|assumption|decide|(simp only [zds];omega)|(simp <;> omega)) ?_;refine qJ 19 rfl rfl rfl (by kernel_rfl) ?_;refine qJ 20 rfl rfl rfl (by kernel_rfl) ?_;refine qI [21] (by kernel_rfl) rfl ?_;refine qO (by kernel_rfl) ?_;exact ⟨(),trivial,qV rfl ⟨rfl,rfl,rfl,rfl,rfl⟩ rfl⟩
       ·refine qI [4,10] (by kernel_rfl) rfl ?_;refine zai ?_ ?_
        ·refine qI [10] (by kernel_rfl) rfl ?_;refine Or.inl ?_;refine zai (rfl) ?_;refine zei _ (zai (join_c q.blk ⟨#[10]⟩ (Nat.le_trans hb2.blk (by decide)) (Nat.le_trans (join_sz q.blk) (by have:=hb2.blk;have:=hb2.blb;omega))) ?_);refine qJ 11 rfl rfl rfl (by kernel_rfl) ?_;refine zai (by (have hk0 : ByteArray.size { data:=#[10] } = 1:=rfl;first|(unfold maxLen;omega)|(simp only [];omega)|(unfold maxLen;(try simp only []);omega))) ?_;refine qI [16] (by kernel_rfl) rfl ?_;refine qI [17] (by kernel_rfl) rfl ?_;refine qI [18] (by kernel_rfl) rfl ?_;refine zai (by first|exact qQ (by first|omega|(simp only [List.length_cons,List.length_nil];omega)|(simp;omega)) (by decide)|omega|assumption|decide|(simp only [zds];omega)|(simp <;> omega)) ?_;refine qJ 19 rfl rfl rfl (by kernel_rfl) ?_;refine qJ 20 rfl rfl rfl (by kernel_rfl) ?_;refine qI [21] (by kernel_rfl) rfl ?_;refine qO (by kernel_rfl) ?_;exact ⟨(),trivial,qV rfl ⟨rfl,rfl,rfl,rfl,rfl⟩ rfl⟩
        ·refine Or.inl ?_;refine zai (rfl) ?_;refine zei _ (zai (join_c q.blk ⟨#[10]⟩ (Nat.le_trans hb2.blk (by decide)) (Nat.le_trans (join_sz q.blk) (by have:=hb2.blk;have:=hb2.blb;omega))) ?_);refine qJ 11 rfl rfl rfl (by kernel_rfl) ?_;refine zai (by (have hk0 : ByteArray.size { data:=#[10] } = 1:=rfl;first|(unfold maxLen;omega)|(simp only [];omega)|(unfold maxLen;(try simp only []);omega))) ?_;refine qI [4,16] (by kernel_rfl) rfl ?_;refine zai ?_ ?_
         ·refine qI [16] (by kernel_rfl) rfl ?_;refine qI [17] (by kernel_rfl) rfl ?_;refine qI [18] (by kernel_rfl) rfl ?_;refine zai (by first|exact qQ (by first|omega|(simp only [List.length_cons,List.length_nil];omega)|(simp;omega)) (by decide)|omega|assumption|decide|(simp only [zds];omega)|(simp <;> omega)) ?_;refine qJ 19 rfl rfl rfl (by kernel_rfl) ?_;refine qJ 20 rfl rfl rfl (by kernel_rfl) ?_;refine qI [21] (by kernel_rfl) rfl ?_;refine qO (by kernel_rfl) ?_;exact ⟨(),trivial,qV rfl ⟨rfl,rfl,rfl,rfl,rfl⟩ rfl⟩
         ·refine qI [4,17] (by kernel_rfl) rfl ?_;refine zai ?_ ?_
          ·refine qI [17] (by kernel_rfl) rfl ?_;refine qI [18] (by kernel_rfl) rfl ?_;refine zai (by first|exact qQ (by first|omega|(simp only [List.length_cons,List.length_nil];omega)|(simp;omega)) (by decide)|omega|assumption|decide|(simp only [zds];omega)|(simp <;> omega)) ?_;refine qJ 19 rfl rfl rfl (by kernel_rfl) ?_;refine qJ 20 rfl rfl rfl (by kernel_rfl) ?_;refine qI [21] (by kernel_rfl) rfl ?_;refine qO (by kernel_rfl) ?_;exact ⟨(),trivial,qV rfl ⟨rfl,rfl,rfl,rfl,rfl⟩ rfl⟩
          ·refine qI [4] (by kernel_rfl) rfl ?_;refine qI [18] (by kernel_rfl) rfl ?_;refine zai (by first|exact qQ (by first|omega|(simp only [List.length_cons,List.length_nil];omega)|(simp;omega)) (by decide)|omega|assumption|decide|(simp only [zds];omega)|(simp <;> omega)) ?_;refine qJ 19 rfl rfl rfl (by kernel_rfl) ?_;refine qJ 20 rfl rfl rfl (by kernel_rfl) ?_;refine qI [21] (by kernel_rfl) rfl ?_;refine qO (by kernel_rfl) ?_;exact ⟨(),trivial,qV rfl ⟨rfl,rfl,rfl,rfl,rfl⟩ rfl⟩
    ·try simp only [decide_eq_false_iff_not,Int.not_lt] at h15
     try simp only [zds] at h15
     exact absurd (List.eq_nil_of_length_eq_zero (by omega)) hq
   ·intro u hcut10;refine qC ?_;refine qB ?_;refine qC ?_;refine yD 0 4 9 .str rfl rfl rfl ?_;refine acode_swap 3 5 rfl rfl ?_;refine yD 0 5 82 rFld rfl rfl rfl ?_;refine acode_swap 4 6 rfl rfl ?_;refine qB ?_;refine qL ?_;exact ⟨rfl,⟨rfl,rfl,rfl,rfl,rfl⟩,rfl⟩
theorem end_ok {p q : PSt} (h : endS p = .inr q) (hb : PB p 1000000) : qR Tryz.prog 98 [.one (.own 0 0)] (psO p) 5 (.one (.lit .nilIface)) (psO q) 5:=by
  unfold endS at h;split at h
  · cases h
  · rename_i r e;cases h;have hb2 : PB r 2000000:=(flushS_B hb e).mono (by decide);unfold xF;split
    · rename_i h0;exact end_nil e h0 hb
    · rename_i h0;exact end_blk e h0 hb hb2
theorem end_err {p : PSt} {at_ n : Int} (h : endS p = .inl (at_,n)) (hb : PB p 1000000) : qR Tryz.prog 98 [.one (.own 0 0)] (psO p) 5 (.one (errF at_ n)) [] 5:=by
  have h : yH p = .inl (at_,n):=by
    unfold endS at h;split at h
    · rename_i e;cases h;exact e
    · cases h
  refine qP (rs:=[2]) Tryz.func98 rfl rfl rfl teOk (by decide) rfl ?_;refine qC ?_;refine qB ?_;refine qC ?_;refine qC ?_;refine qB ?_;refine Or.inr (Or.inl (zei [] (zei [0,1,2,3,4] (zei _ (zei _ (zei _ (zei _ (zei _ (zai (flush_err h hb) (zai rfl (zai (zai (zai rfl rfl) (zai (zai rfl rfl) (zai (zai rfl rfl) (zai (zai rfl rfl) (zai (zai rfl rfl) True.intro))))) (zai rfl ?_))))))))))));refine qC ?_;refine qB ?_;refine qK rfl (fun h8=>?_) (fun h8=>?_)
  ·skip
   refine qC ?_;refine qB ?_;refine qL ?_;exact ⟨rfl,trivial,rfl⟩
  ·try simp only [zbq] at h8
   try simp only [zds] at h8
   cases h8
end Q
end Ab
end Go.Proofs.YtpfkncffaanjcaaGreatDoor
