/- Functions of the program as plain functions, and that they are that. -/
import Derived.Test.YtlhknehkcflkgaaAbK
set_option autoImplicit false
set_option maxRecDepth 100000
set_option linter.unusedVariables false
namespace Go.Proofs.Ytlhknehkcflkgaa
open Go Ab
def sg102 : Ab.Sig := ⟨[(false, 27), (false, 3), (false, 3)], [(4, [false])], [], false, false, []⟩
noncomputable def T102 : List (Nat × Ab.Spec reg) := []
/-! ### ref01_Span: function 102 -/
noncomputable def ref01_Span.f (k : Nat) (s : T.Span) (low : Int) (high : Int) : Option (Bool) := sel (decide (low ≤ s.Low)) (sel (decide (s.Low ≤ s.High)) (some (decide (s.High ≤ high))) (some (Bool.false))) (some (Bool.false))
noncomputable def ref01_Span.ann (k : Nat) : Ann reg (Bool) := .none
theorem ref01_Span.obl (k : Nat) : obl (sigs T102) (orc reg T102 (Bool)) k (bodyOf Go.Proofs.Try.f102) (ref01_Span.ann k) (kont0 reg sg102 Go.Proofs.Try.f102.results.toList) :=
  obl_none
theorem ref01_Span.eq (k : Nat) (s : T.Span) (low : Int) (high : Int) : evFn reg (sigs T102) sg102 Go.Proofs.Try.f102 (orc reg T102 (Bool)) k (ref01_Span.ann k) (s, low, high) = ref01_Span.f k s low high := by kernel_rfl
noncomputable def ref01_Span (s : T.Span) (low : Int) (high : Int) : Option (Bool) := ref01_Span.f K s low high
noncomputable def e102 : Ab.Spec reg := ⟨sg102, fun (s, low, high) => ref01_Span s low high⟩
theorem ok102 : EntryOk Go.Proofs.Try.prog 102 e102 :=
  entry_ok (T := T102) (fnsOk_nil regOk) mixed (fn := Go.Proofs.Try.f102) (by kernel_rfl) (by decide) (by kernel_rfl) (ref01_Span.obl K) (fun (s, low, high) => ref01_Span.eq K s low high)
def sg88 : Ab.Sig := ⟨[(false, 31)], [(52, [false])], [], false, false, []⟩
noncomputable def T88 : List (Nat × Ab.Spec reg) := [(102, e102)]
/-! ### ref01_Check: function 88 -/
@[reducible] def ref01_Check.c2 : Carry := []
noncomputable def ref01_Check.j2 (k : Nat) : Unit → Option (Int) := fun (()) => some (0)
@[reducible] def ref01_Check.c1 : Carry := [(.tmp 5, .int .i64), (.tmp 1, .ptr 1 0 2), (.cell 1 1, .sl 89), (.cell 1 0, .sl 108)]
noncomputable def ref01_Check.j1 (k : Nat) : Nat → Int × PUnit × (List T.Road) × (List T.Place) → Option (Int)
  | 0, _ => none
  | it + 1, (i, (), m_Roads, m_Places) => sel (decide (i < (↑m_Roads.length : Int))) (sel (decide (0 ≤ i)) (sel (decide (i < (↑m_Roads.length : Int))) (sel (decide ((rd m_Roads i.toNat default).From < 0)) (some (4)) (sel (decide ((rd m_Roads i.toNat default).From ≥ (↑m_Places.length : Int))) (some (4)) (sel (decide ((rd m_Roads i.toNat default).To < 0)) (some (4)) (sel (decide ((rd m_Roads i.toNat default).To ≥ (↑m_Places.length : Int))) (some (4)) (sel ((rd m_Roads i.toNat default).From == (rd m_Roads i.toNat default).To) (some (4)) (sel (decide ((rd m_Roads i.toNat default).Length < 1)) (some (1)) (sel (decide ((rd m_Roads i.toNat default).Length > 100000)) (some (1)) (sel (decide ((rd m_Roads i.toNat default).Area < 1)) (some (1)) (sel (decide ((rd m_Roads i.toNat default).Area > 1000)) (some (1)) (obind (ref01_Span (rd m_Roads i.toNat default).Rest 1 262144) fun r12 => sel (!r12) (some (1)) (obind (ref01_Span (rd m_Roads i.toNat default).Lift (-2199023255552) 2199023255552) fun r14 => sel (!r14) (some (1)) ((ref01_Check.j1 k it) (w64 (i + 1), (), m_Roads, m_Places))))))))))))) (none)) (none)) (ref01_Check.j2 k ())
@[reducible] def ref01_Check.c3 : Carry := [(.tmp 1, .ptr 1 0 2), (.cell 1 1, .sl 89), (.cell 1 0, .sl 108)]
noncomputable def ref01_Check.j3 (k : Nat) : PUnit × (List T.Road) × (List T.Place) → Option (Int) := fun ((), m_Roads, m_Places) => ref01_Check.j1 k k (0, (), m_Roads, m_Places)
@[reducible] def ref01_Check.c0 : Carry := [(.tmp 3, .int .i64), (.tmp 1, .ptr 1 0 2), (.cell 1 1, .sl 89), (.cell 1 0, .sl 108)]
noncomputable def ref01_Check.j0 (k : Nat) : Nat → Int × PUnit × (List T.Road) × (List T.Place) → Option (Int)
  | 0, _ => none
  | it + 1, (i, (), m_Roads, m_Places) => sel (decide (i < (↑m_Places.length : Int))) (sel (decide (0 ≤ i)) (sel (decide (i < (↑m_Places.length : Int))) (sel (decide ((rd m_Places i.toNat default).Height < -10000)) (some (1)) (sel (decide ((rd m_Places i.toNat default).Height > 10000)) (some (1)) ((ref01_Check.j0 k it) (w64 (i + 1), (), m_Roads, m_Places)))) (none)) (none)) (ref01_Check.j3 k ((), m_Roads, m_Places))
noncomputable def ref01_Check.f (k : Nat) (m : T.Mine) : Option (Int) := sel (decide ((↑m.Places.length : Int) > 64)) (some (2)) (sel (decide ((↑m.Roads.length : Int) > 128)) (some (2)) (ref01_Check.j0 k k (0, (), m.Roads, m.Places)))
noncomputable def ref01_Check.ann (k : Nat) : Ann reg (Int) := (.seq .none (.seq .none (.join ref01_Check.c3 (ref01_Check.j3 k) (.seq .none (.block (.loop ref01_Check.c0 (ref01_Check.j0 k) fun g0 => .none))) (.join ref01_Check.c2 (ref01_Check.j2 k) (.seq .none (.block (.loop ref01_Check.c1 (ref01_Check.j1 k) fun g1 => .none))) .none))))
theorem ref01_Check.obl (k : Nat) : obl (sigs T88) (orc reg T88 (Int)) k (bodyOf Go.Proofs.Try.f88) (ref01_Check.ann k) (kont0 reg sg88 Go.Proofs.Try.f88.results.toList) :=
  (obl_seq obl_none (obl_seq obl_none (obl_join (obl_seq obl_none (obl_block (obl_loop (fun _ => by kernel_rfl) (fun n ⟨i, (), m_Roads, m_Places⟩ => by kernel_rfl) fun n => obl_none))) (fun ⟨(), m_Roads, m_Places⟩ => by kernel_rfl) (obl_join (obl_seq obl_none (obl_block (obl_loop (fun _ => by kernel_rfl) (fun n ⟨i, (), m_Roads, m_Places⟩ => by kernel_rfl) fun n => obl_none))) (fun () => by kernel_rfl) obl_none))))
theorem ref01_Check.eq (k : Nat) (m : T.Mine) : evFn reg (sigs T88) sg88 Go.Proofs.Try.f88 (orc reg T88 (Int)) k (ref01_Check.ann k) (m) = ref01_Check.f k m := by kernel_rfl
noncomputable def ref01_Check (m : T.Mine) : Option (Int) := ref01_Check.f K m
noncomputable def e88 : Ab.Spec reg := ⟨sg88, fun (m) => ref01_Check m⟩
theorem ok88 : EntryOk Go.Proofs.Try.prog 88 e88 :=
  entry_ok (T := T88) (fnsOk_cons ok102 (fnsOk_nil regOk)) mixed (fn := Go.Proofs.Try.f88) (by kernel_rfl) (by decide) (by kernel_rfl) (ref01_Check.obl K) (fun (m) => ref01_Check.eq K m)
def sg89 : Ab.Sig := ⟨[(false, 147)], [(52, [false])], [], false, false, []⟩
noncomputable def T89 : List (Nat × Ab.Spec reg) := []
/-! ### ref07_Check: function 89 -/
@[reducible] def ref07_Check.c1 : Carry := []
noncomputable def ref07_Check.j1 (k : Nat) : Unit → Option (Int) := fun (()) => some (0)
@[reducible] def ref07_Check.c0 : Carry := [(.tmp 3, .int .i64), (.tmp 1, .ptr 1 0 4), (.cell 1 3, .sl 168)]
noncomputable def ref07_Check.j0 (k : Nat) : Nat → Int × PUnit × (List T.Point) → Option (Int)
  | 0, _ => none
  | it + 1, (i, (), f_Curve) => sel (decide (i < (↑f_Curve.length : Int))) (sel (decide (0 ≤ i)) (sel (decide (i < (↑f_Curve.length : Int))) (sel (decide ((rd f_Curve i.toNat default).Flow < -1048576)) (some (1)) (sel (decide ((rd f_Curve i.toNat default).Flow > 1048576)) (some (1)) (sel (decide ((rd f_Curve i.toNat default).Pressure < 0)) (some (1)) (sel (decide ((rd f_Curve i.toNat default).Pressure > 2199023255552)) (some (1)) (sel (decide (i > 0)) (sel (decide (0 ≤ w64 (i - 1))) (sel (decide (w64 (i - 1) < (↑f_Curve.length : Int))) (sel (decide ((rd f_Curve i.toNat default).Flow ≤ (rd f_Curve (w64 (i - 1)).toNat default).Flow)) (some (14)) (sel (decide (0 ≤ w64 (i - 1))) (sel (decide (w64 (i - 1) < (↑f_Curve.length : Int))) (sel (decide ((rd f_Curve i.toNat default).Pressure > (rd f_Curve (w64 (i - 1)).toNat default).Pressure)) (some (14)) ((ref07_Check.j0 k it) (w64 (i + 1), (), f_Curve))) (none)) (none))) (none)) (none)) ((ref07_Check.j0 k it) (w64 (i + 1), (), f_Curve))))))) (none)) (none)) (ref07_Check.j1 k ())
noncomputable def ref07_Check.f (k : Nat) (f : T.Fan) : Option (Int) := sel (decide (f.Road < 0)) (some (4)) (sel (decide ((↑f.Curve.length : Int) < 1)) (some (2)) (sel (decide ((↑f.Curve.length : Int) > 8)) (some (2)) (ref07_Check.j0 k k (0, (), f.Curve))))
noncomputable def ref07_Check.ann (k : Nat) : Ann reg (Int) := (.seq .none (.seq .none (.seq .none (.join ref07_Check.c1 (ref07_Check.j1 k) (.seq .none (.block (.loop ref07_Check.c0 (ref07_Check.j0 k) fun g0 => .none))) .none))))
theorem ref07_Check.obl (k : Nat) : obl (sigs T89) (orc reg T89 (Int)) k (bodyOf Go.Proofs.Try.f89) (ref07_Check.ann k) (kont0 reg sg89 Go.Proofs.Try.f89.results.toList) :=
  (obl_seq obl_none (obl_seq obl_none (obl_seq obl_none (obl_join (obl_seq obl_none (obl_block (obl_loop (fun _ => by kernel_rfl) (fun n ⟨i, (), f_Curve⟩ => by kernel_rfl) fun n => obl_none))) (fun () => by kernel_rfl) obl_none))))
theorem ref07_Check.eq (k : Nat) (f : T.Fan) : evFn reg (sigs T89) sg89 Go.Proofs.Try.f89 (orc reg T89 (Int)) k (ref07_Check.ann k) (f) = ref07_Check.f k f := by kernel_rfl
noncomputable def ref07_Check (f : T.Fan) : Option (Int) := ref07_Check.f K f
noncomputable def e89 : Ab.Spec reg := ⟨sg89, fun (f) => ref07_Check f⟩
theorem ok89 : EntryOk Go.Proofs.Try.prog 89 e89 :=
  entry_ok (T := T89) (fnsOk_nil regOk) mixed (fn := Go.Proofs.Try.f89) (by kernel_rfl) (by decide) (by kernel_rfl) (ref07_Check.obl K) (fun (f) => ref07_Check.eq K f)
def sg90 : Ab.Sig := ⟨[(false, 33)], [(52, [false])], [], false, false, []⟩
noncomputable def T90 : List (Nat × Ab.Spec reg) := []
/-! ### ref08_Check: function 90 -/
@[reducible] def ref08_Check.c6 : Carry := []
noncomputable def ref08_Check.j6 (k : Nat) : Unit → Option (Int) := fun (()) => some (0)
@[reducible] def ref08_Check.c5 : Carry := [(.tmp 3, .int .i64), (.tmp 0, .sl 149)]
noncomputable def ref08_Check.j5 (k : Nat) (g0 : Int × (List T.Door) → Option (Int)) : Int × (List T.Door) → Option (Int) := fun (i, l_5) => g0 (w64 (i + 1), l_5)
@[reducible] def ref08_Check.c3 : Carry := [(.cell 4 1, .int .i64), (.tmp 4, .ptr 4 0 3), (.tmp 3, .int .i64), (.tmp 0, .sl 149)]
noncomputable def ref08_Check.j3 (k : Nat) (g0 : Int × (List T.Door) → Option (Int)) : Int × PUnit × Int × (List T.Door) → Option (Int) := fun (d_Other, (), i, l_3) => sel (d_Other != -1) (sel (decide (d_Other < 0)) (some (15)) (sel (decide (d_Other ≥ (↑l_3.length : Int))) (some (15)) (sel (d_Other == i) (some (15)) (sel (decide (0 ≤ d_Other)) (sel (decide (d_Other < (↑l_3.length : Int))) (sel ((rd l_3 d_Other.toNat default).Other != i) (some (15)) (ref08_Check.j5 k g0 (i, l_3))) (none)) (none))))) (ref08_Check.j5 k g0 (i, l_3))
@[reducible] def ref08_Check.c2 : Carry := [(.tmp 6, .int .i64), (.cell 4 2, .sl 3), (.cell 4 1, .int .i64), (.tmp 4, .ptr 4 0 3), (.tmp 3, .int .i64), (.tmp 0, .sl 149)]
noncomputable def ref08_Check.j2 (k : Nat) (g0 : Int × (List T.Door) → Option (Int)) : Nat → Int × (List Int) × Int × PUnit × Int × (List T.Door) → Option (Int)
  | 0, _ => none
  | it + 1, (k_, d_Rests, d_Other, (), i, l_2) => sel (decide (k_ < (↑d_Rests.length : Int))) (sel (decide (0 ≤ k_)) (sel (decide (k_ < (↑d_Rests.length : Int))) (sel (decide (0 ≤ w64 (k_ - 1))) (sel (decide (w64 (k_ - 1) < (↑d_Rests.length : Int))) (sel (decide (rd d_Rests k_.toNat default ≥ rd d_Rests (w64 (k_ - 1)).toNat default)) (some (15)) ((ref08_Check.j2 k g0 it) (w64 (k_ + 1), d_Rests, d_Other, (), i, l_2))) (none)) (none)) (none)) (none)) (ref08_Check.j3 k g0 (d_Other, (), i, l_2))
@[reducible] def ref08_Check.c4 : Carry := [(.cell 4 2, .sl 3), (.cell 4 1, .int .i64), (.tmp 4, .ptr 4 0 3), (.tmp 3, .int .i64), (.tmp 0, .sl 149)]
noncomputable def ref08_Check.j4 (k : Nat) (g0 : Int × (List T.Door) → Option (Int)) : (List Int) × Int × PUnit × Int × (List T.Door) → Option (Int) := fun (d_Rests, d_Other, (), i, l_4) => ref08_Check.j2 k g0 k (1, d_Rests, d_Other, (), i, l_4)
@[reducible] def ref08_Check.c1 : Carry := [(.tmp 5, .int .i64), (.cell 4 2, .sl 3), (.cell 4 1, .int .i64), (.tmp 4, .ptr 4 0 3), (.tmp 3, .int .i64), (.tmp 0, .sl 149)]
noncomputable def ref08_Check.j1 (k : Nat) (g0 : Int × (List T.Door) → Option (Int)) : Nat → Int × (List Int) × Int × PUnit × Int × (List T.Door) → Option (Int)
  | 0, _ => none
  | it + 1, (k_, d_Rests, d_Other, (), i, l_1) => sel (decide (k_ < (↑d_Rests.length : Int))) (sel (decide (0 ≤ k_)) (sel (decide (k_ < (↑d_Rests.length : Int))) (sel (decide (rd d_Rests k_.toNat default < 0)) (some (1)) (sel (decide (0 ≤ k_)) (sel (decide (k_ < (↑d_Rests.length : Int))) (sel (decide (rd d_Rests k_.toNat default > 262144)) (some (1)) ((ref08_Check.j1 k g0 it) (w64 (k_ + 1), d_Rests, d_Other, (), i, l_1))) (none)) (none))) (none)) (none)) (ref08_Check.j4 k g0 (d_Rests, d_Other, (), i, l_1))
@[reducible] def ref08_Check.c0 : Carry := [(.tmp 3, .int .i64), (.tmp 0, .sl 149)]
noncomputable def ref08_Check.j0 (k : Nat) : Nat → Int × (List T.Door) → Option (Int)
  | 0, _ => none
  | it + 1, (i, l_0) => sel (decide (i < (↑l_0.length : Int))) (sel (decide (0 ≤ i)) (sel (decide (i < (↑l_0.length : Int))) (sel (decide ((rd l_0 i.toNat default).Road < 0)) (some (4)) (sel (decide ((↑(rd l_0 i.toNat default).Rests.length : Int) < 2)) (some (2)) (sel (decide ((↑(rd l_0 i.toNat default).Rests.length : Int) > 6)) (some (2)) (ref08_Check.j1 k (ref08_Check.j0 k it) k (0, (rd l_0 i.toNat default).Rests, (rd l_0 i.toNat default).Other, (), i, l_0))))) (none)) (none)) (ref08_Check.j6 k ())
noncomputable def ref08_Check.f (k : Nat) (l : List T.Door) : Option (Int) := sel (decide ((↑l.length : Int) > 16)) (some (2)) (ref08_Check.j0 k k (0, l))
noncomputable def ref08_Check.ann (k : Nat) : Ann reg (Int) := (.seq .none (.seq .none (.join ref08_Check.c6 (ref08_Check.j6 k) (.seq .none (.block (.loop ref08_Check.c0 (ref08_Check.j0 k) fun g0 => (.seq .none (.join ref08_Check.c5 (ref08_Check.j5 k g0) (.block (.seq .none (.seq .none (.seq .none (.join ref08_Check.c4 (ref08_Check.j4 k g0) (.seq .none (.block (.loop ref08_Check.c1 (ref08_Check.j1 k g0) fun g1 => .none))) (.join ref08_Check.c3 (ref08_Check.j3 k g0) (.seq .none (.block (.loop ref08_Check.c2 (ref08_Check.j2 k g0) fun g2 => .none))) .none)))))) .none))))) .none)))
theorem ref08_Check.obl (k : Nat) : obl (sigs T90) (orc reg T90 (Int)) k (bodyOf Go.Proofs.Try.f90) (ref08_Check.ann k) (kont0 reg sg90 Go.Proofs.Try.f90.results.toList) :=
  (obl_seq obl_none (obl_seq obl_none (obl_join (obl_seq obl_none (obl_block (obl_loop (fun _ => by kernel_rfl) (fun n ⟨i, l_0⟩ => by kernel_rfl) fun n => (obl_seq obl_none (obl_join (obl_block (obl_seq obl_none (obl_seq obl_none (obl_seq obl_none (obl_join (obl_seq obl_none (obl_block (obl_loop (fun _ => by kernel_rfl) (fun n ⟨k_, d_Rests, d_Other, (), i, l_1⟩ => by kernel_rfl) fun n => obl_none))) (fun ⟨d_Rests, d_Other, (), i, l_4⟩ => by kernel_rfl) (obl_join (obl_seq obl_none (obl_block (obl_loop (fun _ => by kernel_rfl) (fun n ⟨k_, d_Rests, d_Other, (), i, l_2⟩ => by kernel_rfl) fun n => obl_none))) (fun ⟨d_Other, (), i, l_3⟩ => by kernel_rfl) obl_none)))))) (fun ⟨i, l_5⟩ => by kernel_rfl) obl_none))))) (fun () => by kernel_rfl) obl_none)))
theorem ref08_Check.eq (k : Nat) (l : List T.Door) : evFn reg (sigs T90) sg90 Go.Proofs.Try.f90 (orc reg T90 (Int)) k (ref08_Check.ann k) (l) = ref08_Check.f k l := by kernel_rfl
noncomputable def ref08_Check (l : List T.Door) : Option (Int) := ref08_Check.f K l
noncomputable def e90 : Ab.Spec reg := ⟨sg90, fun (l) => ref08_Check l⟩
theorem ok90 : EntryOk Go.Proofs.Try.prog 90 e90 :=
  entry_ok (T := T90) (fnsOk_nil regOk) mixed (fn := Go.Proofs.Try.f90) (by kernel_rfl) (by decide) (by kernel_rfl) (ref08_Check.obl K) (fun (l) => ref08_Check.eq K l)
def sg67 : Ab.Sig := ⟨[(false, 35)], [(52, [false])], [], false, false, []⟩
noncomputable def T67 : List (Nat × Ab.Spec reg) := [(88, e88), (89, e89), (90, e90)]
/-! ### ref09_Check: function 67 -/
@[reducible] def ref09_Check.c2 : Carry := []
noncomputable def ref09_Check.j2 (k : Nat) : Unit → Option (Int) := fun (()) => some (0)
@[reducible] def ref09_Check.c1 : Carry := [(.tmp 7, .int .i64), (.tmp 1, .ptr 1 0 4), (.cell 1 3, .sl 149), (.cell 1 1, .sl 89)]
noncomputable def ref09_Check.j1 (k : Nat) : Nat → Int × PUnit × (List T.Door) × (List T.Road) → Option (Int)
  | 0, _ => none
  | it + 1, (i, (), a_Doors, a_Mine_Roads) => sel (decide (i < (↑a_Doors.length : Int))) (sel (decide (0 ≤ i)) (sel (decide (i < (↑a_Doors.length : Int))) (sel (decide ((rd a_Doors i.toNat default).Road ≥ (↑a_Mine_Roads.length : Int))) (some (4)) ((ref09_Check.j1 k it) (w64 (i + 1), (), a_Doors, a_Mine_Roads))) (none)) (none)) (ref09_Check.j2 k ())
@[reducible] def ref09_Check.c3 : Carry := [(.tmp 1, .ptr 1 0 4), (.cell 1 3, .sl 149), (.cell 1 1, .sl 89)]
noncomputable def ref09_Check.j3 (k : Nat) : PUnit × (List T.Door) × (List T.Road) → Option (Int) := fun ((), a_Doors, a_Mine_Roads) => obind (ref08_Check a_Doors) fun r0 => sel (r0 != 0) (some (r0)) (ref09_Check.j1 k k (0, (), a_Doors, a_Mine_Roads))
@[reducible] def ref09_Check.c0 : Carry := [(.tmp 4, .int .i64), (.tmp 1, .ptr 1 0 4), (.cell 1 3, .sl 149), (.cell 1 2, .sl 147), (.cell 1 1, .sl 89)]
noncomputable def ref09_Check.j0 (k : Nat) : Nat → Int × PUnit × (List T.Door) × (List T.Fan) × (List T.Road) → Option (Int)
  | 0, _ => none
  | it + 1, (i, (), a_Doors, a_Fans, a_Mine_Roads) => sel (decide (i < (↑a_Fans.length : Int))) (sel (decide (0 ≤ i)) (sel (decide (i < (↑a_Fans.length : Int))) (obind (ref07_Check (rd a_Fans i.toNat default)) fun r3 => sel (r3 != 0) (some (r3)) (sel (decide (0 ≤ i)) (sel (decide (i < (↑a_Fans.length : Int))) (sel (decide ((rd a_Fans i.toNat default).Road ≥ (↑a_Mine_Roads.length : Int))) (some (4)) ((ref09_Check.j0 k it) (w64 (i + 1), (), a_Doors, a_Fans, a_Mine_Roads))) (none)) (none))) (none)) (none)) (ref09_Check.j3 k ((), a_Doors, a_Mine_Roads))
noncomputable def ref09_Check.f (k : Nat) (a : T.Air) : Option (Int) := obind (ref01_Check a.Mine) fun r0 => sel (r0 != 0) (some (r0)) (sel (decide ((↑a.Fans.length : Int) > 8)) (some (2)) (ref09_Check.j0 k k (0, (), a.Doors, a.Fans, a.Mine.Roads)))
noncomputable def ref09_Check.ann (k : Nat) : Ann reg (Int) := (.seq .none (.seq .none (.seq .none (.join ref09_Check.c3 (ref09_Check.j3 k) (.seq .none (.block (.loop ref09_Check.c0 (ref09_Check.j0 k) fun g0 => .none))) (.seq .none (.join ref09_Check.c2 (ref09_Check.j2 k) (.seq .none (.block (.loop ref09_Check.c1 (ref09_Check.j1 k) fun g1 => .none))) .none))))))
theorem ref09_Check.obl (k : Nat) : obl (sigs T67) (orc reg T67 (Int)) k (bodyOf Go.Proofs.Try.f67) (ref09_Check.ann k) (kont0 reg sg67 Go.Proofs.Try.f67.results.toList) :=
  (obl_seq obl_none (obl_seq obl_none (obl_seq obl_none (obl_join (obl_seq obl_none (obl_block (obl_loop (fun _ => by kernel_rfl) (fun n ⟨i, (), a_Doors, a_Fans, a_Mine_Roads⟩ => by kernel_rfl) fun n => obl_none))) (fun ⟨(), a_Doors, a_Mine_Roads⟩ => by kernel_rfl) (obl_seq obl_none (obl_join (obl_seq obl_none (obl_block (obl_loop (fun _ => by kernel_rfl) (fun n ⟨i, (), a_Doors, a_Mine_Roads⟩ => by kernel_rfl) fun n => obl_none))) (fun () => by kernel_rfl) obl_none))))))
theorem ref09_Check.eq (k : Nat) (a : T.Air) : evFn reg (sigs T67) sg67 Go.Proofs.Try.f67 (orc reg T67 (Int)) k (ref09_Check.ann k) (a) = ref09_Check.f k a := by kernel_rfl
noncomputable def ref09_Check (a : T.Air) : Option (Int) := ref09_Check.f K a
noncomputable def e67 : Ab.Spec reg := ⟨sg67, fun (a) => ref09_Check a⟩
theorem ok67 : EntryOk Go.Proofs.Try.prog 67 e67 :=
  entry_ok (T := T67) (fnsOk_cons ok88 (fnsOk_cons ok89 (fnsOk_cons ok90 (fnsOk_nil regOk)))) mixed (fn := Go.Proofs.Try.f67) (by kernel_rfl) (by decide) (by kernel_rfl) (ref09_Check.obl K) (fun (a) => ref09_Check.eq K a)
def sg103 : Ab.Sig := ⟨[(false, 3), (false, 3), (false, 3)], [(4, [false])], [], false, false, []⟩
noncomputable def T103 : List (Nat × Ab.Spec reg) := []
/-! ### ref05_in: function 103 -/
noncomputable def ref05_in.f (k : Nat) (n : Int) (low : Int) (high : Int) : Option (Bool) := sel (decide (low ≤ n)) (some (decide (n ≤ high))) (some (Bool.false))
noncomputable def ref05_in.ann (k : Nat) : Ann reg (Bool) := .none
theorem ref05_in.obl (k : Nat) : obl (sigs T103) (orc reg T103 (Bool)) k (bodyOf Go.Proofs.Try.f103) (ref05_in.ann k) (kont0 reg sg103 Go.Proofs.Try.f103.results.toList) :=
  obl_none
theorem ref05_in.eq (k : Nat) (n : Int) (low : Int) (high : Int) : evFn reg (sigs T103) sg103 Go.Proofs.Try.f103 (orc reg T103 (Bool)) k (ref05_in.ann k) (n, low, high) = ref05_in.f k n low high := by kernel_rfl
noncomputable def ref05_in (n : Int) (low : Int) (high : Int) : Option (Bool) := ref05_in.f K n low high
noncomputable def e103 : Ab.Spec reg := ⟨sg103, fun (n, low, high) => ref05_in n low high⟩
theorem ok103 : EntryOk Go.Proofs.Try.prog 103 e103 :=
  entry_ok (T := T103) (fnsOk_nil regOk) mixed (fn := Go.Proofs.Try.f103) (by kernel_rfl) (by decide) (by kernel_rfl) (ref05_in.obl K) (fun (n, low, high) => ref05_in.eq K n low high)
def sg91 : Ab.Sig := ⟨[(false, 110)], [(52, [false])], [], false, false, []⟩
noncomputable def T91 : List (Nat × Ab.Spec reg) := [(103, e103)]
/-! ### ref05_Check: function 91 -/
noncomputable def ref05_Check.f (k : Nat) (s : T.Sensor) : Option (Int) := obind (ref05_in s.Kind 1 6) fun r0 => sel (!r0) (some (5)) (obind (ref05_in s.Address 0 255) fun r2 => sel (!r2) (some (1)) (sel (decide (s.Target < 0)) (some (1)) (obind (ref05_in s.Offset (-1000000) 1000000) fun r5 => sel (!r5) (some (1)) (obind (ref05_in s.Scale (-1000000) 1000000) fun r7 => sel (!r7) (some (1)) (obind (ref05_in s.Error 0 1000000) fun r9 => sel (!r9) (some (1)) (obind (ref05_in s.Drift 0 1000000) fun r11 => sel (!r11) (some (1)) (obind (ref05_in s.Life 1 1000000) fun r13 => sel (!r13) (some (1)) (some (0)))))))))
noncomputable def ref05_Check.ann (k : Nat) : Ann reg (Int) := .none
theorem ref05_Check.obl (k : Nat) : obl (sigs T91) (orc reg T91 (Int)) k (bodyOf Go.Proofs.Try.f91) (ref05_Check.ann k) (kont0 reg sg91 Go.Proofs.Try.f91.results.toList) :=
  obl_none
theorem ref05_Check.eq (k : Nat) (s : T.Sensor) : evFn reg (sigs T91) sg91 Go.Proofs.Try.f91 (orc reg T91 (Int)) k (ref05_Check.ann k) (s) = ref05_Check.f k s := by kernel_rfl
noncomputable def ref05_Check (s : T.Sensor) : Option (Int) := ref05_Check.f K s
noncomputable def e91 : Ab.Spec reg := ⟨sg91, fun (s) => ref05_Check s⟩
theorem ok91 : EntryOk Go.Proofs.Try.prog 91 e91 :=
  entry_ok (T := T91) (fnsOk_cons ok103 (fnsOk_nil regOk)) mixed (fn := Go.Proofs.Try.f91) (by kernel_rfl) (by decide) (by kernel_rfl) (ref05_Check.obl K) (fun (s) => ref05_Check.eq K s)
def sg68 : Ab.Sig := ⟨[(false, 41)], [(52, [false])], [], false, false, []⟩
noncomputable def T68 : List (Nat × Ab.Spec reg) := [(91, e91)]
/-! ### ref20_sensors: function 68 -/
@[reducible] def ref20_sensors.c5 : Carry := []
noncomputable def ref20_sensors.j5 (k : Nat) : Unit → Option (Int) := fun (()) => some (0)
@[reducible] def ref20_sensors.c4 : Carry := [(.tmp 3, .int .i64), (.tmp 1, .ptr 1 0 8), (.cell 1 4, .sl 110), (.cell 1 3, .sl 149), (.cell 1 2, .sl 147), (.cell 1 1, .sl 89)]
noncomputable def ref20_sensors.j4 (k : Nat) (g0 : Int × PUnit × (List T.Sensor) × (List T.Door) × (List T.Fan) × (List T.Road) → Option (Int)) : Int × PUnit × (List T.Sensor) × (List T.Door) × (List T.Fan) × (List T.Road) → Option (Int) := fun (i, (), s_Sensors, s_Air_Doors, s_Air_Fans, s_Air_Mine_Roads) => g0 (w64 (i + 1), (), s_Sensors, s_Air_Doors, s_Air_Fans, s_Air_Mine_Roads)
@[reducible] def ref20_sensors.c1 : Carry := [(.tmp 7, .int .i64), (.cell 4 0, .int .i64), (.tmp 4, .ptr 4 0 8), (.tmp 3, .int .i64), (.tmp 1, .ptr 1 0 8), (.cell 1 4, .sl 110), (.cell 1 3, .sl 149), (.cell 1 2, .sl 147), (.cell 1 1, .sl 89)]
noncomputable def ref20_sensors.j1 (k : Nat) (g0 : Int × PUnit × (List T.Sensor) × (List T.Door) × (List T.Fan) × (List T.Road) → Option (Int)) : Nat → Int × Int × PUnit × Int × PUnit × (List T.Sensor) × (List T.Door) × (List T.Fan) × (List T.Road) → Option (Int)
  | 0, _ => none
  | it + 1, (k_, x_Address, (), i, (), s_Sensors, s_Air_Doors, s_Air_Fans, s_Air_Mine_Roads) => sel (decide (k_ < i)) (sel (decide (0 ≤ k_)) (sel (decide (k_ < (↑s_Sensors.length : Int))) (sel ((rd s_Sensors k_.toNat default).Address == x_Address) (some (9)) ((ref20_sensors.j1 k g0 it) (w64 (k_ + 1), x_Address, (), i, (), s_Sensors, s_Air_Doors, s_Air_Fans, s_Air_Mine_Roads))) (none)) (none)) (ref20_sensors.j4 k g0 (i, (), s_Sensors, s_Air_Doors, s_Air_Fans, s_Air_Mine_Roads))
@[reducible] def ref20_sensors.c2 : Carry := [(.tmp 6, .int .i64), (.cell 4 2, .int .i64), (.cell 4 0, .int .i64), (.tmp 4, .ptr 4 0 8), (.tmp 3, .int .i64), (.tmp 1, .ptr 1 0 8), (.cell 1 4, .sl 110), (.cell 1 3, .sl 149), (.cell 1 2, .sl 147), (.cell 1 1, .sl 89)]
noncomputable def ref20_sensors.j2 (k : Nat) (g0 : Int × PUnit × (List T.Sensor) × (List T.Door) × (List T.Fan) × (List T.Road) → Option (Int)) : Int × Int × Int × PUnit × Int × PUnit × (List T.Sensor) × (List T.Door) × (List T.Fan) × (List T.Road) → Option (Int) := fun (most, x_Target, x_Address, (), i, (), s_Sensors, s_Air_Doors, s_Air_Fans, s_Air_Mine_Roads) => sel (decide (x_Target ≥ most)) (some (9)) (ref20_sensors.j1 k g0 k (0, x_Address, (), i, (), s_Sensors, s_Air_Doors, s_Air_Fans, s_Air_Mine_Roads))
@[reducible] def ref20_sensors.c3 : Carry := [(.tmp 6, .int .i64), (.cell 4 2, .int .i64), (.cell 4 1, .int .i64), (.cell 4 0, .int .i64), (.tmp 4, .ptr 4 0 8), (.tmp 3, .int .i64), (.tmp 1, .ptr 1 0 8), (.cell 1 4, .sl 110), (.cell 1 3, .sl 149), (.cell 1 2, .sl 147), (.cell 1 1, .sl 89)]
noncomputable def ref20_sensors.j3 (k : Nat) (g0 : Int × PUnit × (List T.Sensor) × (List T.Door) × (List T.Fan) × (List T.Road) → Option (Int)) : Int × Int × Int × Int × PUnit × Int × PUnit × (List T.Sensor) × (List T.Door) × (List T.Fan) × (List T.Road) → Option (Int) := fun (most, x_Target, x_Kind, x_Address, (), i, (), s_Sensors, s_Air_Doors, s_Air_Fans, s_Air_Mine_Roads) => sel (x_Kind == 6) (ref20_sensors.j2 k g0 ((↑s_Air_Doors.length : Int), x_Target, x_Address, (), i, (), s_Sensors, s_Air_Doors, s_Air_Fans, s_Air_Mine_Roads)) (ref20_sensors.j2 k g0 (most, x_Target, x_Address, (), i, (), s_Sensors, s_Air_Doors, s_Air_Fans, s_Air_Mine_Roads))
@[reducible] def ref20_sensors.c0 : Carry := [(.tmp 3, .int .i64), (.tmp 1, .ptr 1 0 8), (.cell 1 4, .sl 110), (.cell 1 3, .sl 149), (.cell 1 2, .sl 147), (.cell 1 1, .sl 89)]
noncomputable def ref20_sensors.j0 (k : Nat) : Nat → Int × PUnit × (List T.Sensor) × (List T.Door) × (List T.Fan) × (List T.Road) → Option (Int)
  | 0, _ => none
  | it + 1, (i, (), s_Sensors, s_Air_Doors, s_Air_Fans, s_Air_Mine_Roads) => sel (decide (i < (↑s_Sensors.length : Int))) (sel (decide (0 ≤ i)) (sel (decide (i < (↑s_Sensors.length : Int))) (obind (ref05_Check (rd s_Sensors i.toNat default)) fun r3 => sel (r3 != 0) (some (r3)) (sel ((rd s_Sensors i.toNat default).Kind == 5) (ref20_sensors.j3 k (ref20_sensors.j0 k it) ((↑s_Air_Fans.length : Int), (rd s_Sensors i.toNat default).Target, (rd s_Sensors i.toNat default).Kind, (rd s_Sensors i.toNat default).Address, (), i, (), s_Sensors, s_Air_Doors, s_Air_Fans, s_Air_Mine_Roads)) (ref20_sensors.j3 k (ref20_sensors.j0 k it) ((↑s_Air_Mine_Roads.length : Int), (rd s_Sensors i.toNat default).Target, (rd s_Sensors i.toNat default).Kind, (rd s_Sensors i.toNat default).Address, (), i, (), s_Sensors, s_Air_Doors, s_Air_Fans, s_Air_Mine_Roads)))) (none)) (none)) (ref20_sensors.j5 k ())
noncomputable def ref20_sensors.f (k : Nat) (s : T.Site) : Option (Int) := ref20_sensors.j0 k k (0, (), s.Sensors, s.Air.Doors, s.Air.Fans, s.Air.Mine.Roads)
noncomputable def ref20_sensors.ann (k : Nat) : Ann reg (Int) := (.seq .none (.join ref20_sensors.c5 (ref20_sensors.j5 k) (.seq .none (.block (.loop ref20_sensors.c0 (ref20_sensors.j0 k) fun g0 => (.seq .none (.join ref20_sensors.c4 (ref20_sensors.j4 k g0) (.block (.seq .none (.seq .none (.seq .none (.join ref20_sensors.c3 (ref20_sensors.j3 k g0) .none (.join ref20_sensors.c2 (ref20_sensors.j2 k g0) .none (.seq .none (.seq .none (.block (.loop ref20_sensors.c1 (ref20_sensors.j1 k g0) fun g1 => .none)))))))))) .none))))) .none))
theorem ref20_sensors.obl (k : Nat) : obl (sigs T68) (orc reg T68 (Int)) k (bodyOf Go.Proofs.Try.f68) (ref20_sensors.ann k) (kont0 reg sg68 Go.Proofs.Try.f68.results.toList) :=
  (obl_seq obl_none (obl_join (obl_seq obl_none (obl_block (obl_loop (fun _ => by kernel_rfl) (fun n ⟨i, (), s_Sensors, s_Air_Doors, s_Air_Fans, s_Air_Mine_Roads⟩ => by kernel_rfl) fun n => (obl_seq obl_none (obl_join (obl_block (obl_seq obl_none (obl_seq obl_none (obl_seq obl_none (obl_join obl_none (fun ⟨most, x_Target, x_Kind, x_Address, (), i, (), s_Sensors, s_Air_Doors, s_Air_Fans, s_Air_Mine_Roads⟩ => by kernel_rfl) (obl_join obl_none (fun ⟨most, x_Target, x_Address, (), i, (), s_Sensors, s_Air_Doors, s_Air_Fans, s_Air_Mine_Roads⟩ => by kernel_rfl) (obl_seq obl_none (obl_seq obl_none (obl_block (obl_loop (fun _ => by kernel_rfl) (fun n ⟨k_, x_Address, (), i, (), s_Sensors, s_Air_Doors, s_Air_Fans, s_Air_Mine_Roads⟩ => by kernel_rfl) fun n => obl_none)))))))))) (fun ⟨i, (), s_Sensors, s_Air_Doors, s_Air_Fans, s_Air_Mine_Roads⟩ => by kernel_rfl) obl_none))))) (fun () => by kernel_rfl) obl_none))
theorem ref20_sensors.eq (k : Nat) (s : T.Site) : evFn reg (sigs T68) sg68 Go.Proofs.Try.f68 (orc reg T68 (Int)) k (ref20_sensors.ann k) (s) = ref20_sensors.f k s := by kernel_rfl
noncomputable def ref20_sensors (s : T.Site) : Option (Int) := ref20_sensors.f K s
noncomputable def e68 : Ab.Spec reg := ⟨sg68, fun (s) => ref20_sensors s⟩
theorem ok68 : EntryOk Go.Proofs.Try.prog 68 e68 :=
  entry_ok (T := T68) (fnsOk_cons ok91 (fnsOk_nil regOk)) mixed (fn := Go.Proofs.Try.f68) (by kernel_rfl) (by decide) (by kernel_rfl) (ref20_sensors.obl K) (fun (s) => ref20_sensors.eq K s)
def sg92 : Ab.Sig := ⟨[(false, 112)], [(52, [false])], [], false, false, []⟩
noncomputable def T92 : List (Nat × Ab.Spec reg) := []
/-! ### ref17_Check: function 92 -/
noncomputable def ref17_Check.f (k : Nat) (l : T.Level) : Option (Int) := sel (decide (l.Clear < 0)) (some (1)) (sel (decide (l.Clear ≥ l.Cut)) (some (1)) (sel (decide (l.Cut > 1000000)) (some (1)) (sel (decide (l.Delay < 0)) (some (1)) (sel (decide (l.Delay > 100000)) (some (1)) (some (0))))))
noncomputable def ref17_Check.ann (k : Nat) : Ann reg (Int) := .none
theorem ref17_Check.obl (k : Nat) : obl (sigs T92) (orc reg T92 (Int)) k (bodyOf Go.Proofs.Try.f92) (ref17_Check.ann k) (kont0 reg sg92 Go.Proofs.Try.f92.results.toList) :=
  obl_none
theorem ref17_Check.eq (k : Nat) (l : T.Level) : evFn reg (sigs T92) sg92 Go.Proofs.Try.f92 (orc reg T92 (Int)) k (ref17_Check.ann k) (l) = ref17_Check.f k l := by kernel_rfl
noncomputable def ref17_Check (l : T.Level) : Option (Int) := ref17_Check.f K l
noncomputable def e92 : Ab.Spec reg := ⟨sg92, fun (l) => ref17_Check l⟩
theorem ok92 : EntryOk Go.Proofs.Try.prog 92 e92 :=
  entry_ok (T := T92) (fnsOk_nil regOk) mixed (fn := Go.Proofs.Try.f92) (by kernel_rfl) (by decide) (by kernel_rfl) (ref17_Check.obl K) (fun (l) => ref17_Check.eq K l)
def sg69 : Ab.Sig := ⟨[(false, 41), (false, 114)], [(52, [false])], [], false, false, []⟩
noncomputable def T69 : List (Nat × Ab.Spec reg) := [(92, e92)]
/-! ### ref20_cond: function 69 -/
@[reducible] def ref20_cond.c1 : Carry := [(.tmp 3, .ptr 3 0 6), (.cell 3 5, .int .i64), (.cell 3 4, .int .i64), (.cell 3 3, .int .i64), (.cell 3 2, .int .i64), (.cell 3 0, .int .i64)]
noncomputable def ref20_cond.j1 (k : Nat) : PUnit × Int × Int × Int × Int × Int → Option (Int) := fun ((), c_Level_Delay, c_Level_Clear, c_Level_Cut, c_Value, c_Kind) => sel (decide (c_Value < 0)) (some (1)) (sel (decide (c_Value > 1099511627776)) (some (1)) (sel (c_Kind == 1) (obind (ref17_Check { Cut := c_Level_Cut, Clear := c_Level_Clear, Delay := c_Level_Delay : T.Level }) fun r3 => some (r3)) (some (0))))
@[reducible] def ref20_cond.c0 : Carry := [(.tmp 7, .bool), (.tmp 6, .int .i64), (.tmp 3, .ptr 3 0 6), (.cell 3 5, .int .i64), (.cell 3 4, .int .i64), (.cell 3 3, .int .i64), (.cell 3 2, .int .i64), (.cell 3 1, .int .i64), (.cell 3 0, .int .i64), (.tmp 2, .ptr 2 0 8), (.cell 2 4, .sl 110), (.cell 2 1, .sl 89)]
noncomputable def ref20_cond.j0 (k : Nat) : Bool × Int × PUnit × Int × Int × Int × Int × Int × Int × PUnit × (List T.Sensor) × (List T.Road) → Option (Int) := fun (t7, t6, (), c_Level_Delay, c_Level_Clear, c_Level_Cut, c_Value, c_Target, c_Kind, (), s_Sensors, s_Air_Mine_Roads) => sel (t7) (sel (decide (c_Target < 0)) (some (9)) (sel (decide (c_Target ≥ (↑s_Sensors.length : Int))) (some (9)) (sel (c_Kind == 3) (sel (decide (0 ≤ c_Target)) (sel (decide (c_Target < (↑s_Sensors.length : Int))) (sel ((rd s_Sensors c_Target.toNat default).Kind != 5) (some (9)) (ref20_cond.j1 k ((), c_Level_Delay, c_Level_Clear, c_Level_Cut, c_Value, c_Kind))) (none)) (none)) (ref20_cond.j1 k ((), c_Level_Delay, c_Level_Clear, c_Level_Cut, c_Value, c_Kind))))) (sel (t6 == 5) (sel (decide (c_Target < 0)) (some (4)) (sel (decide (c_Target ≥ (↑s_Air_Mine_Roads.length : Int))) (some (4)) (ref20_cond.j1 k ((), c_Level_Delay, c_Level_Clear, c_Level_Cut, c_Value, c_Kind)))) (some (5)))
noncomputable def ref20_cond.f (k : Nat) (s : T.Site) (c : T.Cond) : Option (Int) := sel (c.Kind == 1) (ref20_cond.j0 k (Bool.true, c.Kind, (), c.Level.Delay, c.Level.Clear, c.Level.Cut, c.Value, c.Target, c.Kind, (), s.Sensors, s.Air.Mine.Roads)) (sel (c.Kind == 2) (ref20_cond.j0 k (Bool.true, c.Kind, (), c.Level.Delay, c.Level.Clear, c.Level.Cut, c.Value, c.Target, c.Kind, (), s.Sensors, s.Air.Mine.Roads)) (sel (c.Kind == 4) (ref20_cond.j0 k (Bool.true, c.Kind, (), c.Level.Delay, c.Level.Clear, c.Level.Cut, c.Value, c.Target, c.Kind, (), s.Sensors, s.Air.Mine.Roads)) (ref20_cond.j0 k (c.Kind == 3, c.Kind, (), c.Level.Delay, c.Level.Clear, c.Level.Cut, c.Value, c.Target, c.Kind, (), s.Sensors, s.Air.Mine.Roads))))
noncomputable def ref20_cond.ann (k : Nat) : Ann reg (Int) := (.seq .none (.join ref20_cond.c1 (ref20_cond.j1 k) (.seq .none (.block (.join ref20_cond.c0 (ref20_cond.j0 k) .none .none))) .none))
theorem ref20_cond.obl (k : Nat) : obl (sigs T69) (orc reg T69 (Int)) k (bodyOf Go.Proofs.Try.f69) (ref20_cond.ann k) (kont0 reg sg69 Go.Proofs.Try.f69.results.toList) :=
  (obl_seq obl_none (obl_join (obl_seq obl_none (obl_block (obl_join obl_none (fun ⟨t7, t6, (), c_Level_Delay, c_Level_Clear, c_Level_Cut, c_Value, c_Target, c_Kind, (), s_Sensors, s_Air_Mine_Roads⟩ => by kernel_rfl) obl_none))) (fun ⟨(), c_Level_Delay, c_Level_Clear, c_Level_Cut, c_Value, c_Kind⟩ => by kernel_rfl) obl_none))
theorem ref20_cond.eq (k : Nat) (s : T.Site) (c : T.Cond) : evFn reg (sigs T69) sg69 Go.Proofs.Try.f69 (orc reg T69 (Int)) k (ref20_cond.ann k) (s, c) = ref20_cond.f k s c := by kernel_rfl
noncomputable def ref20_cond (s : T.Site) (c : T.Cond) : Option (Int) := ref20_cond.f K s c
noncomputable def e69 : Ab.Spec reg := ⟨sg69, fun (s, c) => ref20_cond s c⟩
theorem ok69 : EntryOk Go.Proofs.Try.prog 69 e69 :=
  entry_ok (T := T69) (fnsOk_cons ok92 (fnsOk_nil regOk)) mixed (fn := Go.Proofs.Try.f69) (by kernel_rfl) (by decide) (by kernel_rfl) (ref20_cond.obl K) (fun (s, c) => ref20_cond.eq K s c)
def sg109 : Ab.Sig := ⟨[(false, 85), (false, 3)], [(3, [false]), (3, [false])], [], false, false, []⟩
noncomputable def T109 (rec : (List T.RuleNode) → Int → Option (Int × Int)) : List (Nat × Ab.Spec reg) := [(109, ⟨sg109, fun (a0, a1) => rec a0 a1⟩)]
/-! ### ref19_part: function 109 -/
@[reducible] def ref19_part.c1 : Carry := []
noncomputable def ref19_part.j1 (rec : (List T.RuleNode) → Int → Option (Int × Int)) (k : Nat) : Unit → Option (Int × Int) := fun (()) => some ((-1, 0))
@[reducible] def ref19_part.c0 : Carry := [(.tmp 75, .bool), (.cell 6 3, .int .i64), (.cell 6 2, .int .i64), (.cell 6 1, .int .i64), (.tmp 6, .ptr 6 0 4), (.tmp 0, .sl 116), (.tmp 1, .int .i64)]
noncomputable def ref19_part.j0 (rec : (List T.RuleNode) → Int → Option (Int × Int)) (k : Nat) : Bool × Int × Int × Int × PUnit × (List T.RuleNode) × Int → Option (Int × Int) := fun (t75, x_Right, x_Left, x_Cond, (), l_0, at__0) => sel (t75) (sel (x_Cond != 0) (some ((-1, 0))) (sel (x_Right != w64 (at__0 - 1)) (some ((-1, 0))) (obind (rec l_0 (w64 (at__0 - 1))) fun r3 => sel (decide (r3.fst < 1)) (some ((-1, 0))) (sel (x_Left != w64 (r3.fst - 1)) (some ((-1, 0))) (obind (rec l_0 (w64 (r3.fst - 1))) fun r6 => some ((r6.fst, w64 (mx r6.snd r3.snd + 1)))))))) (ref19_part.j1 rec k ())
noncomputable def ref19_part.f (rec : (List T.RuleNode) → Int → Option (Int × Int)) (k : Nat) (l : List T.RuleNode) (at_ : Int) : Option (Int × Int) := sel (decide (at_ < 0)) (some ((-1, 0))) (sel (decide (at_ ≥ (↑l.length : Int))) (some ((-1, 0))) (sel (decide (0 ≤ at_)) (sel (decide (at_ < (↑l.length : Int))) (sel ((rd l at_.toNat default).Kind == 1) (sel (decide ((rd l at_.toNat default).Cond < 0)) (some ((-1, 0))) (sel (decide ((rd l at_.toNat default).Cond ≥ 64)) (some ((-1, 0))) (sel ((rd l at_.toNat default).Left != 0) (some ((-1, 0))) (sel ((rd l at_.toNat default).Right != 0) (some ((-1, 0))) (some ((at_, 1))))))) (sel ((rd l at_.toNat default).Kind == 2) (sel ((rd l at_.toNat default).Cond != 0) (some ((-1, 0))) (sel ((rd l at_.toNat default).Right != 0) (some ((-1, 0))) (sel ((rd l at_.toNat default).Left != w64 (at_ - 1)) (some ((-1, 0))) (obind (rec l (w64 (at_ - 1))) fun r9 => some ((r9.fst, w64 (r9.snd + 1))))))) (sel ((rd l at_.toNat default).Kind == 3) (ref19_part.j0 rec k (Bool.true, (rd l at_.toNat default).Right, (rd l at_.toNat default).Left, (rd l at_.toNat default).Cond, (), l, at_)) (ref19_part.j0 rec k ((rd l at_.toNat default).Kind == 4, (rd l at_.toNat default).Right, (rd l at_.toNat default).Left, (rd l at_.toNat default).Cond, (), l, at_))))) (none)) (none)))
noncomputable def ref19_part.ann (rec : (List T.RuleNode) → Int → Option (Int × Int)) (k : Nat) : Ann reg (Int × Int) := (.seq .none (.seq .none (.seq .none (.join ref19_part.c1 (ref19_part.j1 rec k) (.seq .none (.block (.seq .none (.cond .none (.seq .none (.cond .none (.join ref19_part.c0 (ref19_part.j0 rec k) .none .none))))))) .none))))
theorem ref19_part.obl (rec : (List T.RuleNode) → Int → Option (Int × Int)) (k : Nat) : obl (sigs (T109 rec)) (orc reg (T109 rec) (Int × Int)) k (bodyOf Go.Proofs.Try.f109) (ref19_part.ann rec k) (kont0 reg sg109 Go.Proofs.Try.f109.results.toList) :=
  (obl_seq obl_none (obl_seq obl_none (obl_seq obl_none (obl_join (obl_seq obl_none (obl_block (obl_seq obl_none (obl_cond obl_none (obl_seq obl_none (obl_cond obl_none (obl_join obl_none (fun ⟨t75, x_Right, x_Left, x_Cond, (), l_0, at__0⟩ => by kernel_rfl) obl_none))))))) (fun () => by kernel_rfl) obl_none))))
theorem ref19_part.eq (rec : (List T.RuleNode) → Int → Option (Int × Int)) (k : Nat) (l : List T.RuleNode) (at_ : Int) : evFn reg (sigs (T109 rec)) sg109 Go.Proofs.Try.f109 (orc reg (T109 rec) (Int × Int)) k (ref19_part.ann rec k) (l, at_) = ref19_part.f rec k l at_ := by kernel_rfl
noncomputable def ref19_part.F : Nat → (List T.RuleNode) × Int → Option (Int × Int)
  | 0, _ => none
  | n + 1, (l, at_) => ref19_part.f (fun l at_ => ref19_part.F n (l, at_)) K l at_
noncomputable def ref19_part (l : List T.RuleNode) (at_ : Int) : Option (Int × Int) := ref19_part.F K (l, at_)
noncomputable def e109 : Ab.Spec reg := ⟨sg109, fun (l, at_) => ref19_part l at_⟩
theorem ok109 : EntryOk Go.Proofs.Try.prog 109 e109 :=
  entry_rec (Γ := reg) (sg := sg109) ref19_part.F (fun _ => rfl) ⟨Go.Proofs.Try.f109, by kernel_rfl, by decide, by kernel_rfl⟩ (fun n h => entry_ok (T := T109 fun l at_ => ref19_part.F n (l, at_)) (fnsOk_cons h (fnsOk_nil regOk)) mixed (fn := Go.Proofs.Try.f109) (by kernel_rfl) (by decide) (by kernel_rfl) (ref19_part.obl _ K) (fun (l, at_) => ref19_part.eq _ K l at_)) K
def sg104 : Ab.Sig := ⟨[(false, 85)], [(4, [false])], [], false, false, []⟩
noncomputable def T104 : List (Nat × Ab.Spec reg) := [(109, e109)]
/-! ### ref19_Right: function 104 -/
noncomputable def ref19_Right.f (k : Nat) (l : List T.RuleNode) : Option (Bool) := sel (decide ((↑l.length : Int) < 1)) (some (Bool.false)) (sel (decide ((↑l.length : Int) > 64)) (some (Bool.false)) (obind (ref19_part l (w64 ((↑l.length : Int) - 1))) fun r2 => sel (r2.fst == 0) (some (decide (r2.snd ≤ 16))) (some (Bool.false))))
noncomputable def ref19_Right.ann (k : Nat) : Ann reg (Bool) := .none
theorem ref19_Right.obl (k : Nat) : obl (sigs T104) (orc reg T104 (Bool)) k (bodyOf Go.Proofs.Try.f104) (ref19_Right.ann k) (kont0 reg sg104 Go.Proofs.Try.f104.results.toList) :=
  obl_none
theorem ref19_Right.eq (k : Nat) (l : List T.RuleNode) : evFn reg (sigs T104) sg104 Go.Proofs.Try.f104 (orc reg T104 (Bool)) k (ref19_Right.ann k) (l) = ref19_Right.f k l := by kernel_rfl
noncomputable def ref19_Right (l : List T.RuleNode) : Option (Bool) := ref19_Right.f K l
noncomputable def e104 : Ab.Spec reg := ⟨sg104, fun (l) => ref19_Right l⟩
theorem ok104 : EntryOk Go.Proofs.Try.prog 104 e104 :=
  entry_ok (T := T104) (fnsOk_cons ok109 (fnsOk_nil regOk)) mixed (fn := Go.Proofs.Try.f104) (by kernel_rfl) (by decide) (by kernel_rfl) (ref19_Right.obl K) (fun (l) => ref19_Right.eq K l)
def sg93 : Ab.Sig := ⟨[(false, 85), (false, 3)], [(52, [false])], [], false, false, []⟩
noncomputable def T93 : List (Nat × Ab.Spec reg) := [(104, e104)]
/-! ### ref19_Check: function 93 -/
@[reducible] def ref19_Check.c1 : Carry := []
noncomputable def ref19_Check.j1 (k : Nat) : Unit → Option (Int) := fun (()) => some (0)
@[reducible] def ref19_Check.c0 : Carry := [(.tmp 5, .int .i64), (.tmp 0, .sl 116), (.tmp 1, .int .i64)]
noncomputable def ref19_Check.j0 (k : Nat) : Nat → Int × (List T.RuleNode) × Int → Option (Int)
  | 0, _ => none
  | it + 1, (i, l_0, conds_0) => sel (decide (i < (↑l_0.length : Int))) (sel (decide (0 ≤ i)) (sel (decide (i < (↑l_0.length : Int))) (sel ((rd l_0 i.toNat default).Kind == 1) (sel (decide (0 ≤ i)) (sel (decide (i < (↑l_0.length : Int))) (sel (decide ((rd l_0 i.toNat default).Cond ≥ conds_0)) (some (1)) ((ref19_Check.j0 k it) (w64 (i + 1), l_0, conds_0))) (none)) (none)) ((ref19_Check.j0 k it) (w64 (i + 1), l_0, conds_0))) (none)) (none)) (ref19_Check.j1 k ())
noncomputable def ref19_Check.f (k : Nat) (l : List T.RuleNode) (conds : Int) : Option (Int) := obind (ref19_Right l) fun r0 => sel (!r0) (some (18)) (ref19_Check.j0 k k (0, l, conds))
noncomputable def ref19_Check.ann (k : Nat) : Ann reg (Int) := (.seq .none (.seq .none (.join ref19_Check.c1 (ref19_Check.j1 k) (.seq .none (.block (.loop ref19_Check.c0 (ref19_Check.j0 k) fun g0 => .none))) .none)))
theorem ref19_Check.obl (k : Nat) : obl (sigs T93) (orc reg T93 (Int)) k (bodyOf Go.Proofs.Try.f93) (ref19_Check.ann k) (kont0 reg sg93 Go.Proofs.Try.f93.results.toList) :=
  (obl_seq obl_none (obl_seq obl_none (obl_join (obl_seq obl_none (obl_block (obl_loop (fun _ => by kernel_rfl) (fun n ⟨i, l_0, conds_0⟩ => by kernel_rfl) fun n => obl_none))) (fun () => by kernel_rfl) obl_none)))
theorem ref19_Check.eq (k : Nat) (l : List T.RuleNode) (conds : Int) : evFn reg (sigs T93) sg93 Go.Proofs.Try.f93 (orc reg T93 (Int)) k (ref19_Check.ann k) (l, conds) = ref19_Check.f k l conds := by kernel_rfl
noncomputable def ref19_Check (l : List T.RuleNode) (conds : Int) : Option (Int) := ref19_Check.f K l conds
noncomputable def e93 : Ab.Spec reg := ⟨sg93, fun (l, conds) => ref19_Check l conds⟩
theorem ok93 : EntryOk Go.Proofs.Try.prog 93 e93 :=
  entry_ok (T := T93) (fnsOk_cons ok104 (fnsOk_nil regOk)) mixed (fn := Go.Proofs.Try.f93) (by kernel_rfl) (by decide) (by kernel_rfl) (ref19_Check.obl K) (fun (l, conds) => ref19_Check.eq K l conds)
def sg70 : Ab.Sig := ⟨[(false, 41), (false, 87)], [(52, [false])], [], false, false, []⟩
noncomputable def T70 : List (Nat × Ab.Spec reg) := [(93, e93)]
/-! ### ref20_zone: function 70 -/
@[reducible] def ref20_zone.c1 : Carry := []
noncomputable def ref20_zone.j1 (k : Nat) : Unit → Option (Int) := fun (()) => some (0)
@[reducible] def ref20_zone.c0 : Carry := [(.tmp 6, .int .i64), (.tmp 3, .ptr 3 0 4), (.cell 3 2, .sl 3), (.tmp 2, .ptr 2 0 8), (.cell 2 1, .sl 89)]
noncomputable def ref20_zone.j0 (k : Nat) : Nat → Int × PUnit × (List Int) × PUnit × (List T.Road) → Option (Int)
  | 0, _ => none
  | it + 1, (i, (), z_Roads, (), s_Air_Mine_Roads) => sel (decide (i < (↑z_Roads.length : Int))) (sel (decide (0 ≤ i)) (sel (decide (i < (↑z_Roads.length : Int))) (sel (decide (rd z_Roads i.toNat default < 0)) (some (4)) (sel (decide (0 ≤ i)) (sel (decide (i < (↑z_Roads.length : Int))) (sel (decide (rd z_Roads i.toNat default ≥ (↑s_Air_Mine_Roads.length : Int))) (some (4)) (sel (decide (i > 0)) (sel (decide (0 ≤ i)) (sel (decide (i < (↑z_Roads.length : Int))) (sel (decide (0 ≤ w64 (i - 1))) (sel (decide (w64 (i - 1) < (↑z_Roads.length : Int))) (sel (decide (rd z_Roads i.toNat default ≤ rd z_Roads (w64 (i - 1)).toNat default)) (some (4)) ((ref20_zone.j0 k it) (w64 (i + 1), (), z_Roads, (), s_Air_Mine_Roads))) (none)) (none)) (none)) (none)) ((ref20_zone.j0 k it) (w64 (i + 1), (), z_Roads, (), s_Air_Mine_Roads)))) (none)) (none))) (none)) (none)) (ref20_zone.j1 k ())
noncomputable def ref20_zone.f (k : Nat) (s : T.Site) (z : T.Zone) : Option (Int) := obind (ref19_Check z.Rule (↑s.Conds.length : Int)) fun r0 => sel (r0 != 0) (some (r0)) (sel (decide (z.Hold < 0)) (some (1)) (sel (decide (z.Hold > 100000)) (some (1)) (sel (decide (z.Fresh < 0)) (some (1)) (sel (decide (z.Fresh > 100)) (some (1)) (ref20_zone.j0 k k (0, (), z.Roads, (), s.Air.Mine.Roads))))))
noncomputable def ref20_zone.ann (k : Nat) : Ann reg (Int) := (.seq .none (.seq .none (.seq .none (.join ref20_zone.c1 (ref20_zone.j1 k) (.seq .none (.block (.loop ref20_zone.c0 (ref20_zone.j0 k) fun g0 => .none))) .none))))
theorem ref20_zone.obl (k : Nat) : obl (sigs T70) (orc reg T70 (Int)) k (bodyOf Go.Proofs.Try.f70) (ref20_zone.ann k) (kont0 reg sg70 Go.Proofs.Try.f70.results.toList) :=
  (obl_seq obl_none (obl_seq obl_none (obl_seq obl_none (obl_join (obl_seq obl_none (obl_block (obl_loop (fun _ => by kernel_rfl) (fun n ⟨i, (), z_Roads, (), s_Air_Mine_Roads⟩ => by kernel_rfl) fun n => obl_none))) (fun () => by kernel_rfl) obl_none))))
theorem ref20_zone.eq (k : Nat) (s : T.Site) (z : T.Zone) : evFn reg (sigs T70) sg70 Go.Proofs.Try.f70 (orc reg T70 (Int)) k (ref20_zone.ann k) (s, z) = ref20_zone.f k s z := by kernel_rfl
noncomputable def ref20_zone (s : T.Site) (z : T.Zone) : Option (Int) := ref20_zone.f K s z
noncomputable def e70 : Ab.Spec reg := ⟨sg70, fun (s, z) => ref20_zone s z⟩
theorem ok70 : EntryOk Go.Proofs.Try.prog 70 e70 :=
  entry_ok (T := T70) (fnsOk_cons ok93 (fnsOk_nil regOk)) mixed (fn := Go.Proofs.Try.f70) (by kernel_rfl) (by decide) (by kernel_rfl) (ref20_zone.obl K) (fun (s, z) => ref20_zone.eq K s z)
def sg50 : Ab.Sig := ⟨[(false, 41)], [(52, [false])], [], false, false, []⟩
noncomputable def T50 : List (Nat × Ab.Spec reg) := [(67, e67), (68, e68), (69, e69), (70, e70)]
/-! ### ref20_Check: function 50 -/
@[reducible] def ref20_Check.c3 : Carry := []
noncomputable def ref20_Check.j3 (k : Nat) : Unit → Option (Int) := fun (()) => some (0)
@[reducible] def ref20_Check.c2 : Carry := [(.tmp 9, .int .i64), (.tmp 1, .ptr 1 0 8), (.cell 1 7, .sl 65)]
noncomputable def ref20_Check.j2 (k : Nat) : Nat → Int × PUnit × (List T.Person) → Option (Int)
  | 0, _ => none
  | it + 1, (i, (), s_Persons) => sel (decide (i < (↑s_Persons.length : Int))) (sel (decide (0 ≤ i)) (sel (decide (i < (↑s_Persons.length : Int))) (sel (decide ((rd s_Persons i.toNat default).Role < 1)) (some (19)) (sel (decide (0 ≤ i)) (sel (decide (i < (↑s_Persons.length : Int))) (sel (decide ((rd s_Persons i.toNat default).Role > 3)) (some (19)) ((ref20_Check.j2 k it) (w64 (i + 1), (), s_Persons))) (none)) (none))) (none)) (none)) (ref20_Check.j3 k ())
@[reducible] def ref20_Check.c4 : Carry := [(.tmp 1, .ptr 1 0 8), (.cell 1 7, .sl 65)]
noncomputable def ref20_Check.j4 (k : Nat) : PUnit × (List T.Person) → Option (Int) := fun ((), s_Persons) => ref20_Check.j2 k k (0, (), s_Persons)
@[reducible] def ref20_Check.c1 : Carry := [(.tmp 7, .int .i64), (.tmp 1, .ptr 1 0 8), (.cell 1 7, .sl 65), (.cell 1 6, .sl 87), (.cell 1 5, .sl 114), (.cell 1 4, .sl 110), (.cell 1 3, .sl 149), (.cell 1 2, .sl 147), (.cell 1 1, .sl 89), (.cell 1 0, .sl 108)]
noncomputable def ref20_Check.j1 (k : Nat) : Nat → Int × PUnit × (List T.Person) × (List T.Zone) × (List T.Cond) × (List T.Sensor) × (List T.Door) × (List T.Fan) × (List T.Road) × (List T.Place) → Option (Int)
  | 0, _ => none
  | it + 1, (i, (), s_Persons, s_Zones, s_Conds, s_Sensors, s_Air_Doors, s_Air_Fans, s_Air_Mine_Roads, s_Air_Mine_Places) => sel (decide (i < (↑s_Zones.length : Int))) (sel (decide (0 ≤ i)) (sel (decide (i < (↑s_Zones.length : Int))) (obind (ref20_zone { Air := { Mine := { Places := s_Air_Mine_Places, Roads := s_Air_Mine_Roads : T.Mine }, Fans := s_Air_Fans, Doors := s_Air_Doors : T.Air }, Sensors := s_Sensors, Conds := s_Conds, Zones := s_Zones, Persons := s_Persons : T.Site } (rd s_Zones i.toNat default)) fun r3 => sel (r3 != 0) (some (r3)) ((ref20_Check.j1 k it) (w64 (i + 1), (), s_Persons, s_Zones, s_Conds, s_Sensors, s_Air_Doors, s_Air_Fans, s_Air_Mine_Roads, s_Air_Mine_Places))) (none)) (none)) (ref20_Check.j4 k ((), s_Persons))
@[reducible] def ref20_Check.c5 : Carry := [(.tmp 1, .ptr 1 0 8), (.cell 1 7, .sl 65), (.cell 1 6, .sl 87), (.cell 1 5, .sl 114), (.cell 1 4, .sl 110), (.cell 1 3, .sl 149), (.cell 1 2, .sl 147), (.cell 1 1, .sl 89), (.cell 1 0, .sl 108)]
noncomputable def ref20_Check.j5 (k : Nat) : PUnit × (List T.Person) × (List T.Zone) × (List T.Cond) × (List T.Sensor) × (List T.Door) × (List T.Fan) × (List T.Road) × (List T.Place) → Option (Int) := fun ((), s_Persons, s_Zones, s_Conds, s_Sensors, s_Air_Doors, s_Air_Fans, s_Air_Mine_Roads, s_Air_Mine_Places) => ref20_Check.j1 k k (0, (), s_Persons, s_Zones, s_Conds, s_Sensors, s_Air_Doors, s_Air_Fans, s_Air_Mine_Roads, s_Air_Mine_Places)
@[reducible] def ref20_Check.c0 : Carry := [(.tmp 5, .int .i64), (.tmp 1, .ptr 1 0 8), (.cell 1 7, .sl 65), (.cell 1 6, .sl 87), (.cell 1 5, .sl 114), (.cell 1 4, .sl 110), (.cell 1 3, .sl 149), (.cell 1 2, .sl 147), (.cell 1 1, .sl 89), (.cell 1 0, .sl 108)]
noncomputable def ref20_Check.j0 (k : Nat) : Nat → Int × PUnit × (List T.Person) × (List T.Zone) × (List T.Cond) × (List T.Sensor) × (List T.Door) × (List T.Fan) × (List T.Road) × (List T.Place) → Option (Int)
  | 0, _ => none
  | it + 1, (i, (), s_Persons, s_Zones, s_Conds, s_Sensors, s_Air_Doors, s_Air_Fans, s_Air_Mine_Roads, s_Air_Mine_Places) => sel (decide (i < (↑s_Conds.length : Int))) (sel (decide (0 ≤ i)) (sel (decide (i < (↑s_Conds.length : Int))) (obind (ref20_cond { Air := { Mine := { Places := s_Air_Mine_Places, Roads := s_Air_Mine_Roads : T.Mine }, Fans := s_Air_Fans, Doors := s_Air_Doors : T.Air }, Sensors := s_Sensors, Conds := s_Conds, Zones := s_Zones, Persons := s_Persons : T.Site } (rd s_Conds i.toNat default)) fun r3 => sel (r3 != 0) (some (r3)) ((ref20_Check.j0 k it) (w64 (i + 1), (), s_Persons, s_Zones, s_Conds, s_Sensors, s_Air_Doors, s_Air_Fans, s_Air_Mine_Roads, s_Air_Mine_Places))) (none)) (none)) (ref20_Check.j5 k ((), s_Persons, s_Zones, s_Conds, s_Sensors, s_Air_Doors, s_Air_Fans, s_Air_Mine_Roads, s_Air_Mine_Places))
noncomputable def ref20_Check.f (k : Nat) (s : T.Site) : Option (Int) := obind (ref09_Check s.Air) fun r0 => sel (r0 != 0) (some (r0)) (sel (decide ((↑s.Sensors.length : Int) > 64)) (some (2)) (sel (decide ((↑s.Conds.length : Int) > 64)) (some (2)) (sel (decide ((↑s.Zones.length : Int) > 16)) (some (2)) (sel (decide ((↑s.Persons.length : Int) > 64)) (some (2)) (obind (ref20_sensors s) fun r6 => sel (r6 != 0) (some (r6)) (ref20_Check.j0 k k (0, (), s.Persons, s.Zones, s.Conds, s.Sensors, s.Air.Doors, s.Air.Fans, s.Air.Mine.Roads, s.Air.Mine.Places)))))))
noncomputable def ref20_Check.ann (k : Nat) : Ann reg (Int) := (.seq .none (.seq .none (.seq .none (.seq .none (.join ref20_Check.c5 (ref20_Check.j5 k) (.seq .none (.block (.loop ref20_Check.c0 (ref20_Check.j0 k) fun g0 => .none))) (.join ref20_Check.c4 (ref20_Check.j4 k) (.seq .none (.block (.loop ref20_Check.c1 (ref20_Check.j1 k) fun g1 => .none))) (.join ref20_Check.c3 (ref20_Check.j3 k) (.seq .none (.block (.loop ref20_Check.c2 (ref20_Check.j2 k) fun g2 => .none))) .none)))))))
theorem ref20_Check.obl (k : Nat) : obl (sigs T50) (orc reg T50 (Int)) k (bodyOf Go.Proofs.Try.f50) (ref20_Check.ann k) (kont0 reg sg50 Go.Proofs.Try.f50.results.toList) :=
  (obl_seq obl_none (obl_seq obl_none (obl_seq obl_none (obl_seq obl_none (obl_join (obl_seq obl_none (obl_block (obl_loop (fun _ => by kernel_rfl) (fun n ⟨i, (), s_Persons, s_Zones, s_Conds, s_Sensors, s_Air_Doors, s_Air_Fans, s_Air_Mine_Roads, s_Air_Mine_Places⟩ => by kernel_rfl) fun n => obl_none))) (fun ⟨(), s_Persons, s_Zones, s_Conds, s_Sensors, s_Air_Doors, s_Air_Fans, s_Air_Mine_Roads, s_Air_Mine_Places⟩ => by kernel_rfl) (obl_join (obl_seq obl_none (obl_block (obl_loop (fun _ => by kernel_rfl) (fun n ⟨i, (), s_Persons, s_Zones, s_Conds, s_Sensors, s_Air_Doors, s_Air_Fans, s_Air_Mine_Roads, s_Air_Mine_Places⟩ => by kernel_rfl) fun n => obl_none))) (fun ⟨(), s_Persons⟩ => by kernel_rfl) (obl_join (obl_seq obl_none (obl_block (obl_loop (fun _ => by kernel_rfl) (fun n ⟨i, (), s_Persons⟩ => by kernel_rfl) fun n => obl_none))) (fun () => by kernel_rfl) obl_none)))))))
theorem ref20_Check.eq (k : Nat) (s : T.Site) : evFn reg (sigs T50) sg50 Go.Proofs.Try.f50 (orc reg T50 (Int)) k (ref20_Check.ann k) (s) = ref20_Check.f k s := by kernel_rfl
noncomputable def ref20_Check (s : T.Site) : Option (Int) := ref20_Check.f K s
noncomputable def e50 : Ab.Spec reg := ⟨sg50, fun (s) => ref20_Check s⟩
theorem ok50 : EntryOk Go.Proofs.Try.prog 50 e50 :=
  entry_ok (T := T50) (fnsOk_cons ok67 (fnsOk_cons ok68 (fnsOk_cons ok69 (fnsOk_cons ok70 (fnsOk_nil regOk))))) mixed (fn := Go.Proofs.Try.f50) (by kernel_rfl) (by decide) (by kernel_rfl) (ref20_Check.obl K) (fun (s) => ref20_Check.eq K s)
def sg36 : Ab.Sig := ⟨[(false, 41), (false, 23), (false, 24), (false, 3)], [(52, [false])], [], false, false, []⟩
noncomputable def T36 : List (Nat × Ab.Spec reg) := [(50, e50)]
/-! ### ref21_check: function 36 -/
noncomputable def ref21_check.f (k : Nat) (s : T.Site) (c : List T.Cut) (flows : List T.Span) (time : Int) : Option (Int) := obind (ref20_Check s) fun r0 => sel (r0 != 0) (some (r0)) (sel ((↑c.length : Int) != (↑s.Zones.length : Int)) (some (11)) (sel ((↑flows.length : Int) != (↑s.Air.Mine.Roads.length : Int)) (some (11)) (sel (decide (time < 0)) (some (8)) (sel (decide (time > 2147483648)) (some (8)) (some (0))))))
noncomputable def ref21_check.ann (k : Nat) : Ann reg (Int) := .none
theorem ref21_check.obl (k : Nat) : obl (sigs T36) (orc reg T36 (Int)) k (bodyOf Go.Proofs.Try.f36) (ref21_check.ann k) (kont0 reg sg36 Go.Proofs.Try.f36.results.toList) :=
  obl_none
theorem ref21_check.eq (k : Nat) (s : T.Site) (c : List T.Cut) (flows : List T.Span) (time : Int) : evFn reg (sigs T36) sg36 Go.Proofs.Try.f36 (orc reg T36 (Int)) k (ref21_check.ann k) (s, c, flows, time) = ref21_check.f k s c flows time := by kernel_rfl
noncomputable def ref21_check (s : T.Site) (c : List T.Cut) (flows : List T.Span) (time : Int) : Option (Int) := ref21_check.f K s c flows time
noncomputable def e36 : Ab.Spec reg := ⟨sg36, fun (s, c, flows, time) => ref21_check s c flows time⟩
theorem ok36 : EntryOk Go.Proofs.Try.prog 36 e36 :=
  entry_ok (T := T36) (fnsOk_cons ok50 (fnsOk_nil regOk)) mixed (fn := Go.Proofs.Try.f36) (by kernel_rfl) (by decide) (by kernel_rfl) (ref21_check.obl K) (fun (s, c, flows, time) => ref21_check.eq K s c flows time)
def sg71 : Ab.Sig := ⟨[(false, 27)], [(3, [false])], [], false, false, []⟩
noncomputable def T71 : List (Nat × Ab.Spec reg) := []
/-! ### ref13_Direction: function 71 -/
noncomputable def ref13_Direction.f (k : Nat) (f : T.Span) : Option (Int) := sel (decide (f.Low > f.High)) (some (0)) (sel (decide (f.Low > 0)) (some (1)) (sel (decide (f.High < 0)) (some (-1)) (some (0))))
noncomputable def ref13_Direction.ann (k : Nat) : Ann reg (Int) := .none
theorem ref13_Direction.obl (k : Nat) : obl (sigs T71) (orc reg T71 (Int)) k (bodyOf Go.Proofs.Try.f71) (ref13_Direction.ann k) (kont0 reg sg71 Go.Proofs.Try.f71.results.toList) :=
  obl_none
theorem ref13_Direction.eq (k : Nat) (f : T.Span) : evFn reg (sigs T71) sg71 Go.Proofs.Try.f71 (orc reg T71 (Int)) k (ref13_Direction.ann k) (f) = ref13_Direction.f k f := by kernel_rfl
noncomputable def ref13_Direction (f : T.Span) : Option (Int) := ref13_Direction.f K f
noncomputable def e71 : Ab.Spec reg := ⟨sg71, fun (f) => ref13_Direction f⟩
theorem ok71 : EntryOk Go.Proofs.Try.prog 71 e71 :=
  entry_ok (T := T71) (fnsOk_nil regOk) mixed (fn := Go.Proofs.Try.f71) (by kernel_rfl) (by decide) (by kernel_rfl) (ref13_Direction.obl K) (fun (f) => ref13_Direction.eq K f)
def sg51 : Ab.Sig := ⟨[(false, 27)], [(3, [false])], [], false, false, []⟩
noncomputable def T51 : List (Nat × Ab.Spec reg) := [(71, e71)]
/-! ### ref21_sure: function 51 -/
noncomputable def ref21_sure.f (k : Nat) (f : T.Span) : Option (Int) := obind (ref13_Direction f) fun r0 => sel (r0 == 1) (some (f.Low)) (sel (r0 == -1) (some (w64 (0 - f.High))) (some (0)))
noncomputable def ref21_sure.ann (k : Nat) : Ann reg (Int) := .none
theorem ref21_sure.obl (k : Nat) : obl (sigs T51) (orc reg T51 (Int)) k (bodyOf Go.Proofs.Try.f51) (ref21_sure.ann k) (kont0 reg sg51 Go.Proofs.Try.f51.results.toList) :=
  obl_none
theorem ref21_sure.eq (k : Nat) (f : T.Span) : evFn reg (sigs T51) sg51 Go.Proofs.Try.f51 (orc reg T51 (Int)) k (ref21_sure.ann k) (f) = ref21_sure.f k f := by kernel_rfl
noncomputable def ref21_sure (f : T.Span) : Option (Int) := ref21_sure.f K f
noncomputable def e51 : Ab.Spec reg := ⟨sg51, fun (f) => ref21_sure f⟩
theorem ok51 : EntryOk Go.Proofs.Try.prog 51 e51 :=
  entry_ok (T := T51) (fnsOk_cons ok71 (fnsOk_nil regOk)) mixed (fn := Go.Proofs.Try.f51) (by kernel_rfl) (by decide) (by kernel_rfl) (ref21_sure.obl K) (fun (f) => ref21_sure.eq K f)
def sg37 : Ab.Sig := ⟨[(false, 41), (false, 23), (false, 24), (false, 3), (false, 3)], [(52, [false])], [], false, false, []⟩
noncomputable def T37 : List (Nat × Ab.Spec reg) := [(51, e51)]
/-! ### ref21_ready: function 37 -/
@[reducible] def ref21_ready.c2 : Carry := []
noncomputable def ref21_ready.j2 (k : Nat) : Unit → Option (Int) := fun (()) => some (0)
@[reducible] def ref21_ready.c1 : Carry := [(.tmp 13, .int .i64), (.tmp 12, .int .i64), (.cell 11 3, .int .i64), (.cell 11 2, .sl 3), (.tmp 11, .ptr 11 0 4), (.tmp 5, .ptr 5 0 8), (.cell 5 1, .sl 89), (.tmp 2, .sl 27), (.tmp 4, .int .i64)]
noncomputable def ref21_ready.j1 (k : Nat) (g0 : Int × Int × Int × (List Int) × PUnit × PUnit × (List T.Road) × (List T.Span) × Int → Option (Int)) : Int × Int × Int × (List Int) × PUnit × PUnit × (List T.Road) × (List T.Span) × Int → Option (Int) := fun (i, clear, z_Fresh, z_Roads, (), (), s_Air_Mine_Roads, flows_1, time_1) => g0 (w64 (i + 1), clear, z_Fresh, z_Roads, (), (), s_Air_Mine_Roads, flows_1, time_1)
@[reducible] def ref21_ready.c0 : Carry := [(.tmp 13, .int .i64), (.tmp 12, .int .i64), (.cell 11 3, .int .i64), (.cell 11 2, .sl 3), (.tmp 11, .ptr 11 0 4), (.tmp 5, .ptr 5 0 8), (.cell 5 1, .sl 89), (.tmp 2, .sl 27), (.tmp 4, .int .i64)]
noncomputable def ref21_ready.j0 (k : Nat) : Nat → Int × Int × Int × (List Int) × PUnit × PUnit × (List T.Road) × (List T.Span) × Int → Option (Int)
  | 0, _ => none
  | it + 1, (i, clear, z_Fresh, z_Roads, (), (), s_Air_Mine_Roads, flows_0, time_0) => sel (decide (i < (↑z_Roads.length : Int))) (sel (decide (0 ≤ i)) (sel (decide (i < (↑z_Roads.length : Int))) (sel (decide (0 ≤ rd z_Roads i.toNat default)) (sel (decide (rd z_Roads i.toNat default < (↑s_Air_Mine_Roads.length : Int))) (sel (decide (0 ≤ i)) (sel (decide (i < (↑z_Roads.length : Int))) (sel (decide (0 ≤ rd z_Roads i.toNat default)) (sel (decide (rd z_Roads i.toNat default < (↑flows_0.length : Int))) (obind (ref21_sure (rd flows_0 (rd z_Roads i.toNat default).toNat default)) fun r9 => sel (w64 (w64 (w64 (1000 * (rd s_Air_Mine_Roads (rd z_Roads i.toNat default).toNat default).Length) * (rd s_Air_Mine_Roads (rd z_Roads i.toNat default).toNat default).Area) * z_Fresh) == 0) (ref21_ready.j1 k (ref21_ready.j0 k it) (i, clear, z_Fresh, z_Roads, (), (), s_Air_Mine_Roads, flows_0, time_0)) (sel (r9 == 0) (some (20)) (sel (r9 != 0) (sel (decide (w64 (Int.tdiv (w64 (w64 (w64 (w64 (1000 * (rd s_Air_Mine_Roads (rd z_Roads i.toNat default).toNat default).Length) * (rd s_Air_Mine_Roads (rd z_Roads i.toNat default).toNat default).Area) * z_Fresh) - 1)) r9) ≥ w64 (time_0 - clear))) (some (20)) (ref21_ready.j1 k (ref21_ready.j0 k it) (i, clear, z_Fresh, z_Roads, (), (), s_Air_Mine_Roads, flows_0, time_0))) (none)))) (none)) (none)) (none)) (none)) (none)) (none)) (none)) (none)) (ref21_ready.j2 k ())
noncomputable def ref21_ready.f (k : Nat) (s : T.Site) (c : List T.Cut) (flows : List T.Span) (zone : Int) (time : Int) : Option (Int) := sel (decide (zone < 0)) (some (17)) (sel (decide (zone ≥ (↑c.length : Int))) (some (17)) (sel (decide (0 ≤ zone)) (sel (decide (zone < (↑c.length : Int))) (sel (!(rd c zone.toNat default).Off) (some (10)) (sel (decide (0 ≤ zone)) (sel (decide (zone < (↑s.Zones.length : Int))) (sel (decide (0 ≤ zone)) (sel (decide (zone < (↑c.length : Int))) (sel (decide ((rd c zone.toNat default).Clear < 0)) (some (20)) (sel (decide ((rd c zone.toNat default).Clear > time)) (some (20)) (sel (decide (w64 (time - (rd c zone.toNat default).Clear) < (rd s.Zones zone.toNat default).Hold)) (some (20)) (ref21_ready.j0 k k (0, (rd c zone.toNat default).Clear, (rd s.Zones zone.toNat default).Fresh, (rd s.Zones zone.toNat default).Roads, (), (), s.Air.Mine.Roads, flows, time))))) (none)) (none)) (none)) (none))) (none)) (none)))
noncomputable def ref21_ready.ann (k : Nat) : Ann reg (Int) := (.seq .none (.seq .none (.seq .none (.seq .none (.seq .none (.seq .none (.join ref21_ready.c2 (ref21_ready.j2 k) (.seq .none (.block (.loop ref21_ready.c0 (ref21_ready.j0 k) fun g0 => (.seq .none (.join ref21_ready.c1 (ref21_ready.j1 k g0) .none .none))))) .none)))))))
theorem ref21_ready.obl (k : Nat) : obl (sigs T37) (orc reg T37 (Int)) k (bodyOf Go.Proofs.Try.f37) (ref21_ready.ann k) (kont0 reg sg37 Go.Proofs.Try.f37.results.toList) :=
  (obl_seq obl_none (obl_seq obl_none (obl_seq obl_none (obl_seq obl_none (obl_seq obl_none (obl_seq obl_none (obl_join (obl_seq obl_none (obl_block (obl_loop (fun _ => by kernel_rfl) (fun n ⟨i, clear, z_Fresh, z_Roads, (), (), s_Air_Mine_Roads, flows_0, time_0⟩ => by kernel_rfl) fun n => (obl_seq obl_none (obl_join obl_none (fun ⟨i, clear, z_Fresh, z_Roads, (), (), s_Air_Mine_Roads, flows_1, time_1⟩ => by kernel_rfl) obl_none))))) (fun () => by kernel_rfl) obl_none)))))))
theorem ref21_ready.eq (k : Nat) (s : T.Site) (c : List T.Cut) (flows : List T.Span) (zone : Int) (time : Int) : evFn reg (sigs T37) sg37 Go.Proofs.Try.f37 (orc reg T37 (Int)) k (ref21_ready.ann k) (s, c, flows, zone, time) = ref21_ready.f k s c flows zone time := by kernel_rfl
noncomputable def ref21_ready (s : T.Site) (c : List T.Cut) (flows : List T.Span) (zone : Int) (time : Int) : Option (Int) := ref21_ready.f K s c flows zone time
noncomputable def e37 : Ab.Spec reg := ⟨sg37, fun (s, c, flows, zone, time) => ref21_ready s c flows zone time⟩
theorem ok37 : EntryOk Go.Proofs.Try.prog 37 e37 :=
  entry_ok (T := T37) (fnsOk_cons ok51 (fnsOk_nil regOk)) mixed (fn := Go.Proofs.Try.f37) (by kernel_rfl) (by decide) (by kernel_rfl) (ref21_ready.obl K) (fun (s, c, flows, zone, time) => ref21_ready.eq K s c flows zone time)
def sg14 : Ab.Sig := ⟨[(false, 41), (false, 23), (false, 24), (false, 3), (false, 3)], [(52, [false])], [], false, false, []⟩
noncomputable def T14 : List (Nat × Ab.Spec reg) := [(36, e36), (37, e37)]
/-! ### ref21_Ready: function 14 -/
noncomputable def ref21_Ready.f (k : Nat) (s : T.Site) (c : List T.Cut) (flows : List T.Span) (zone : Int) (time : Int) : Option (Int) := obind (ref21_check s c flows time) fun r0 => sel (r0 != 0) (some (r0)) (obind (ref21_ready s c flows zone time) fun r2 => some (r2))
noncomputable def ref21_Ready.ann (k : Nat) : Ann reg (Int) := .none
theorem ref21_Ready.obl (k : Nat) : obl (sigs T14) (orc reg T14 (Int)) k (bodyOf Go.Proofs.Try.f14) (ref21_Ready.ann k) (kont0 reg sg14 Go.Proofs.Try.f14.results.toList) :=
  obl_none
theorem ref21_Ready.eq (k : Nat) (s : T.Site) (c : List T.Cut) (flows : List T.Span) (zone : Int) (time : Int) : evFn reg (sigs T14) sg14 Go.Proofs.Try.f14 (orc reg T14 (Int)) k (ref21_Ready.ann k) (s, c, flows, zone, time) = ref21_Ready.f k s c flows zone time := by kernel_rfl
noncomputable def ref21_Ready (s : T.Site) (c : List T.Cut) (flows : List T.Span) (zone : Int) (time : Int) : Option (Int) := ref21_Ready.f K s c flows zone time
noncomputable def e14 : Ab.Spec reg := ⟨sg14, fun (s, c, flows, zone, time) => ref21_Ready s c flows zone time⟩
theorem ok14 : EntryOk Go.Proofs.Try.prog 14 e14 :=
  entry_ok (T := T14) (fnsOk_cons ok36 (fnsOk_cons ok37 (fnsOk_nil regOk))) mixed (fn := Go.Proofs.Try.f14) (by kernel_rfl) (by decide) (by kernel_rfl) (ref21_Ready.obl K) (fun (s, c, flows, zone, time) => ref21_Ready.eq K s c flows zone time)
def sg41 : Ab.Sig := ⟨[(false, 45)], [(52, [false])], [], false, false, []⟩
noncomputable def T41 : List (Nat × Ab.Spec reg) := []
/-! ### ref18_Check: function 41 -/
@[reducible] def ref18_Check.c4 : Carry := [(.tmp 1, .ptr 1 0 3), (.cell 1 2, .int .i64)]
noncomputable def ref18_Check.j4 (k : Nat) : PUnit × Int → Option (Int) := fun ((), f_Reply) => sel (decide (f_Reply < 1)) (some (1)) (sel (decide (f_Reply > 100000)) (some (1)) (some (0)))
@[reducible] def ref18_Check.c3 : Carry := [(.tmp 5, .int .i64), (.tmp 1, .ptr 1 0 3), (.cell 1 2, .int .i64), (.cell 1 1, .sl 3), (.cell 1 0, .sl 76)]
noncomputable def ref18_Check.j3 (k : Nat) (g1 : Int × PUnit × Int × (List Int) × (List T.Switch) → Option (Int)) : Int × PUnit × Int × (List Int) × (List T.Switch) → Option (Int) := fun (i, (), f_Reply, f_Zones, f_Switches) => g1 (w64 (i + 1), (), f_Reply, f_Zones, f_Switches)
@[reducible] def ref18_Check.c2 : Carry := [(.tmp 6, .int .i64), (.tmp 5, .int .i64), (.tmp 1, .ptr 1 0 3), (.cell 1 2, .int .i64), (.cell 1 1, .sl 3), (.cell 1 0, .sl 76)]
noncomputable def ref18_Check.j2 (k : Nat) (g1 : Int × PUnit × Int × (List Int) × (List T.Switch) → Option (Int)) : Nat → Int × Int × PUnit × Int × (List Int) × (List T.Switch) → Option (Int)
  | 0, _ => none
  | it + 1, (k_, i, (), f_Reply, f_Zones, f_Switches) => sel (decide (k_ < i)) (sel (decide (0 ≤ k_)) (sel (decide (k_ < (↑f_Zones.length : Int))) (sel (decide (0 ≤ i)) (sel (decide (i < (↑f_Zones.length : Int))) (sel (rd f_Zones k_.toNat default == rd f_Zones i.toNat default) (some (17)) ((ref18_Check.j2 k g1 it) (w64 (k_ + 1), i, (), f_Reply, f_Zones, f_Switches))) (none)) (none)) (none)) (none)) (ref18_Check.j3 k g1 (i, (), f_Reply, f_Zones, f_Switches))
@[reducible] def ref18_Check.c1 : Carry := [(.tmp 5, .int .i64), (.tmp 1, .ptr 1 0 3), (.cell 1 2, .int .i64), (.cell 1 1, .sl 3), (.cell 1 0, .sl 76)]
noncomputable def ref18_Check.j1 (k : Nat) : Nat → Int × PUnit × Int × (List Int) × (List T.Switch) → Option (Int)
  | 0, _ => none
  | it + 1, (i, (), f_Reply, f_Zones, f_Switches) => sel (decide (i < (↑f_Zones.length : Int))) (sel (decide (0 ≤ i)) (sel (decide (i < (↑f_Zones.length : Int))) (sel (decide (rd f_Zones i.toNat default < 0)) (some (16)) (sel (decide (0 ≤ i)) (sel (decide (i < (↑f_Zones.length : Int))) (sel (decide (rd f_Zones i.toNat default ≥ (↑f_Switches.length : Int))) (some (16)) (ref18_Check.j2 k (ref18_Check.j1 k it) k (0, i, (), f_Reply, f_Zones, f_Switches))) (none)) (none))) (none)) (none)) (ref18_Check.j4 k ((), f_Reply))
@[reducible] def ref18_Check.c5 : Carry := [(.tmp 1, .ptr 1 0 3), (.cell 1 2, .int .i64), (.cell 1 1, .sl 3), (.cell 1 0, .sl 76)]
noncomputable def ref18_Check.j5 (k : Nat) : PUnit × Int × (List Int) × (List T.Switch) → Option (Int) := fun ((), f_Reply, f_Zones, f_Switches) => ref18_Check.j1 k k (0, (), f_Reply, f_Zones, f_Switches)
@[reducible] def ref18_Check.c0 : Carry := [(.tmp 3, .int .i64), (.tmp 1, .ptr 1 0 3), (.cell 1 2, .int .i64), (.cell 1 1, .sl 3), (.cell 1 0, .sl 76)]
noncomputable def ref18_Check.j0 (k : Nat) : Nat → Int × PUnit × Int × (List Int) × (List T.Switch) → Option (Int)
  | 0, _ => none
  | it + 1, (i, (), f_Reply, f_Zones, f_Switches) => sel (decide (i < (↑f_Switches.length : Int))) (sel (decide (0 ≤ i)) (sel (decide (i < (↑f_Switches.length : Int))) (sel (decide ((rd f_Switches i.toNat default).Above < -1)) (some (16)) (sel (decide ((rd f_Switches i.toNat default).Above ≥ i)) (some (16)) (sel (decide ((rd f_Switches i.toNat default).Since < 0)) (some (8)) (sel (decide ((rd f_Switches i.toNat default).Since > 2147483648)) (some (8)) (sel (decide ((rd f_Switches i.toNat default).Shown < -1)) (some (10)) (sel (decide ((rd f_Switches i.toNat default).Shown > 1)) (some (10)) (sel ((rd f_Switches i.toNat default).Late) (sel ((rd f_Switches i.toNat default).Closed) (some (10)) (sel ((rd f_Switches i.toNat default).Shown == -1) (some (10)) ((ref18_Check.j0 k it) (w64 (i + 1), (), f_Reply, f_Zones, f_Switches)))) ((ref18_Check.j0 k it) (w64 (i + 1), (), f_Reply, f_Zones, f_Switches))))))))) (none)) (none)) (ref18_Check.j5 k ((), f_Reply, f_Zones, f_Switches))
noncomputable def ref18_Check.f (k : Nat) (f : T.Feeder) : Option (Int) := sel (decide ((↑f.Switches.length : Int) > 32)) (some (2)) (sel (decide ((↑f.Zones.length : Int) > 16)) (some (2)) (ref18_Check.j0 k k (0, (), f.Reply, f.Zones, f.Switches)))
noncomputable def ref18_Check.ann (k : Nat) : Ann reg (Int) := (.seq .none (.seq .none (.join ref18_Check.c5 (ref18_Check.j5 k) (.seq .none (.block (.loop ref18_Check.c0 (ref18_Check.j0 k) fun g0 => .none))) (.join ref18_Check.c4 (ref18_Check.j4 k) (.seq .none (.block (.loop ref18_Check.c1 (ref18_Check.j1 k) fun g1 => (.seq .none (.join ref18_Check.c3 (ref18_Check.j3 k g1) (.block (.seq .none (.seq .none (.block (.loop ref18_Check.c2 (ref18_Check.j2 k g1) fun g2 => .none))))) .none))))) .none))))
theorem ref18_Check.obl (k : Nat) : obl (sigs T41) (orc reg T41 (Int)) k (bodyOf Go.Proofs.Try.f41) (ref18_Check.ann k) (kont0 reg sg41 Go.Proofs.Try.f41.results.toList) :=
  (obl_seq obl_none (obl_seq obl_none (obl_join (obl_seq obl_none (obl_block (obl_loop (fun _ => by kernel_rfl) (fun n ⟨i, (), f_Reply, f_Zones, f_Switches⟩ => by kernel_rfl) fun n => obl_none))) (fun ⟨(), f_Reply, f_Zones, f_Switches⟩ => by kernel_rfl) (obl_join (obl_seq obl_none (obl_block (obl_loop (fun _ => by kernel_rfl) (fun n ⟨i, (), f_Reply, f_Zones, f_Switches⟩ => by kernel_rfl) fun n => (obl_seq obl_none (obl_join (obl_block (obl_seq obl_none (obl_seq obl_none (obl_block (obl_loop (fun _ => by kernel_rfl) (fun n ⟨k_, i, (), f_Reply, f_Zones, f_Switches⟩ => by kernel_rfl) fun n => obl_none))))) (fun ⟨i, (), f_Reply, f_Zones, f_Switches⟩ => by kernel_rfl) obl_none))))) (fun ⟨(), f_Reply⟩ => by kernel_rfl) obl_none))))
theorem ref18_Check.eq (k : Nat) (f : T.Feeder) : evFn reg (sigs T41) sg41 Go.Proofs.Try.f41 (orc reg T41 (Int)) k (ref18_Check.ann k) (f) = ref18_Check.f k f := by kernel_rfl
noncomputable def ref18_Check (f : T.Feeder) : Option (Int) := ref18_Check.f K f
noncomputable def e41 : Ab.Spec reg := ⟨sg41, fun (f) => ref18_Check f⟩
theorem ok41 : EntryOk Go.Proofs.Try.prog 41 e41 :=
  entry_ok (T := T41) (fnsOk_nil regOk) mixed (fn := Go.Proofs.Try.f41) (by kernel_rfl) (by decide) (by kernel_rfl) (ref18_Check.obl K) (fun (f) => ref18_Check.eq K f)
def sg29 : Ab.Sig := ⟨[(false, 45), (false, 3)], [(43, [true])], [], false, false, []⟩
noncomputable def T29 : List (Nat × Ab.Spec reg) := [(41, e41)]
/-! ### ref18_Path: function 29 -/
@[reducible] def ref18_Path.c1 : Carry := [(.tmp 5, .own 3 100001)]
noncomputable def ref18_Path.j1 (k : Nat) : (List Int) → Option (List Int) := fun (out) => some (out)
@[reducible] def ref18_Path.c0 : Carry := [(.tmp 5, .own 3 100001), (.tmp 2, .ptr 2 0 3), (.cell 2 0, .sl 76), (.tmp 1, .int .i64)]
noncomputable def ref18_Path.j0 (k : Nat) : Nat → (List Int) × PUnit × (List T.Switch) × Int → Option (List Int)
  | 0, _ => none
  | it + 1, (out, (), f_Switches, s_0) => sel (decide (s_0 ≥ 0)) (sel (decide ((out.length + [s_0].length) * 8 ≤ 140737488355328)) (sel (decide (0 ≤ s_0)) (sel (decide (s_0 < (↑f_Switches.length : Int))) ((ref18_Path.j0 k it) (out ++ [s_0], (), f_Switches, (rd f_Switches s_0.toNat default).Above)) (none)) (none)) (none)) (ref18_Path.j1 k (out))
noncomputable def ref18_Path.f (k : Nat) (f : T.Feeder) (s : Int) : Option (List Int) := obind (ref18_Check f) fun r0 => sel (r0 != 0) (some ([])) (sel (decide (s < 0)) (some ([])) (sel (decide (s ≥ (↑f.Switches.length : Int))) (some ([])) (ref18_Path.j0 k k ([], (), f.Switches, s))))
noncomputable def ref18_Path.ann (k : Nat) : Ann reg (List Int) := (.seq .none (.seq .none (.seq .none (.join ref18_Path.c1 (ref18_Path.j1 k) (.block (.loop ref18_Path.c0 (ref18_Path.j0 k) fun g0 => .none)) .none))))
theorem ref18_Path.obl (k : Nat) : obl (sigs T29) (orc reg T29 (List Int)) k (bodyOf Go.Proofs.Try.f29) (ref18_Path.ann k) (kont0 reg sg29 Go.Proofs.Try.f29.results.toList) :=
  (obl_seq obl_none (obl_seq obl_none (obl_seq obl_none (obl_join (obl_block (obl_loop (fun _ => by kernel_rfl) (fun n ⟨out, (), f_Switches, s_0⟩ => by kernel_rfl) fun n => obl_none)) (fun (out) => by kernel_rfl) obl_none))))
theorem ref18_Path.eq (k : Nat) (f : T.Feeder) (s : Int) : evFn reg (sigs T29) sg29 Go.Proofs.Try.f29 (orc reg T29 (List Int)) k (ref18_Path.ann k) (f, s) = ref18_Path.f k f s := by kernel_rfl
noncomputable def ref18_Path (f : T.Feeder) (s : Int) : Option (List Int) := ref18_Path.f K f s
noncomputable def e29 : Ab.Spec reg := ⟨sg29, fun (f, s) => ref18_Path f s⟩
theorem ok29 : EntryOk Go.Proofs.Try.prog 29 e29 :=
  entry_ok (T := T29) (fnsOk_cons ok41 (fnsOk_nil regOk)) mixed (fn := Go.Proofs.Try.f29) (by kernel_rfl) (by decide) (by kernel_rfl) (ref18_Path.obl K) (fun (f, s) => ref18_Path.eq K f s)
def sg42 : Ab.Sig := ⟨[(false, 45)], [(45, [true, true, false])], [], false, false, []⟩
noncomputable def T42 : List (Nat × Ab.Spec reg) := []
/-! ### ref18_Copy: function 42 -/
noncomputable def ref18_Copy.f (k : Nat) (f : T.Feeder) : Option (T.Feeder) := sel (decide ((([] : List Unit).length + f.Switches.length) * 32 ≤ 140737488355328)) (sel (decide ((([] : List Unit).length + f.Zones.length) * 8 ≤ 140737488355328)) (some ({ Switches := [] ++ f.Switches, Zones := [] ++ f.Zones, Reply := f.Reply : T.Feeder })) (none)) (none)
noncomputable def ref18_Copy.ann (k : Nat) : Ann reg (T.Feeder) := .none
theorem ref18_Copy.obl (k : Nat) : obl (sigs T42) (orc reg T42 (T.Feeder)) k (bodyOf Go.Proofs.Try.f42) (ref18_Copy.ann k) (kont0 reg sg42 Go.Proofs.Try.f42.results.toList) :=
  obl_none
theorem ref18_Copy.eq (k : Nat) (f : T.Feeder) : evFn reg (sigs T42) sg42 Go.Proofs.Try.f42 (orc reg T42 (T.Feeder)) k (ref18_Copy.ann k) (f) = ref18_Copy.f k f := by kernel_rfl
noncomputable def ref18_Copy (f : T.Feeder) : Option (T.Feeder) := ref18_Copy.f K f
noncomputable def e42 : Ab.Spec reg := ⟨sg42, fun (f) => ref18_Copy f⟩
theorem ok42 : EntryOk Go.Proofs.Try.prog 42 e42 :=
  entry_ok (T := T42) (fnsOk_nil regOk) mixed (fn := Go.Proofs.Try.f42) (by kernel_rfl) (by decide) (by kernel_rfl) (ref18_Copy.obl K) (fun (f) => ref18_Copy.eq K f)
def sg22 : Ab.Sig := ⟨[(false, 45), (false, 3), (false, 3)], [(45, [true, true, false]), (52, [false])], [], false, false, []⟩
noncomputable def T22 : List (Nat × Ab.Spec reg) := [(41, e41), (42, e42)]
/-! ### ref18_Answer: function 22 -/
@[reducible] def ref18_Answer.c0 : Carry := [(.cell 9 2, .int .i64), (.cell 9 1, .own 3 100002), (.cell 9 0, .own 76 100003), (.tmp 9, .ptr 9 0 3), (.tmp 6, .ptr 6 0 3)]
noncomputable def ref18_Answer.j0 (k : Nat) : Int × (List Int) × (List T.Switch) × PUnit × PUnit → Option (T.Feeder × Int) := fun (out_Reply, out_Zones, out_Switches, (), ()) => some (({ Switches := out_Switches, Zones := out_Zones, Reply := out_Reply : T.Feeder }, 0))
noncomputable def ref18_Answer.f (k : Nat) (f : T.Feeder) (s : Int) (shown : Int) : Option (T.Feeder × Int) := obind (ref18_Check f) fun r0 => sel (r0 != 0) (some (({ Switches := [], Zones := [], Reply := 0 : T.Feeder }, r0))) (sel (decide (s < 0)) (some (({ Switches := [], Zones := [], Reply := 0 : T.Feeder }, 16))) (sel (decide (s ≥ (↑f.Switches.length : Int))) (some (({ Switches := [], Zones := [], Reply := 0 : T.Feeder }, 16))) (sel (shown != 1) (sel (shown != -1) (some (({ Switches := [], Zones := [], Reply := 0 : T.Feeder }, 10))) (obind (ref18_Copy f) fun r6 => sel (decide (0 ≤ s)) (sel (decide (s < (↑r6.Switches.length : Int))) (sel (shown == -1) (ref18_Answer.j0 k (r6.Reply, r6.Zones, (r6.Switches.set s.toNat { Above := (rd r6.Switches s.toNat default).Above, Since := (rd r6.Switches s.toNat default).Since, Shown := shown, Closed := (rd r6.Switches s.toNat default).Closed, Late := (rd r6.Switches s.toNat default).Late : T.Switch }).set s.toNat { Above := (rd (r6.Switches.set s.toNat { Above := (rd r6.Switches s.toNat default).Above, Since := (rd r6.Switches s.toNat default).Since, Shown := shown, Closed := (rd r6.Switches s.toNat default).Closed, Late := (rd r6.Switches s.toNat default).Late : T.Switch }) s.toNat default).Above, Since := (rd (r6.Switches.set s.toNat { Above := (rd r6.Switches s.toNat default).Above, Since := (rd r6.Switches s.toNat default).Since, Shown := shown, Closed := (rd r6.Switches s.toNat default).Closed, Late := (rd r6.Switches s.toNat default).Late : T.Switch }) s.toNat default).Since, Shown := (rd (r6.Switches.set s.toNat { Above := (rd r6.Switches s.toNat default).Above, Since := (rd r6.Switches s.toNat default).Since, Shown := shown, Closed := (rd r6.Switches s.toNat default).Closed, Late := (rd r6.Switches s.toNat default).Late : T.Switch }) s.toNat default).Shown, Closed := (rd (r6.Switches.set s.toNat { Above := (rd r6.Switches s.toNat default).Above, Since := (rd r6.Switches s.toNat default).Since, Shown := shown, Closed := (rd r6.Switches s.toNat default).Closed, Late := (rd r6.Switches s.toNat default).Late : T.Switch }) s.toNat default).Closed, Late := Bool.false : T.Switch }, (), ())) (ref18_Answer.j0 k (r6.Reply, r6.Zones, r6.Switches.set s.toNat { Above := (rd r6.Switches s.toNat default).Above, Since := (rd r6.Switches s.toNat default).Since, Shown := shown, Closed := (rd r6.Switches s.toNat default).Closed, Late := (rd r6.Switches s.toNat default).Late : T.Switch }, (), ()))) (none)) (none))) (obind (ref18_Copy f) fun r5 => sel (decide (0 ≤ s)) (sel (decide (s < (↑r5.Switches.length : Int))) (sel (shown == -1) (ref18_Answer.j0 k (r5.Reply, r5.Zones, (r5.Switches.set s.toNat { Above := (rd r5.Switches s.toNat default).Above, Since := (rd r5.Switches s.toNat default).Since, Shown := shown, Closed := (rd r5.Switches s.toNat default).Closed, Late := (rd r5.Switches s.toNat default).Late : T.Switch }).set s.toNat { Above := (rd (r5.Switches.set s.toNat { Above := (rd r5.Switches s.toNat default).Above, Since := (rd r5.Switches s.toNat default).Since, Shown := shown, Closed := (rd r5.Switches s.toNat default).Closed, Late := (rd r5.Switches s.toNat default).Late : T.Switch }) s.toNat default).Above, Since := (rd (r5.Switches.set s.toNat { Above := (rd r5.Switches s.toNat default).Above, Since := (rd r5.Switches s.toNat default).Since, Shown := shown, Closed := (rd r5.Switches s.toNat default).Closed, Late := (rd r5.Switches s.toNat default).Late : T.Switch }) s.toNat default).Since, Shown := (rd (r5.Switches.set s.toNat { Above := (rd r5.Switches s.toNat default).Above, Since := (rd r5.Switches s.toNat default).Since, Shown := shown, Closed := (rd r5.Switches s.toNat default).Closed, Late := (rd r5.Switches s.toNat default).Late : T.Switch }) s.toNat default).Shown, Closed := (rd (r5.Switches.set s.toNat { Above := (rd r5.Switches s.toNat default).Above, Since := (rd r5.Switches s.toNat default).Since, Shown := shown, Closed := (rd r5.Switches s.toNat default).Closed, Late := (rd r5.Switches s.toNat default).Late : T.Switch }) s.toNat default).Closed, Late := Bool.false : T.Switch }, (), ())) (ref18_Answer.j0 k (r5.Reply, r5.Zones, r5.Switches.set s.toNat { Above := (rd r5.Switches s.toNat default).Above, Since := (rd r5.Switches s.toNat default).Since, Shown := shown, Closed := (rd r5.Switches s.toNat default).Closed, Late := (rd r5.Switches s.toNat default).Late : T.Switch }, (), ()))) (none)) (none)))))
noncomputable def ref18_Answer.ann (k : Nat) : Ann reg (T.Feeder × Int) := (.seq .none (.seq .none (.seq .none (.seq .none (.seq .none (.seq .none (.seq .none (.join ref18_Answer.c0 (ref18_Answer.j0 k) .none .none))))))))
theorem ref18_Answer.obl (k : Nat) : obl (sigs T22) (orc reg T22 (T.Feeder × Int)) k (bodyOf Go.Proofs.Try.f22) (ref18_Answer.ann k) (kont0 reg sg22 Go.Proofs.Try.f22.results.toList) :=
  (obl_seq obl_none (obl_seq obl_none (obl_seq obl_none (obl_seq obl_none (obl_seq obl_none (obl_seq obl_none (obl_seq obl_none (obl_join obl_none (fun ⟨out_Reply, out_Zones, out_Switches, (), ()⟩ => by kernel_rfl) obl_none))))))))
theorem ref18_Answer.eq (k : Nat) (f : T.Feeder) (s : Int) (shown : Int) : evFn reg (sigs T22) sg22 Go.Proofs.Try.f22 (orc reg T22 (T.Feeder × Int)) k (ref18_Answer.ann k) (f, s, shown) = ref18_Answer.f k f s shown := by kernel_rfl
noncomputable def ref18_Answer (f : T.Feeder) (s : Int) (shown : Int) : Option (T.Feeder × Int) := ref18_Answer.f K f s shown
noncomputable def e22 : Ab.Spec reg := ⟨sg22, fun (f, s, shown) => ref18_Answer f s shown⟩
theorem ok22 : EntryOk Go.Proofs.Try.prog 22 e22 :=
  entry_ok (T := T22) (fnsOk_cons ok41 (fnsOk_cons ok42 (fnsOk_nil regOk))) mixed (fn := Go.Proofs.Try.f22) (by kernel_rfl) (by decide) (by kernel_rfl) (ref18_Answer.obl K) (fun (f, s, shown) => ref18_Answer.eq K f s shown)
def sg24 : Ab.Sig := ⟨[(false, 43), (false, 3)], [(4, [false])], [], false, false, []⟩
noncomputable def T24 : List (Nat × Ab.Spec reg) := []
/-! ### ref01_Has: function 24 -/
@[reducible] def ref01_Has.c1 : Carry := []
noncomputable def ref01_Has.j1 (k : Nat) : Unit → Option (Bool) := fun (()) => some (Bool.false)
@[reducible] def ref01_Has.c0 : Carry := [(.tmp 5, .int .i64), (.tmp 0, .sl 3), (.tmp 1, .int .i64)]
noncomputable def ref01_Has.j0 (k : Nat) : Nat → Int × (List Int) × Int → Option (Bool)
  | 0, _ => none
  | it + 1, (i, l_0, n_0) => sel (decide (i < (↑l_0.length : Int))) (sel (decide (0 ≤ i)) (sel (decide (i < (↑l_0.length : Int))) (sel (rd l_0 i.toNat default == n_0) (some (Bool.true)) ((ref01_Has.j0 k it) (w64 (i + 1), l_0, n_0))) (none)) (none)) (ref01_Has.j1 k ())
noncomputable def ref01_Has.f (k : Nat) (l : List Int) (n : Int) : Option (Bool) := ref01_Has.j0 k k (0, l, n)
noncomputable def ref01_Has.ann (k : Nat) : Ann reg (Bool) := (.seq .none (.join ref01_Has.c1 (ref01_Has.j1 k) (.seq .none (.block (.loop ref01_Has.c0 (ref01_Has.j0 k) fun g0 => .none))) .none))
theorem ref01_Has.obl (k : Nat) : obl (sigs T24) (orc reg T24 (Bool)) k (bodyOf Go.Proofs.Try.f24) (ref01_Has.ann k) (kont0 reg sg24 Go.Proofs.Try.f24.results.toList) :=
  (obl_seq obl_none (obl_join (obl_seq obl_none (obl_block (obl_loop (fun _ => by kernel_rfl) (fun n ⟨i, l_0, n_0⟩ => by kernel_rfl) fun n => obl_none))) (fun () => by kernel_rfl) obl_none))
theorem ref01_Has.eq (k : Nat) (l : List Int) (n : Int) : evFn reg (sigs T24) sg24 Go.Proofs.Try.f24 (orc reg T24 (Bool)) k (ref01_Has.ann k) (l, n) = ref01_Has.f k l n := by kernel_rfl
noncomputable def ref01_Has (l : List Int) (n : Int) : Option (Bool) := ref01_Has.f K l n
noncomputable def e24 : Ab.Spec reg := ⟨sg24, fun (l, n) => ref01_Has l n⟩
theorem ok24 : EntryOk Go.Proofs.Try.prog 24 e24 :=
  entry_ok (T := T24) (fnsOk_nil regOk) mixed (fn := Go.Proofs.Try.f24) (by kernel_rfl) (by decide) (by kernel_rfl) (ref01_Has.obl K) (fun (l, n) => ref01_Has.eq K l n)
def sg25 : Ab.Sig := ⟨[(false, 23), (false, 23)], [(4, [false])], [], false, false, []⟩
noncomputable def T25 : List (Nat × Ab.Spec reg) := []
/-! ### ref20_SameCuts: function 25 -/
@[reducible] def ref20_SameCuts.c1 : Carry := []
noncomputable def ref20_SameCuts.j1 (k : Nat) : Unit → Option (Bool) := fun (()) => some (Bool.true)
@[reducible] def ref20_SameCuts.c0 : Carry := [(.tmp 5, .int .i64), (.tmp 0, .sl 71), (.tmp 1, .sl 71)]
noncomputable def ref20_SameCuts.j0 (k : Nat) : Nat → Int × (List T.Cut) × (List T.Cut) → Option (Bool)
  | 0, _ => none
  | it + 1, (i, a_0, b_0) => sel (decide (i < (↑a_0.length : Int))) (sel (decide (0 ≤ i)) (sel (decide (i < (↑a_0.length : Int))) (sel (decide (0 ≤ i)) (sel (decide (i < (↑b_0.length : Int))) (sel (!((rd a_0 i.toNat default).Off == (rd b_0 i.toNat default).Off && ((rd a_0 i.toNat default).Clear == (rd b_0 i.toNat default).Clear && (rd a_0 i.toNat default).Reason == (rd b_0 i.toNat default).Reason))) (some (Bool.false)) ((ref20_SameCuts.j0 k it) (w64 (i + 1), a_0, b_0))) (none)) (none)) (none)) (none)) (ref20_SameCuts.j1 k ())
noncomputable def ref20_SameCuts.f (k : Nat) (a : List T.Cut) (b : List T.Cut) : Option (Bool) := sel ((↑a.length : Int) != (↑b.length : Int)) (some (Bool.false)) (ref20_SameCuts.j0 k k (0, a, b))
noncomputable def ref20_SameCuts.ann (k : Nat) : Ann reg (Bool) := (.seq .none (.seq .none (.join ref20_SameCuts.c1 (ref20_SameCuts.j1 k) (.seq .none (.block (.loop ref20_SameCuts.c0 (ref20_SameCuts.j0 k) fun g0 => .none))) .none)))
theorem ref20_SameCuts.obl (k : Nat) : obl (sigs T25) (orc reg T25 (Bool)) k (bodyOf Go.Proofs.Try.f25) (ref20_SameCuts.ann k) (kont0 reg sg25 Go.Proofs.Try.f25.results.toList) :=
  (obl_seq obl_none (obl_seq obl_none (obl_join (obl_seq obl_none (obl_block (obl_loop (fun _ => by kernel_rfl) (fun n ⟨i, a_0, b_0⟩ => by kernel_rfl) fun n => obl_none))) (fun () => by kernel_rfl) obl_none)))
theorem ref20_SameCuts.eq (k : Nat) (a : List T.Cut) (b : List T.Cut) : evFn reg (sigs T25) sg25 Go.Proofs.Try.f25 (orc reg T25 (Bool)) k (ref20_SameCuts.ann k) (a, b) = ref20_SameCuts.f k a b := by kernel_rfl
noncomputable def ref20_SameCuts (a : List T.Cut) (b : List T.Cut) : Option (Bool) := ref20_SameCuts.f K a b
noncomputable def e25 : Ab.Spec reg := ⟨sg25, fun (a, b) => ref20_SameCuts a b⟩
theorem ok25 : EntryOk Go.Proofs.Try.prog 25 e25 :=
  entry_ok (T := T25) (fnsOk_nil regOk) mixed (fn := Go.Proofs.Try.f25) (by kernel_rfl) (by decide) (by kernel_rfl) (ref20_SameCuts.obl K) (fun (a, b) => ref20_SameCuts.eq K a b)
def sg26 : Ab.Sig := ⟨[(false, 45), (false, 45)], [(4, [false])], [], false, false, []⟩
noncomputable def T26 : List (Nat × Ab.Spec reg) := []
/-! ### ref18_Same: function 26 -/
@[reducible] def ref18_Same.c2 : Carry := []
noncomputable def ref18_Same.j2 (k : Nat) : Unit → Option (Bool) := fun (()) => some (Bool.true)
@[reducible] def ref18_Same.c1 : Carry := [(.tmp 6, .int .i64), (.tmp 3, .ptr 3 0 3), (.cell 3 1, .sl 3), (.tmp 2, .ptr 2 0 3), (.cell 2 1, .sl 3)]
noncomputable def ref18_Same.j1 (k : Nat) : Nat → Int × PUnit × (List Int) × PUnit × (List Int) → Option (Bool)
  | 0, _ => none
  | it + 1, (i, (), b_Zones, (), a_Zones) => sel (decide (i < (↑a_Zones.length : Int))) (sel (decide (0 ≤ i)) (sel (decide (i < (↑a_Zones.length : Int))) (sel (decide (0 ≤ i)) (sel (decide (i < (↑b_Zones.length : Int))) (sel (rd a_Zones i.toNat default != rd b_Zones i.toNat default) (some (Bool.false)) ((ref18_Same.j1 k it) (w64 (i + 1), (), b_Zones, (), a_Zones))) (none)) (none)) (none)) (none)) (ref18_Same.j2 k ())
@[reducible] def ref18_Same.c3 : Carry := [(.tmp 3, .ptr 3 0 3), (.cell 3 1, .sl 3), (.tmp 2, .ptr 2 0 3), (.cell 2 1, .sl 3)]
noncomputable def ref18_Same.j3 (k : Nat) : PUnit × (List Int) × PUnit × (List Int) → Option (Bool) := fun ((), b_Zones, (), a_Zones) => ref18_Same.j1 k k (0, (), b_Zones, (), a_Zones)
@[reducible] def ref18_Same.c0 : Carry := [(.tmp 5, .int .i64), (.tmp 3, .ptr 3 0 3), (.cell 3 1, .sl 3), (.cell 3 0, .sl 76), (.tmp 2, .ptr 2 0 3), (.cell 2 1, .sl 3), (.cell 2 0, .sl 76)]
noncomputable def ref18_Same.j0 (k : Nat) : Nat → Int × PUnit × (List Int) × (List T.Switch) × PUnit × (List Int) × (List T.Switch) → Option (Bool)
  | 0, _ => none
  | it + 1, (i, (), b_Zones, b_Switches, (), a_Zones, a_Switches) => sel (decide (i < (↑a_Switches.length : Int))) (sel (decide (0 ≤ i)) (sel (decide (i < (↑a_Switches.length : Int))) (sel (decide (0 ≤ i)) (sel (decide (i < (↑b_Switches.length : Int))) (sel (!((rd a_Switches i.toNat default).Above == (rd b_Switches i.toNat default).Above && ((rd a_Switches i.toNat default).Since == (rd b_Switches i.toNat default).Since && ((rd a_Switches i.toNat default).Shown == (rd b_Switches i.toNat default).Shown && ((rd a_Switches i.toNat default).Closed == (rd b_Switches i.toNat default).Closed && (rd a_Switches i.toNat default).Late == (rd b_Switches i.toNat default).Late))))) (some (Bool.false)) ((ref18_Same.j0 k it) (w64 (i + 1), (), b_Zones, b_Switches, (), a_Zones, a_Switches))) (none)) (none)) (none)) (none)) (ref18_Same.j3 k ((), b_Zones, (), a_Zones))
noncomputable def ref18_Same.f (k : Nat) (a : T.Feeder) (b : T.Feeder) : Option (Bool) := sel (a.Reply != b.Reply) (some (Bool.false)) (sel ((↑a.Switches.length : Int) != (↑b.Switches.length : Int)) (some (Bool.false)) (sel ((↑a.Zones.length : Int) != (↑b.Zones.length : Int)) (some (Bool.false)) (ref18_Same.j0 k k (0, (), b.Zones, b.Switches, (), a.Zones, a.Switches))))
noncomputable def ref18_Same.ann (k : Nat) : Ann reg (Bool) := (.seq .none (.seq .none (.join ref18_Same.c3 (ref18_Same.j3 k) (.seq .none (.block (.loop ref18_Same.c0 (ref18_Same.j0 k) fun g0 => .none))) (.join ref18_Same.c2 (ref18_Same.j2 k) (.seq .none (.block (.loop ref18_Same.c1 (ref18_Same.j1 k) fun g1 => .none))) .none))))
theorem ref18_Same.obl (k : Nat) : obl (sigs T26) (orc reg T26 (Bool)) k (bodyOf Go.Proofs.Try.f26) (ref18_Same.ann k) (kont0 reg sg26 Go.Proofs.Try.f26.results.toList) :=
  (obl_seq obl_none (obl_seq obl_none (obl_join (obl_seq obl_none (obl_block (obl_loop (fun _ => by kernel_rfl) (fun n ⟨i, (), b_Zones, b_Switches, (), a_Zones, a_Switches⟩ => by kernel_rfl) fun n => obl_none))) (fun ⟨(), b_Zones, (), a_Zones⟩ => by kernel_rfl) (obl_join (obl_seq obl_none (obl_block (obl_loop (fun _ => by kernel_rfl) (fun n ⟨i, (), b_Zones, (), a_Zones⟩ => by kernel_rfl) fun n => obl_none))) (fun () => by kernel_rfl) obl_none))))
theorem ref18_Same.eq (k : Nat) (a : T.Feeder) (b : T.Feeder) : evFn reg (sigs T26) sg26 Go.Proofs.Try.f26 (orc reg T26 (Bool)) k (ref18_Same.ann k) (a, b) = ref18_Same.f k a b := by kernel_rfl
noncomputable def ref18_Same (a : T.Feeder) (b : T.Feeder) : Option (Bool) := ref18_Same.f K a b
noncomputable def e26 : Ab.Spec reg := ⟨sg26, fun (a, b) => ref18_Same a b⟩
theorem ok26 : EntryOk Go.Proofs.Try.prog 26 e26 :=
  entry_ok (T := T26) (fnsOk_nil regOk) mixed (fn := Go.Proofs.Try.f26) (by kernel_rfl) (by decide) (by kernel_rfl) (ref18_Same.obl K) (fun (a, b) => ref18_Same.eq K a b)
end Go.Proofs.Ytlhknehkcflkgaa
