/- Functions of the program as plain functions, and that they are that. -/
import Derived.Test.YtlhknehkcflkgaaAbK
set_option autoImplicit false
set_option maxRecDepth 100000
set_option linter.unusedVariables false
namespace Go.Proofs.Ytlhknehkcflkgaa
open Go Ab
def sg11 : Ab.Sig := ⟨[(false, 22)], [(102, [false, false])], [], true, true, []⟩
noncomputable def T11 : List (Nat × Ab.Spec reg) := []
/-! ### draw_New: function 11 -/
noncomputable def draw_New.f (k : Nat) (l : List Int) : Option (T.draw_Codes) := sel (decide (0 ≤ mn (↑l.length : Int) 300)) (sel (decide (mn (↑l.length : Int) 300 ≤ (↑l.length : Int))) (some ({ l := List.drop (Int.toNat 0) (List.take (mn (↑l.length : Int) 300).toNat l), at_ := 0 : T.draw_Codes })) (none)) (none)
noncomputable def draw_New.ann (k : Nat) : Ann reg (T.draw_Codes) := .none
theorem draw_New.obl (k : Nat) : obl (sigs T11) (orc reg T11 (T.draw_Codes)) k (bodyOf Go.Proofs.Try.f11) (draw_New.ann k) (kont0 reg sg11 Go.Proofs.Try.f11.results.toList) :=
  obl_none
theorem draw_New.eq (k : Nat) (l : List Int) : evFn reg (sigs T11) sg11 Go.Proofs.Try.f11 (orc reg T11 (T.draw_Codes)) k (draw_New.ann k) (l) = draw_New.f k l := by kernel_rfl
noncomputable def draw_New (l : List Int) : Option (T.draw_Codes) := draw_New.f K l
noncomputable def e11 : Ab.Spec reg := ⟨sg11, fun (l) => draw_New l⟩
theorem ok11 : EntryOk Go.Proofs.Try.prog 11 e11 :=
  entry_ok (T := T11) (fnsOk_nil regOk) mixed (fn := Go.Proofs.Try.f11) (by kernel_rfl) (by decide) (by kernel_rfl) (draw_New.obl K) (fun (l) => draw_New.eq K l)
def sg27 : Ab.Sig := ⟨[(true, 102), (false, 3)], [(3, [false])], [(102, [false, false])], false, false, [1]⟩
noncomputable def T27 : List (Nat × Ab.Spec reg) := []
/-! ### Codes_Next: function 27 -/
@[reducible] def Codes_Next.c0 : Carry := [(.cell 10900000 1, .int .i64), (.tmp 5, .int .i64), (.tmp 0, .ptr 10900000 0 2), (.tmp 1, .int .i64)]
noncomputable def Codes_Next.j0 (k : Nat) : Int × Int × PUnit × Int → Option (Int × T.draw_Codes) := fun (c_at_, v, (), n_0) => sel (n_0 != 0) (some ((Int.tmod v n_0, { l := [], at_ := c_at_ : T.draw_Codes }))) (none)
noncomputable def Codes_Next.f (k : Nat) (c : T.draw_Codes) (n : Int) : Option (Int × T.draw_Codes) := sel (decide (n < 1)) (some ((0, { l := [], at_ := c.at_ : T.draw_Codes }))) (sel (decide (c.at_ ≥ (↑c.l.length : Int))) (some ((0, { l := [], at_ := c.at_ : T.draw_Codes }))) (sel (decide (0 ≤ w64 (w64 (c.at_ + 1) - 1))) (sel (decide (w64 (w64 (c.at_ + 1) - 1) < (↑c.l.length : Int))) (sel (decide (n > 256)) (sel (decide (w64 (c.at_ + 1) < (↑c.l.length : Int))) (sel (decide (0 ≤ w64 (c.at_ + 1))) (sel (decide (w64 (c.at_ + 1) < (↑c.l.length : Int))) (Codes_Next.j0 k (w64 (w64 (c.at_ + 1) + 1), w64 (w64 (w64 (rd c.l (w64 (w64 (c.at_ + 1) - 1)).toNat default) * 256) + w64 (rd c.l (w64 (c.at_ + 1)).toNat default)), (), n)) (none)) (none)) (Codes_Next.j0 k (w64 (c.at_ + 1), w64 (rd c.l (w64 (w64 (c.at_ + 1) - 1)).toNat default), (), n))) (Codes_Next.j0 k (w64 (c.at_ + 1), w64 (rd c.l (w64 (w64 (c.at_ + 1) - 1)).toNat default), (), n))) (none)) (none)))
noncomputable def Codes_Next.ann (k : Nat) : Ann reg (Int × T.draw_Codes) := (.seq .none (.seq .none (.seq .none (.seq .none (.join Codes_Next.c0 (Codes_Next.j0 k) .none .none)))))
theorem Codes_Next.obl (k : Nat) : obl (sigs T27) (orc reg T27 (Int × T.draw_Codes)) k (bodyOf Go.Proofs.Try.f27) (Codes_Next.ann k) (kont0 reg sg27 Go.Proofs.Try.f27.results.toList) :=
  (obl_seq obl_none (obl_seq obl_none (obl_seq obl_none (obl_seq obl_none (obl_join obl_none (fun ⟨c_at_, v, (), n_0⟩ => by kernel_rfl) obl_none)))))
theorem Codes_Next.eq (k : Nat) (c : T.draw_Codes) (n : Int) : evFn reg (sigs T27) sg27 Go.Proofs.Try.f27 (orc reg T27 (Int × T.draw_Codes)) k (Codes_Next.ann k) (c, n) = Codes_Next.f k c n := by kernel_rfl
noncomputable def Codes_Next (c : T.draw_Codes) (n : Int) : Option (Int × T.draw_Codes) := Codes_Next.f K c n
noncomputable def e27 : Ab.Spec reg := ⟨sg27, fun (c, n) => Codes_Next c n⟩
theorem ok27 : EntryOk Go.Proofs.Try.prog 27 e27 :=
  entry_ok (T := T27) (fnsOk_nil regOk) mixed (fn := Go.Proofs.Try.f27) (by kernel_rfl) (by decide) (by kernel_rfl) (Codes_Next.obl K) (fun (c, n) => Codes_Next.eq K c n)
def sg32 : Ab.Sig := ⟨[(true, 102), (false, 3), (false, 3)], [(3, [false])], [(102, [false, false])], false, false, [1]⟩
noncomputable def T32 : List (Nat × Ab.Spec reg) := [(27, e27)]
/-! ### Codes_Range: function 32 -/
noncomputable def Codes_Range.f (k : Nat) (c : T.draw_Codes) (low : Int) (high : Int) : Option (Int × T.draw_Codes) := obind (Codes_Next c (w64 (w64 (high - low) + 1))) fun r0 => some ((w64 (low + r0.fst), { l := [], at_ := r0.snd.at_ : T.draw_Codes }))
noncomputable def Codes_Range.ann (k : Nat) : Ann reg (Int × T.draw_Codes) := .none
theorem Codes_Range.obl (k : Nat) : obl (sigs T32) (orc reg T32 (Int × T.draw_Codes)) k (bodyOf Go.Proofs.Try.f32) (Codes_Range.ann k) (kont0 reg sg32 Go.Proofs.Try.f32.results.toList) :=
  obl_none
theorem Codes_Range.eq (k : Nat) (c : T.draw_Codes) (low : Int) (high : Int) : evFn reg (sigs T32) sg32 Go.Proofs.Try.f32 (orc reg T32 (Int × T.draw_Codes)) k (Codes_Range.ann k) (c, low, high) = Codes_Range.f k c low high := by kernel_rfl
noncomputable def Codes_Range (c : T.draw_Codes) (low : Int) (high : Int) : Option (Int × T.draw_Codes) := Codes_Range.f K c low high
noncomputable def e32 : Ab.Spec reg := ⟨sg32, fun (c, low, high) => Codes_Range c low high⟩
theorem ok32 : EntryOk Go.Proofs.Try.prog 32 e32 :=
  entry_ok (T := T32) (fnsOk_cons ok27 (fnsOk_nil regOk)) mixed (fn := Go.Proofs.Try.f32) (by kernel_rfl) (by decide) (by kernel_rfl) (Codes_Range.obl K) (fun (c, low, high) => Codes_Range.eq K c low high)
def sg28 : Ab.Sig := ⟨[(true, 102), (false, 3)], [(4, [false])], [(102, [false, false])], false, false, [1]⟩
noncomputable def T28 : List (Nat × Ab.Spec reg) := [(27, e27)]
/-! ### Codes_One: function 28 -/
noncomputable def Codes_One.f (k : Nat) (c : T.draw_Codes) (n : Int) : Option (Bool × T.draw_Codes) := obind (Codes_Next c n) fun r0 => some ((r0.fst == w64 (n - 1), { l := [], at_ := r0.snd.at_ : T.draw_Codes }))
noncomputable def Codes_One.ann (k : Nat) : Ann reg (Bool × T.draw_Codes) := .none
theorem Codes_One.obl (k : Nat) : obl (sigs T28) (orc reg T28 (Bool × T.draw_Codes)) k (bodyOf Go.Proofs.Try.f28) (Codes_One.ann k) (kont0 reg sg28 Go.Proofs.Try.f28.results.toList) :=
  obl_none
theorem Codes_One.eq (k : Nat) (c : T.draw_Codes) (n : Int) : evFn reg (sigs T28) sg28 Go.Proofs.Try.f28 (orc reg T28 (Bool × T.draw_Codes)) k (Codes_One.ann k) (c, n) = Codes_One.f k c n := by kernel_rfl
noncomputable def Codes_One (c : T.draw_Codes) (n : Int) : Option (Bool × T.draw_Codes) := Codes_One.f K c n
noncomputable def e28 : Ab.Spec reg := ⟨sg28, fun (c, n) => Codes_One c n⟩
theorem ok28 : EntryOk Go.Proofs.Try.prog 28 e28 :=
  entry_ok (T := T28) (fnsOk_cons ok27 (fnsOk_nil regOk)) mixed (fn := Go.Proofs.Try.f28) (by kernel_rfl) (by decide) (by kernel_rfl) (Codes_One.obl K) (fun (c, n) => Codes_One.eq K c n)
def sg47 : Ab.Sig := ⟨[(true, 102)], [(3, [false])], [(102, [false, false])], false, false, [1]⟩
noncomputable def T47 : List (Nat × Ab.Spec reg) := [(27, e27)]
/-! ### Codes_Truth: function 47 -/
noncomputable def Codes_Truth.f (k : Nat) (c : T.draw_Codes) : Option (Int × T.draw_Codes) := obind (Codes_Next c 3) fun r0 => some ((w64 (r0.fst - 1), { l := [], at_ := r0.snd.at_ : T.draw_Codes }))
noncomputable def Codes_Truth.ann (k : Nat) : Ann reg (Int × T.draw_Codes) := .none
theorem Codes_Truth.obl (k : Nat) : obl (sigs T47) (orc reg T47 (Int × T.draw_Codes)) k (bodyOf Go.Proofs.Try.f47) (Codes_Truth.ann k) (kont0 reg sg47 Go.Proofs.Try.f47.results.toList) :=
  obl_none
theorem Codes_Truth.eq (k : Nat) (c : T.draw_Codes) : evFn reg (sigs T47) sg47 Go.Proofs.Try.f47 (orc reg T47 (Int × T.draw_Codes)) k (Codes_Truth.ann k) (c) = Codes_Truth.f k c := by kernel_rfl
noncomputable def Codes_Truth (c : T.draw_Codes) : Option (Int × T.draw_Codes) := Codes_Truth.f K c
noncomputable def e47 : Ab.Spec reg := ⟨sg47, fun (c) => Codes_Truth c⟩
theorem ok47 : EntryOk Go.Proofs.Try.prog 47 e47 :=
  entry_ok (T := T47) (fnsOk_cons ok27 (fnsOk_nil regOk)) mixed (fn := Go.Proofs.Try.f47) (by kernel_rfl) (by decide) (by kernel_rfl) (Codes_Truth.obl K) (fun (c) => Codes_Truth.eq K c)
def sg15 : Ab.Sig := ⟨[], [(56, [false, false, false, false, false])], [], false, false, []⟩
noncomputable def T15 : List (Nat × Ab.Spec reg) := []
/-! ### restore_None: function 15 -/
noncomputable def restore_None.f (k : Nat)  : Option (T.Restoring) := some ({ Zone := -1, First := -1, Second := -1, Step := 0, Time := 0 : T.Restoring })
noncomputable def restore_None.ann (k : Nat) : Ann reg (T.Restoring) := .none
theorem restore_None.obl (k : Nat) : obl (sigs T15) (orc reg T15 (T.Restoring)) k (bodyOf Go.Proofs.Try.f15) (restore_None.ann k) (kont0 reg sg15 Go.Proofs.Try.f15.results.toList) :=
  obl_none
theorem restore_None.eq (k : Nat)  : evFn reg (sigs T15) sg15 Go.Proofs.Try.f15 (orc reg T15 (T.Restoring)) k (restore_None.ann k) () = restore_None.f k  := by kernel_rfl
noncomputable def restore_None (_ : Unit) : Option (T.Restoring) := restore_None.f K
noncomputable def e15 : Ab.Spec reg := ⟨sg15, fun _ => restore_None ()⟩
theorem ok15 : EntryOk Go.Proofs.Try.prog 15 e15 :=
  entry_ok (T := T15) (fnsOk_nil regOk) mixed (fn := Go.Proofs.Try.f15) (by kernel_rfl) (by decide) (by kernel_rfl) (restore_None.obl K) (fun _ => restore_None.eq K)
def sg99 : Ab.Sig := ⟨[(false, 27), (false, 3), (false, 3)], [(4, [false])], [], false, false, []⟩
noncomputable def T99 : List (Nat × Ab.Spec reg) := []
/-! ### plan_spanIn: function 99 -/
noncomputable def plan_spanIn.f (k : Nat) (s : T.Span) (low : Int) (high : Int) : Option (Bool) := sel (decide (low ≤ s.Low)) (sel (decide (s.Low ≤ s.High)) (some (decide (s.High ≤ high))) (some (Bool.false))) (some (Bool.false))
noncomputable def plan_spanIn.ann (k : Nat) : Ann reg (Bool) := .none
theorem plan_spanIn.obl (k : Nat) : obl (sigs T99) (orc reg T99 (Bool)) k (bodyOf Go.Proofs.Try.f99) (plan_spanIn.ann k) (kont0 reg sg99 Go.Proofs.Try.f99.results.toList) :=
  obl_none
theorem plan_spanIn.eq (k : Nat) (s : T.Span) (low : Int) (high : Int) : evFn reg (sigs T99) sg99 Go.Proofs.Try.f99 (orc reg T99 (Bool)) k (plan_spanIn.ann k) (s, low, high) = plan_spanIn.f k s low high := by kernel_rfl
noncomputable def plan_spanIn (s : T.Span) (low : Int) (high : Int) : Option (Bool) := plan_spanIn.f K s low high
noncomputable def e99 : Ab.Spec reg := ⟨sg99, fun (s, low, high) => plan_spanIn s low high⟩
theorem ok99 : EntryOk Go.Proofs.Try.prog 99 e99 :=
  entry_ok (T := T99) (fnsOk_nil regOk) mixed (fn := Go.Proofs.Try.f99) (by kernel_rfl) (by decide) (by kernel_rfl) (plan_spanIn.obl K) (fun (s, low, high) => plan_spanIn.eq K s low high)
def sg81 : Ab.Sig := ⟨[(false, 31)], [(52, [false])], [], false, false, []⟩
noncomputable def T81 : List (Nat × Ab.Spec reg) := [(99, e99)]
/-! ### plan_Check: function 81 -/
@[reducible] def plan_Check.c2 : Carry := []
noncomputable def plan_Check.j2 (k : Nat) : Unit → Option (Int) := fun (()) => some (0)
@[reducible] def plan_Check.c1 : Carry := [(.tmp 40, .int .i64), (.tmp 39, .int .i64), (.tmp 38, .sl 89), (.tmp 5, .int .i64)]
noncomputable def plan_Check.j1 (k : Nat) : Nat → Int × Int × (List T.Road) × Int → Option (Int)
  | 0, _ => none
  | it + 1, (t40, t39, t38, n) => sel (decide (t40 < t39)) (sel (decide (0 ≤ t40)) (sel (decide (t40 < (↑t38.length : Int))) (sel (decide ((rd t38 t40.toNat default).From < 0)) (some (4)) (sel (decide ((rd t38 t40.toNat default).From ≥ n)) (some (4)) (sel (decide ((rd t38 t40.toNat default).To < 0)) (some (4)) (sel (decide ((rd t38 t40.toNat default).To ≥ n)) (some (4)) (sel ((rd t38 t40.toNat default).From == (rd t38 t40.toNat default).To) (some (4)) (sel (decide ((rd t38 t40.toNat default).Length < 1)) (some (1)) (sel (decide ((rd t38 t40.toNat default).Length > 100000)) (some (1)) (sel (decide ((rd t38 t40.toNat default).Area < 1)) (some (1)) (sel (decide ((rd t38 t40.toNat default).Area > 1000)) (some (1)) (obind (plan_spanIn (rd t38 t40.toNat default).Rest 1 262144) fun r12 => sel (!r12) (some (1)) (obind (plan_spanIn (rd t38 t40.toNat default).Lift (-2199023255552) 2199023255552) fun r14 => sel (!r14) (some (1)) ((plan_Check.j1 k it) (w64 (t40 + 1), t39, t38, n))))))))))))) (none)) (none)) (plan_Check.j2 k ())
@[reducible] def plan_Check.c3 : Carry := [(.tmp 1, .ptr 1 0 2), (.cell 1 1, .sl 89), (.cell 1 0, .sl 108)]
noncomputable def plan_Check.j3 (k : Nat) : PUnit × (List T.Road) × (List T.Place) → Option (Int) := fun ((), m_Roads, m_Places) => plan_Check.j1 k k (0, (↑m_Roads.length : Int), m_Roads, (↑m_Places.length : Int))
@[reducible] def plan_Check.c0 : Carry := [(.tmp 21, .int .i64), (.tmp 20, .int .i64), (.tmp 19, .sl 108), (.tmp 1, .ptr 1 0 2), (.cell 1 1, .sl 89), (.cell 1 0, .sl 108)]
noncomputable def plan_Check.j0 (k : Nat) : Nat → Int × Int × (List T.Place) × PUnit × (List T.Road) × (List T.Place) → Option (Int)
  | 0, _ => none
  | it + 1, (t21, t20, t19, (), m_Roads, m_Places) => sel (decide (t21 < t20)) (sel (decide (0 ≤ t21)) (sel (decide (t21 < (↑t19.length : Int))) (sel (decide ((rd t19 t21.toNat default).Height < -10000)) (some (1)) (sel (decide ((rd t19 t21.toNat default).Height > 10000)) (some (1)) ((plan_Check.j0 k it) (w64 (t21 + 1), t20, t19, (), m_Roads, m_Places)))) (none)) (none)) (plan_Check.j3 k ((), m_Roads, m_Places))
noncomputable def plan_Check.f (k : Nat) (m : T.Mine) : Option (Int) := sel (decide ((↑m.Places.length : Int) > 64)) (some (2)) (sel (decide ((↑m.Roads.length : Int) > 128)) (some (2)) (plan_Check.j0 k k (0, (↑m.Places.length : Int), m.Places, (), m.Roads, m.Places)))
noncomputable def plan_Check.ann (k : Nat) : Ann reg (Int) := (.seq .none (.seq .none (.join plan_Check.c3 (plan_Check.j3 k) (.seq .none (.block (.loop plan_Check.c0 (plan_Check.j0 k) fun g0 => .none))) (.seq .none (.join plan_Check.c2 (plan_Check.j2 k) (.seq .none (.block (.loop plan_Check.c1 (plan_Check.j1 k) fun g1 => .none))) .none)))))
theorem plan_Check.obl (k : Nat) : obl (sigs T81) (orc reg T81 (Int)) k (bodyOf Go.Proofs.Try.f81) (plan_Check.ann k) (kont0 reg sg81 Go.Proofs.Try.f81.results.toList) :=
  (obl_seq obl_none (obl_seq obl_none (obl_join (obl_seq obl_none (obl_block (obl_loop (fun _ => by kernel_rfl) (fun n ⟨t21, t20, t19, (), m_Roads, m_Places⟩ => by kernel_rfl) fun n => obl_none))) (fun ⟨(), m_Roads, m_Places⟩ => by kernel_rfl) (obl_seq obl_none (obl_join (obl_seq obl_none (obl_block (obl_loop (fun _ => by kernel_rfl) (fun n ⟨t40, t39, t38, n⟩ => by kernel_rfl) fun n => obl_none))) (fun () => by kernel_rfl) obl_none)))))
theorem plan_Check.eq (k : Nat) (m : T.Mine) : evFn reg (sigs T81) sg81 Go.Proofs.Try.f81 (orc reg T81 (Int)) k (plan_Check.ann k) (m) = plan_Check.f k m := by kernel_rfl
noncomputable def plan_Check (m : T.Mine) : Option (Int) := plan_Check.f K m
noncomputable def e81 : Ab.Spec reg := ⟨sg81, fun (m) => plan_Check m⟩
theorem ok81 : EntryOk Go.Proofs.Try.prog 81 e81 :=
  entry_ok (T := T81) (fnsOk_cons ok99 (fnsOk_nil regOk)) mixed (fn := Go.Proofs.Try.f81) (by kernel_rfl) (by decide) (by kernel_rfl) (plan_Check.obl K) (fun (m) => plan_Check.eq K m)
def sg82 : Ab.Sig := ⟨[(false, 147)], [(52, [false])], [], false, false, []⟩
noncomputable def T82 : List (Nat × Ab.Spec reg) := []
/-! ### fan_Check: function 82 -/
@[reducible] def fan_Check.c1 : Carry := []
noncomputable def fan_Check.j1 (k : Nat) : Unit → Option (Int) := fun (()) => some (0)
@[reducible] def fan_Check.c0 : Carry := [(.tmp 21, .int .i64), (.tmp 20, .int .i64), (.tmp 19, .sl 168), (.tmp 1, .ptr 1 0 4), (.cell 1 3, .sl 168)]
noncomputable def fan_Check.j0 (k : Nat) : Nat → Int × Int × (List T.Point) × PUnit × (List T.Point) → Option (Int)
  | 0, _ => none
  | it + 1, (t21, t20, t19, (), f_Curve) => sel (decide (t21 < t20)) (sel (decide (0 ≤ t21)) (sel (decide (t21 < (↑t19.length : Int))) (sel (decide ((rd t19 t21.toNat default).Flow < -1048576)) (some (1)) (sel (decide ((rd t19 t21.toNat default).Flow > 1048576)) (some (1)) (sel (decide ((rd t19 t21.toNat default).Pressure < 0)) (some (1)) (sel (decide ((rd t19 t21.toNat default).Pressure > 2199023255552)) (some (1)) (sel (decide (t21 > 0)) (sel (decide (0 ≤ w64 (t21 - 1))) (sel (decide (w64 (t21 - 1) < (↑f_Curve.length : Int))) (sel (decide ((rd t19 t21.toNat default).Flow ≤ (rd f_Curve (w64 (t21 - 1)).toNat default).Flow)) (some (14)) (sel (decide (0 ≤ w64 (t21 - 1))) (sel (decide (w64 (t21 - 1) < (↑f_Curve.length : Int))) (sel (decide ((rd t19 t21.toNat default).Pressure > (rd f_Curve (w64 (t21 - 1)).toNat default).Pressure)) (some (14)) ((fan_Check.j0 k it) (w64 (t21 + 1), t20, t19, (), f_Curve))) (none)) (none))) (none)) (none)) ((fan_Check.j0 k it) (w64 (t21 + 1), t20, t19, (), f_Curve))))))) (none)) (none)) (fan_Check.j1 k ())
noncomputable def fan_Check.f (k : Nat) (f : T.Fan) : Option (Int) := sel (decide (f.Road < 0)) (some (4)) (sel (decide ((↑f.Curve.length : Int) < 1)) (some (2)) (sel (decide ((↑f.Curve.length : Int) > 8)) (some (2)) (fan_Check.j0 k k (0, (↑f.Curve.length : Int), f.Curve, (), f.Curve))))
noncomputable def fan_Check.ann (k : Nat) : Ann reg (Int) := (.seq .none (.seq .none (.seq .none (.join fan_Check.c1 (fan_Check.j1 k) (.seq .none (.block (.loop fan_Check.c0 (fan_Check.j0 k) fun g0 => .none))) .none))))
theorem fan_Check.obl (k : Nat) : obl (sigs T82) (orc reg T82 (Int)) k (bodyOf Go.Proofs.Try.f82) (fan_Check.ann k) (kont0 reg sg82 Go.Proofs.Try.f82.results.toList) :=
  (obl_seq obl_none (obl_seq obl_none (obl_seq obl_none (obl_join (obl_seq obl_none (obl_block (obl_loop (fun _ => by kernel_rfl) (fun n ⟨t21, t20, t19, (), f_Curve⟩ => by kernel_rfl) fun n => obl_none))) (fun () => by kernel_rfl) obl_none))))
theorem fan_Check.eq (k : Nat) (f : T.Fan) : evFn reg (sigs T82) sg82 Go.Proofs.Try.f82 (orc reg T82 (Int)) k (fan_Check.ann k) (f) = fan_Check.f k f := by kernel_rfl
noncomputable def fan_Check (f : T.Fan) : Option (Int) := fan_Check.f K f
noncomputable def e82 : Ab.Spec reg := ⟨sg82, fun (f) => fan_Check f⟩
theorem ok82 : EntryOk Go.Proofs.Try.prog 82 e82 :=
  entry_ok (T := T82) (fnsOk_nil regOk) mixed (fn := Go.Proofs.Try.f82) (by kernel_rfl) (by decide) (by kernel_rfl) (fan_Check.obl K) (fun (f) => fan_Check.eq K f)
def sg83 : Ab.Sig := ⟨[(false, 33)], [(52, [false])], [], false, false, []⟩
noncomputable def T83 : List (Nat × Ab.Spec reg) := []
/-! ### door_Check: function 83 -/
@[reducible] def door_Check.c4 : Carry := []
noncomputable def door_Check.j4 (k : Nat) : Unit → Option (Int) := fun (()) => some (0)
@[reducible] def door_Check.c3 : Carry := [(.tmp 13, .int .i64), (.tmp 12, .int .i64), (.tmp 11, .sl 149), (.tmp 0, .sl 149)]
noncomputable def door_Check.j3 (k : Nat) (g0 : Int × Int × (List T.Door) × (List T.Door) → Option (Int)) : Int × Int × (List T.Door) × (List T.Door) → Option (Int) := fun (t13, t12, t11, l_3) => g0 (w64 (t13 + 1), t12, t11, l_3)
@[reducible] def door_Check.c2 : Carry := [(.tmp 5, .bool), (.cell 4 1, .int .i64), (.tmp 3, .int .i64), (.tmp 4, .ptr 4 0 3), (.tmp 13, .int .i64), (.tmp 12, .int .i64), (.tmp 11, .sl 149), (.tmp 0, .sl 149)]
noncomputable def door_Check.j2 (k : Nat) (g0 : Int × Int × (List T.Door) × (List T.Door) → Option (Int)) : Bool × Int × Int × PUnit × Int × Int × (List T.Door) × (List T.Door) → Option (Int) := fun (falls, d_Other, i, (), t13, t12, t11, l_2) => sel (!falls) (some (15)) (sel (d_Other != -1) (sel (decide (d_Other < 0)) (some (15)) (sel (decide (d_Other ≥ (↑l_2.length : Int))) (some (15)) (sel (d_Other == i) (some (15)) (sel (decide (0 ≤ d_Other)) (sel (decide (d_Other < (↑l_2.length : Int))) (sel ((rd l_2 d_Other.toNat default).Other != i) (some (15)) (door_Check.j3 k g0 (t13, t12, t11, l_2))) (none)) (none))))) (door_Check.j3 k g0 (t13, t12, t11, l_2)))
@[reducible] def door_Check.c1 : Carry := [(.tmp 34, .int .i64), (.tmp 33, .int .i64), (.tmp 32, .sl 3), (.tmp 5, .bool), (.cell 4 2, .sl 3), (.cell 4 1, .int .i64), (.tmp 3, .int .i64), (.tmp 4, .ptr 4 0 3), (.tmp 13, .int .i64), (.tmp 12, .int .i64), (.tmp 11, .sl 149), (.tmp 0, .sl 149)]
noncomputable def door_Check.j1 (k : Nat) (g0 : Int × Int × (List T.Door) × (List T.Door) → Option (Int)) : Nat → Int × Int × (List Int) × Bool × (List Int) × Int × Int × PUnit × Int × Int × (List T.Door) × (List T.Door) → Option (Int)
  | 0, _ => none
  | it + 1, (t34, t33, t32, falls, d_Rests, d_Other, i, (), t13, t12, t11, l_1) => sel (decide (t34 < t33)) (sel (decide (0 ≤ t34)) (sel (decide (t34 < (↑t32.length : Int))) (sel (decide (rd t32 t34.toNat default < 0)) (some (1)) (sel (decide (rd t32 t34.toNat default > 262144)) (some (1)) (sel (falls) (sel (t34 == 0) ((door_Check.j1 k g0 it) (w64 (t34 + 1), t33, t32, Bool.true, d_Rests, d_Other, i, (), t13, t12, t11, l_1)) (sel (decide (0 ≤ w64 (t34 - 1))) (sel (decide (w64 (t34 - 1) < (↑d_Rests.length : Int))) ((door_Check.j1 k g0 it) (w64 (t34 + 1), t33, t32, decide (rd t32 t34.toNat default < rd d_Rests (w64 (t34 - 1)).toNat default), d_Rests, d_Other, i, (), t13, t12, t11, l_1)) (none)) (none))) ((door_Check.j1 k g0 it) (w64 (t34 + 1), t33, t32, Bool.false, d_Rests, d_Other, i, (), t13, t12, t11, l_1))))) (none)) (none)) (door_Check.j2 k g0 (falls, d_Other, i, (), t13, t12, t11, l_1))
@[reducible] def door_Check.c0 : Carry := [(.tmp 13, .int .i64), (.tmp 12, .int .i64), (.tmp 11, .sl 149), (.tmp 0, .sl 149)]
noncomputable def door_Check.j0 (k : Nat) : Nat → Int × Int × (List T.Door) × (List T.Door) → Option (Int)
  | 0, _ => none
  | it + 1, (t13, t12, t11, l_0) => sel (decide (t13 < t12)) (sel (decide (0 ≤ t13)) (sel (decide (t13 < (↑t11.length : Int))) (sel (decide ((rd t11 t13.toNat default).Road < 0)) (some (4)) (sel (decide ((↑(rd t11 t13.toNat default).Rests.length : Int) < 2)) (some (2)) (sel (decide ((↑(rd t11 t13.toNat default).Rests.length : Int) > 6)) (some (2)) (door_Check.j1 k (door_Check.j0 k it) k (0, (↑(rd t11 t13.toNat default).Rests.length : Int), (rd t11 t13.toNat default).Rests, Bool.true, (rd t11 t13.toNat default).Rests, (rd t11 t13.toNat default).Other, t13, (), t13, t12, t11, l_0))))) (none)) (none)) (door_Check.j4 k ())
noncomputable def door_Check.f (k : Nat) (l : List T.Door) : Option (Int) := sel (decide ((↑l.length : Int) > 16)) (some (2)) (door_Check.j0 k k (0, (↑l.length : Int), l, l))
noncomputable def door_Check.ann (k : Nat) : Ann reg (Int) := (.seq .none (.seq .none (.join door_Check.c4 (door_Check.j4 k) (.seq .none (.block (.loop door_Check.c0 (door_Check.j0 k) fun g0 => (.seq .none (.seq .none (.join door_Check.c3 (door_Check.j3 k g0) (.block (.seq .none (.seq .none (.seq .none (.seq .none (.join door_Check.c2 (door_Check.j2 k g0) (.seq .none (.block (.loop door_Check.c1 (door_Check.j1 k g0) fun g1 => .none))) .none)))))) .none)))))) .none)))
theorem door_Check.obl (k : Nat) : obl (sigs T83) (orc reg T83 (Int)) k (bodyOf Go.Proofs.Try.f83) (door_Check.ann k) (kont0 reg sg83 Go.Proofs.Try.f83.results.toList) :=
  (obl_seq obl_none (obl_seq obl_none (obl_join (obl_seq obl_none (obl_block (obl_loop (fun _ => by kernel_rfl) (fun n ⟨t13, t12, t11, l_0⟩ => by kernel_rfl) fun n => (obl_seq obl_none (obl_seq obl_none (obl_join (obl_block (obl_seq obl_none (obl_seq obl_none (obl_seq obl_none (obl_seq obl_none (obl_join (obl_seq obl_none (obl_block (obl_loop (fun _ => by kernel_rfl) (fun n ⟨t34, t33, t32, falls, d_Rests, d_Other, i, (), t13, t12, t11, l_1⟩ => by kernel_rfl) fun n => obl_none))) (fun ⟨falls, d_Other, i, (), t13, t12, t11, l_2⟩ => by kernel_rfl) obl_none)))))) (fun ⟨t13, t12, t11, l_3⟩ => by kernel_rfl) obl_none)))))) (fun () => by kernel_rfl) obl_none)))
theorem door_Check.eq (k : Nat) (l : List T.Door) : evFn reg (sigs T83) sg83 Go.Proofs.Try.f83 (orc reg T83 (Int)) k (door_Check.ann k) (l) = door_Check.f k l := by kernel_rfl
noncomputable def door_Check (l : List T.Door) : Option (Int) := door_Check.f K l
noncomputable def e83 : Ab.Spec reg := ⟨sg83, fun (l) => door_Check l⟩
theorem ok83 : EntryOk Go.Proofs.Try.prog 83 e83 :=
  entry_ok (T := T83) (fnsOk_nil regOk) mixed (fn := Go.Proofs.Try.f83) (by kernel_rfl) (by decide) (by kernel_rfl) (door_Check.obl K) (fun (l) => door_Check.eq K l)
def sg62 : Ab.Sig := ⟨[(false, 35)], [(52, [false])], [], false, false, []⟩
noncomputable def T62 : List (Nat × Ab.Spec reg) := [(81, e81), (82, e82), (83, e83)]
/-! ### branch_Check: function 62 -/
@[reducible] def branch_Check.c2 : Carry := []
noncomputable def branch_Check.j2 (k : Nat) : Unit → Option (Int) := fun (()) => some (0)
@[reducible] def branch_Check.c1 : Carry := [(.tmp 49, .int .i64), (.tmp 48, .int .i64), (.tmp 47, .sl 149), (.tmp 1, .ptr 1 0 4), (.cell 1 1, .sl 89)]
noncomputable def branch_Check.j1 (k : Nat) : Nat → Int × Int × (List T.Door) × PUnit × (List T.Road) → Option (Int)
  | 0, _ => none
  | it + 1, (t49, t48, t47, (), a_Mine_Roads) => sel (decide (t49 < t48)) (sel (decide (0 ≤ t49)) (sel (decide (t49 < (↑t47.length : Int))) (sel (decide ((rd t47 t49.toNat default).Road ≥ (↑a_Mine_Roads.length : Int))) (some (4)) ((branch_Check.j1 k it) (w64 (t49 + 1), t48, t47, (), a_Mine_Roads))) (none)) (none)) (branch_Check.j2 k ())
@[reducible] def branch_Check.c3 : Carry := [(.tmp 1, .ptr 1 0 4), (.cell 1 3, .sl 149), (.cell 1 1, .sl 89)]
noncomputable def branch_Check.j3 (k : Nat) : PUnit × (List T.Door) × (List T.Road) → Option (Int) := fun ((), a_Doors, a_Mine_Roads) => obind (door_Check a_Doors) fun r0 => sel (r0 != 0) (some (r0)) (branch_Check.j1 k k (0, (↑a_Doors.length : Int), a_Doors, (), a_Mine_Roads))
@[reducible] def branch_Check.c0 : Carry := [(.tmp 23, .int .i64), (.tmp 22, .int .i64), (.tmp 21, .sl 147), (.tmp 1, .ptr 1 0 4), (.cell 1 3, .sl 149), (.cell 1 1, .sl 89)]
noncomputable def branch_Check.j0 (k : Nat) : Nat → Int × Int × (List T.Fan) × PUnit × (List T.Door) × (List T.Road) → Option (Int)
  | 0, _ => none
  | it + 1, (t23, t22, t21, (), a_Doors, a_Mine_Roads) => sel (decide (t23 < t22)) (sel (decide (0 ≤ t23)) (sel (decide (t23 < (↑t21.length : Int))) (obind (fan_Check (rd t21 t23.toNat default)) fun r3 => sel (r3 != 0) (some (r3)) (sel (decide ((rd t21 t23.toNat default).Road ≥ (↑a_Mine_Roads.length : Int))) (some (4)) ((branch_Check.j0 k it) (w64 (t23 + 1), t22, t21, (), a_Doors, a_Mine_Roads)))) (none)) (none)) (branch_Check.j3 k ((), a_Doors, a_Mine_Roads))
noncomputable def branch_Check.f (k : Nat) (a : T.Air) : Option (Int) := obind (plan_Check a.Mine) fun r0 => sel (r0 != 0) (some (r0)) (sel (decide ((↑a.Fans.length : Int) > 8)) (some (2)) (branch_Check.j0 k k (0, (↑a.Fans.length : Int), a.Fans, (), a.Doors, a.Mine.Roads)))
noncomputable def branch_Check.ann (k : Nat) : Ann reg (Int) := (.seq .none (.seq .none (.seq .none (.join branch_Check.c3 (branch_Check.j3 k) (.seq .none (.block (.loop branch_Check.c0 (branch_Check.j0 k) fun g0 => .none))) (.seq .none (.join branch_Check.c2 (branch_Check.j2 k) (.seq .none (.block (.loop branch_Check.c1 (branch_Check.j1 k) fun g1 => .none))) .none))))))
theorem branch_Check.obl (k : Nat) : obl (sigs T62) (orc reg T62 (Int)) k (bodyOf Go.Proofs.Try.f62) (branch_Check.ann k) (kont0 reg sg62 Go.Proofs.Try.f62.results.toList) :=
  (obl_seq obl_none (obl_seq obl_none (obl_seq obl_none (obl_join (obl_seq obl_none (obl_block (obl_loop (fun _ => by kernel_rfl) (fun n ⟨t23, t22, t21, (), a_Doors, a_Mine_Roads⟩ => by kernel_rfl) fun n => obl_none))) (fun ⟨(), a_Doors, a_Mine_Roads⟩ => by kernel_rfl) (obl_seq obl_none (obl_join (obl_seq obl_none (obl_block (obl_loop (fun _ => by kernel_rfl) (fun n ⟨t49, t48, t47, (), a_Mine_Roads⟩ => by kernel_rfl) fun n => obl_none))) (fun () => by kernel_rfl) obl_none))))))
theorem branch_Check.eq (k : Nat) (a : T.Air) : evFn reg (sigs T62) sg62 Go.Proofs.Try.f62 (orc reg T62 (Int)) k (branch_Check.ann k) (a) = branch_Check.f k a := by kernel_rfl
noncomputable def branch_Check (a : T.Air) : Option (Int) := branch_Check.f K a
noncomputable def e62 : Ab.Spec reg := ⟨sg62, fun (a) => branch_Check a⟩
theorem ok62 : EntryOk Go.Proofs.Try.prog 62 e62 :=
  entry_ok (T := T62) (fnsOk_cons ok81 (fnsOk_cons ok82 (fnsOk_cons ok83 (fnsOk_nil regOk)))) mixed (fn := Go.Proofs.Try.f62) (by kernel_rfl) (by decide) (by kernel_rfl) (branch_Check.obl K) (fun (a) => branch_Check.eq K a)
def sg100 : Ab.Sig := ⟨[(false, 3), (false, 3), (false, 43)], [(4, [false])], [], false, false, []⟩
noncomputable def T100 : List (Nat × Ab.Spec reg) := []
/-! ### sensor_in: function 100 -/
@[reducible] def sensor_in.c1 : Carry := []
noncomputable def sensor_in.j1 (k : Nat) : Unit → Option (Bool) := fun (()) => some (Bool.true)
@[reducible] def sensor_in.c0 : Carry := [(.tmp 11, .int .i64), (.tmp 10, .int .i64), (.tmp 9, .sl 3), (.tmp 0, .int .i64), (.tmp 1, .int .i64)]
noncomputable def sensor_in.j0 (k : Nat) : Nat → Int × Int × (List Int) × Int × Int → Option (Bool)
  | 0, _ => none
  | it + 1, (t11, t10, t9, low_0, high_0) => sel (decide (t11 < t10)) (sel (decide (0 ≤ t11)) (sel (decide (t11 < (↑t9.length : Int))) (sel (decide (rd t9 t11.toNat default < low_0)) (some (Bool.false)) (sel (decide (rd t9 t11.toNat default > high_0)) (some (Bool.false)) ((sensor_in.j0 k it) (w64 (t11 + 1), t10, t9, low_0, high_0)))) (none)) (none)) (sensor_in.j1 k ())
noncomputable def sensor_in.f (k : Nat) (low : Int) (high : Int) (l : List Int) : Option (Bool) := sensor_in.j0 k k (0, (↑l.length : Int), l, low, high)
noncomputable def sensor_in.ann (k : Nat) : Ann reg (Bool) := (.seq .none (.join sensor_in.c1 (sensor_in.j1 k) (.seq .none (.block (.loop sensor_in.c0 (sensor_in.j0 k) fun g0 => .none))) .none))
theorem sensor_in.obl (k : Nat) : obl (sigs T100) (orc reg T100 (Bool)) k (bodyOf Go.Proofs.Try.f100) (sensor_in.ann k) (kont0 reg sg100 Go.Proofs.Try.f100.results.toList) :=
  (obl_seq obl_none (obl_join (obl_seq obl_none (obl_block (obl_loop (fun _ => by kernel_rfl) (fun n ⟨t11, t10, t9, low_0, high_0⟩ => by kernel_rfl) fun n => obl_none))) (fun () => by kernel_rfl) obl_none))
theorem sensor_in.eq (k : Nat) (low : Int) (high : Int) (l : List Int) : evFn reg (sigs T100) sg100 Go.Proofs.Try.f100 (orc reg T100 (Bool)) k (sensor_in.ann k) (low, high, l) = sensor_in.f k low high l := by kernel_rfl
noncomputable def sensor_in (low : Int) (high : Int) (l : List Int) : Option (Bool) := sensor_in.f K low high l
noncomputable def e100 : Ab.Spec reg := ⟨sg100, fun (low, high, l) => sensor_in low high l⟩
theorem ok100 : EntryOk Go.Proofs.Try.prog 100 e100 :=
  entry_ok (T := T100) (fnsOk_nil regOk) mixed (fn := Go.Proofs.Try.f100) (by kernel_rfl) (by decide) (by kernel_rfl) (sensor_in.obl K) (fun (low, high, l) => sensor_in.eq K low high l)
def sg84 : Ab.Sig := ⟨[(false, 110)], [(52, [false])], [], false, false, []⟩
noncomputable def T84 : List (Nat × Ab.Spec reg) := [(100, e100)]
/-! ### sensor_Check: function 84 -/
noncomputable def sensor_Check.f (k : Nat) (s : T.Sensor) : Option (Int) := obind (sensor_in 1 6 [s.Kind]) fun r0 => sel (!r0) (some (5)) (obind (sensor_in 0 255 [s.Address]) fun r2 => sel (!r2) (some (1)) (sel (decide (s.Target < 0)) (some (1)) (obind (sensor_in (-1000000) 1000000 [s.Offset, s.Scale]) fun r5 => sel (!r5) (some (1)) (obind (sensor_in 0 1000000 [s.Error, s.Drift]) fun r7 => sel (!r7) (some (1)) (obind (sensor_in 1 1000000 [s.Life]) fun r9 => sel (!r9) (some (1)) (some (0)))))))
noncomputable def sensor_Check.ann (k : Nat) : Ann reg (Int) := .none
theorem sensor_Check.obl (k : Nat) : obl (sigs T84) (orc reg T84 (Int)) k (bodyOf Go.Proofs.Try.f84) (sensor_Check.ann k) (kont0 reg sg84 Go.Proofs.Try.f84.results.toList) :=
  obl_none
theorem sensor_Check.eq (k : Nat) (s : T.Sensor) : evFn reg (sigs T84) sg84 Go.Proofs.Try.f84 (orc reg T84 (Int)) k (sensor_Check.ann k) (s) = sensor_Check.f k s := by kernel_rfl
noncomputable def sensor_Check (s : T.Sensor) : Option (Int) := sensor_Check.f K s
noncomputable def e84 : Ab.Spec reg := ⟨sg84, fun (s) => sensor_Check s⟩
theorem ok84 : EntryOk Go.Proofs.Try.prog 84 e84 :=
  entry_ok (T := T84) (fnsOk_cons ok100 (fnsOk_nil regOk)) mixed (fn := Go.Proofs.Try.f84) (by kernel_rfl) (by decide) (by kernel_rfl) (sensor_Check.obl K) (fun (s) => sensor_Check.eq K s)
def sg85 : Ab.Sig := ⟨[(false, 3), (false, 3)], [(4, [false])], [], false, false, []⟩
noncomputable def T85 : List (Nat × Ab.Spec reg) := []
/-! ### cutoff_has: function 85 -/
noncomputable def cutoff_has.f (k : Nat) (n : Int) (of : Int) : Option (Bool) := sel (decide (n ≥ 0)) (some (decide (n < of))) (some (Bool.false))
noncomputable def cutoff_has.ann (k : Nat) : Ann reg (Bool) := .none
theorem cutoff_has.obl (k : Nat) : obl (sigs T85) (orc reg T85 (Bool)) k (bodyOf Go.Proofs.Try.f85) (cutoff_has.ann k) (kont0 reg sg85 Go.Proofs.Try.f85.results.toList) :=
  obl_none
theorem cutoff_has.eq (k : Nat) (n : Int) (of : Int) : evFn reg (sigs T85) sg85 Go.Proofs.Try.f85 (orc reg T85 (Bool)) k (cutoff_has.ann k) (n, of) = cutoff_has.f k n of := by kernel_rfl
noncomputable def cutoff_has (n : Int) (of : Int) : Option (Bool) := cutoff_has.f K n of
noncomputable def e85 : Ab.Spec reg := ⟨sg85, fun (n, of) => cutoff_has n of⟩
theorem ok85 : EntryOk Go.Proofs.Try.prog 85 e85 :=
  entry_ok (T := T85) (fnsOk_nil regOk) mixed (fn := Go.Proofs.Try.f85) (by kernel_rfl) (by decide) (by kernel_rfl) (cutoff_has.obl K) (fun (n, of) => cutoff_has.eq K n of)
def sg63 : Ab.Sig := ⟨[(false, 41)], [(52, [false])], [], false, false, []⟩
noncomputable def T63 : List (Nat × Ab.Spec reg) := [(84, e84), (85, e85)]
/-! ### cutoff_checkSensors: function 63 -/
@[reducible] def cutoff_checkSensors.c4 : Carry := []
noncomputable def cutoff_checkSensors.j4 (k : Nat) : Unit → Option (Int) := fun (()) => some (0)
@[reducible] def cutoff_checkSensors.c3 : Carry := [(.tmp 12, .int .i64), (.tmp 11, .int .i64), (.tmp 10, .sl 110), (.tmp 1, .ptr 1 0 8), (.cell 1 4, .sl 110), (.cell 1 3, .sl 149), (.cell 1 2, .sl 147), (.cell 1 1, .sl 89)]
noncomputable def cutoff_checkSensors.j3 (k : Nat) (g0 : Int × Int × (List T.Sensor) × PUnit × (List T.Sensor) × (List T.Door) × (List T.Fan) × (List T.Road) → Option (Int)) : Int × Int × (List T.Sensor) × PUnit × (List T.Sensor) × (List T.Door) × (List T.Fan) × (List T.Road) → Option (Int) := fun (t12, t11, t10, (), s_Sensors, s_Air_Doors, s_Air_Fans, s_Air_Mine_Roads) => g0 (w64 (t12 + 1), t11, t10, (), s_Sensors, s_Air_Doors, s_Air_Fans, s_Air_Mine_Roads)
@[reducible] def cutoff_checkSensors.c1 : Carry := [(.tmp 51, .int .i64), (.tmp 50, .int .i64), (.tmp 49, .sl 110), (.cell 4 0, .int .i64), (.tmp 4, .ptr 4 0 8), (.tmp 12, .int .i64), (.tmp 11, .int .i64), (.tmp 10, .sl 110), (.tmp 1, .ptr 1 0 8), (.cell 1 4, .sl 110), (.cell 1 3, .sl 149), (.cell 1 2, .sl 147), (.cell 1 1, .sl 89)]
noncomputable def cutoff_checkSensors.j1 (k : Nat) (g0 : Int × Int × (List T.Sensor) × PUnit × (List T.Sensor) × (List T.Door) × (List T.Fan) × (List T.Road) → Option (Int)) : Nat → Int × Int × (List T.Sensor) × Int × PUnit × Int × Int × (List T.Sensor) × PUnit × (List T.Sensor) × (List T.Door) × (List T.Fan) × (List T.Road) → Option (Int)
  | 0, _ => none
  | it + 1, (t51, t50, t49, x_Address, (), t12, t11, t10, (), s_Sensors, s_Air_Doors, s_Air_Fans, s_Air_Mine_Roads) => sel (decide (t51 < t50)) (sel (decide (0 ≤ t51)) (sel (decide (t51 < (↑t49.length : Int))) (sel ((rd t49 t51.toNat default).Address == x_Address) (some (9)) ((cutoff_checkSensors.j1 k g0 it) (w64 (t51 + 1), t50, t49, x_Address, (), t12, t11, t10, (), s_Sensors, s_Air_Doors, s_Air_Fans, s_Air_Mine_Roads))) (none)) (none)) (cutoff_checkSensors.j3 k g0 (t12, t11, t10, (), s_Sensors, s_Air_Doors, s_Air_Fans, s_Air_Mine_Roads))
@[reducible] def cutoff_checkSensors.c2 : Carry := [(.tmp 6, .int .i64), (.cell 4 2, .int .i64), (.cell 4 0, .int .i64), (.tmp 3, .int .i64), (.tmp 4, .ptr 4 0 8), (.tmp 12, .int .i64), (.tmp 11, .int .i64), (.tmp 10, .sl 110), (.tmp 1, .ptr 1 0 8), (.cell 1 4, .sl 110), (.cell 1 3, .sl 149), (.cell 1 2, .sl 147), (.cell 1 1, .sl 89)]
noncomputable def cutoff_checkSensors.j2 (k : Nat) (g0 : Int × Int × (List T.Sensor) × PUnit × (List T.Sensor) × (List T.Door) × (List T.Fan) × (List T.Road) → Option (Int)) : Int × Int × Int × Int × PUnit × Int × Int × (List T.Sensor) × PUnit × (List T.Sensor) × (List T.Door) × (List T.Fan) × (List T.Road) → Option (Int) := fun (of, x_Target, x_Address, i, (), t12, t11, t10, (), s_Sensors, s_Air_Doors, s_Air_Fans, s_Air_Mine_Roads) => obind (cutoff_has x_Target of) fun r0 => sel (!r0) (some (9)) (sel (decide (0 ≤ i)) (sel (decide (i ≤ (↑s_Sensors.length : Int))) (cutoff_checkSensors.j1 k g0 k (0, (↑(List.drop (Int.toNat 0) (List.take i.toNat s_Sensors)).length : Int), List.drop (Int.toNat 0) (List.take i.toNat s_Sensors), x_Address, (), t12, t11, t10, (), s_Sensors, s_Air_Doors, s_Air_Fans, s_Air_Mine_Roads)) (none)) (none))
@[reducible] def cutoff_checkSensors.c0 : Carry := [(.tmp 12, .int .i64), (.tmp 11, .int .i64), (.tmp 10, .sl 110), (.tmp 1, .ptr 1 0 8), (.cell 1 4, .sl 110), (.cell 1 3, .sl 149), (.cell 1 2, .sl 147), (.cell 1 1, .sl 89)]
noncomputable def cutoff_checkSensors.j0 (k : Nat) : Nat → Int × Int × (List T.Sensor) × PUnit × (List T.Sensor) × (List T.Door) × (List T.Fan) × (List T.Road) → Option (Int)
  | 0, _ => none
  | it + 1, (t12, t11, t10, (), s_Sensors, s_Air_Doors, s_Air_Fans, s_Air_Mine_Roads) => sel (decide (t12 < t11)) (sel (decide (0 ≤ t12)) (sel (decide (t12 < (↑t10.length : Int))) (obind (sensor_Check (rd t10 t12.toNat default)) fun r3 => sel (r3 != 0) (some (r3)) (sel ((rd t10 t12.toNat default).Kind == 5) (cutoff_checkSensors.j2 k (cutoff_checkSensors.j0 k it) ((↑s_Air_Fans.length : Int), (rd t10 t12.toNat default).Target, (rd t10 t12.toNat default).Address, t12, (), t12, t11, t10, (), s_Sensors, s_Air_Doors, s_Air_Fans, s_Air_Mine_Roads)) (sel ((rd t10 t12.toNat default).Kind == 6) (cutoff_checkSensors.j2 k (cutoff_checkSensors.j0 k it) ((↑s_Air_Doors.length : Int), (rd t10 t12.toNat default).Target, (rd t10 t12.toNat default).Address, t12, (), t12, t11, t10, (), s_Sensors, s_Air_Doors, s_Air_Fans, s_Air_Mine_Roads)) (cutoff_checkSensors.j2 k (cutoff_checkSensors.j0 k it) ((↑s_Air_Mine_Roads.length : Int), (rd t10 t12.toNat default).Target, (rd t10 t12.toNat default).Address, t12, (), t12, t11, t10, (), s_Sensors, s_Air_Doors, s_Air_Fans, s_Air_Mine_Roads))))) (none)) (none)) (cutoff_checkSensors.j4 k ())
noncomputable def cutoff_checkSensors.f (k : Nat) (s : T.Site) : Option (Int) := cutoff_checkSensors.j0 k k (0, (↑s.Sensors.length : Int), s.Sensors, (), s.Sensors, s.Air.Doors, s.Air.Fans, s.Air.Mine.Roads)
noncomputable def cutoff_checkSensors.ann (k : Nat) : Ann reg (Int) := (.seq .none (.join cutoff_checkSensors.c4 (cutoff_checkSensors.j4 k) (.seq .none (.block (.loop cutoff_checkSensors.c0 (cutoff_checkSensors.j0 k) fun g0 => (.seq .none (.seq .none (.join cutoff_checkSensors.c3 (cutoff_checkSensors.j3 k g0) (.block (.seq .none (.seq .none (.seq .none (.join cutoff_checkSensors.c2 (cutoff_checkSensors.j2 k g0) .none (.seq .none (.seq .none (.block (.loop cutoff_checkSensors.c1 (cutoff_checkSensors.j1 k g0) fun g1 => .none))))))))) .none)))))) .none))
theorem cutoff_checkSensors.obl (k : Nat) : obl (sigs T63) (orc reg T63 (Int)) k (bodyOf Go.Proofs.Try.f63) (cutoff_checkSensors.ann k) (kont0 reg sg63 Go.Proofs.Try.f63.results.toList) :=
  (obl_seq obl_none (obl_join (obl_seq obl_none (obl_block (obl_loop (fun _ => by kernel_rfl) (fun n ⟨t12, t11, t10, (), s_Sensors, s_Air_Doors, s_Air_Fans, s_Air_Mine_Roads⟩ => by kernel_rfl) fun n => (obl_seq obl_none (obl_seq obl_none (obl_join (obl_block (obl_seq obl_none (obl_seq obl_none (obl_seq obl_none (obl_join obl_none (fun ⟨of, x_Target, x_Address, i, (), t12, t11, t10, (), s_Sensors, s_Air_Doors, s_Air_Fans, s_Air_Mine_Roads⟩ => by kernel_rfl) (obl_seq obl_none (obl_seq obl_none (obl_block (obl_loop (fun _ => by kernel_rfl) (fun n ⟨t51, t50, t49, x_Address, (), t12, t11, t10, (), s_Sensors, s_Air_Doors, s_Air_Fans, s_Air_Mine_Roads⟩ => by kernel_rfl) fun n => obl_none))))))))) (fun ⟨t12, t11, t10, (), s_Sensors, s_Air_Doors, s_Air_Fans, s_Air_Mine_Roads⟩ => by kernel_rfl) obl_none)))))) (fun () => by kernel_rfl) obl_none))
theorem cutoff_checkSensors.eq (k : Nat) (s : T.Site) : evFn reg (sigs T63) sg63 Go.Proofs.Try.f63 (orc reg T63 (Int)) k (cutoff_checkSensors.ann k) (s) = cutoff_checkSensors.f k s := by kernel_rfl
noncomputable def cutoff_checkSensors (s : T.Site) : Option (Int) := cutoff_checkSensors.f K s
noncomputable def e63 : Ab.Spec reg := ⟨sg63, fun (s) => cutoff_checkSensors s⟩
theorem ok63 : EntryOk Go.Proofs.Try.prog 63 e63 :=
  entry_ok (T := T63) (fnsOk_cons ok84 (fnsOk_cons ok85 (fnsOk_nil regOk))) mixed (fn := Go.Proofs.Try.f63) (by kernel_rfl) (by decide) (by kernel_rfl) (cutoff_checkSensors.obl K) (fun (s) => cutoff_checkSensors.eq K s)
def sg86 : Ab.Sig := ⟨[(false, 112)], [(52, [false])], [], false, false, []⟩
noncomputable def T86 : List (Nat × Ab.Spec reg) := []
/-! ### level_Check: function 86 -/
noncomputable def level_Check.f (k : Nat) (l : T.Level) : Option (Int) := sel (decide (l.Cut > 1000000)) (some (1)) (sel (decide (l.Clear < 0)) (some (1)) (sel (decide (l.Clear ≥ l.Cut)) (some (1)) (sel (decide (l.Delay < 0)) (some (1)) (sel (decide (l.Delay > 100000)) (some (1)) (some (0))))))
noncomputable def level_Check.ann (k : Nat) : Ann reg (Int) := .none
theorem level_Check.obl (k : Nat) : obl (sigs T86) (orc reg T86 (Int)) k (bodyOf Go.Proofs.Try.f86) (level_Check.ann k) (kont0 reg sg86 Go.Proofs.Try.f86.results.toList) :=
  obl_none
theorem level_Check.eq (k : Nat) (l : T.Level) : evFn reg (sigs T86) sg86 Go.Proofs.Try.f86 (orc reg T86 (Int)) k (level_Check.ann k) (l) = level_Check.f k l := by kernel_rfl
noncomputable def level_Check (l : T.Level) : Option (Int) := level_Check.f K l
noncomputable def e86 : Ab.Spec reg := ⟨sg86, fun (l) => level_Check l⟩
theorem ok86 : EntryOk Go.Proofs.Try.prog 86 e86 :=
  entry_ok (T := T86) (fnsOk_nil regOk) mixed (fn := Go.Proofs.Try.f86) (by kernel_rfl) (by decide) (by kernel_rfl) (level_Check.obl K) (fun (l) => level_Check.eq K l)
def sg64 : Ab.Sig := ⟨[(false, 41), (false, 114)], [(52, [false])], [], false, false, []⟩
noncomputable def T64 : List (Nat × Ab.Spec reg) := [(85, e85), (86, e86)]
/-! ### cutoff_checkCond: function 64 -/
@[reducible] def cutoff_checkCond.c1 : Carry := [(.tmp 3, .ptr 3 0 6), (.cell 3 5, .int .i64), (.cell 3 4, .int .i64), (.cell 3 3, .int .i64), (.cell 3 2, .int .i64), (.cell 3 0, .int .i64)]
noncomputable def cutoff_checkCond.j1 (k : Nat) : PUnit × Int × Int × Int × Int × Int → Option (Int) := fun ((), c_Level_Delay, c_Level_Clear, c_Level_Cut, c_Value, c_Kind) => sel (decide (c_Value < 0)) (some (1)) (sel (decide (c_Value > 1099511627776)) (some (1)) (sel (c_Kind == 1) (obind (level_Check { Cut := c_Level_Cut, Clear := c_Level_Clear, Delay := c_Level_Delay : T.Level }) fun r3 => some (r3)) (some (0))))
@[reducible] def cutoff_checkCond.c0 : Carry := [(.tmp 7, .bool), (.tmp 6, .int .i64), (.tmp 3, .ptr 3 0 6), (.cell 3 5, .int .i64), (.cell 3 4, .int .i64), (.cell 3 3, .int .i64), (.cell 3 2, .int .i64), (.cell 3 1, .int .i64), (.cell 3 0, .int .i64), (.tmp 2, .ptr 2 0 8), (.cell 2 4, .sl 110), (.cell 2 1, .sl 89)]
noncomputable def cutoff_checkCond.j0 (k : Nat) : Bool × Int × PUnit × Int × Int × Int × Int × Int × Int × PUnit × (List T.Sensor) × (List T.Road) → Option (Int) := fun (t7, t6, (), c_Level_Delay, c_Level_Clear, c_Level_Cut, c_Value, c_Target, c_Kind, (), s_Sensors, s_Air_Mine_Roads) => sel (t7) (obind (cutoff_has c_Target (↑s_Sensors.length : Int)) fun r1 => sel (!r1) (some (9)) (cutoff_checkCond.j1 k ((), c_Level_Delay, c_Level_Clear, c_Level_Cut, c_Value, c_Kind))) (sel (t6 == 3) (obind (cutoff_has c_Target (↑s_Sensors.length : Int)) fun r2 => sel (!r2) (some (9)) (sel (decide (0 ≤ c_Target)) (sel (decide (c_Target < (↑s_Sensors.length : Int))) (sel ((rd s_Sensors c_Target.toNat default).Kind != 5) (some (9)) (cutoff_checkCond.j1 k ((), c_Level_Delay, c_Level_Clear, c_Level_Cut, c_Value, c_Kind))) (none)) (none))) (sel (t6 == 5) (obind (cutoff_has c_Target (↑s_Air_Mine_Roads.length : Int)) fun r3 => sel (!r3) (some (4)) (cutoff_checkCond.j1 k ((), c_Level_Delay, c_Level_Clear, c_Level_Cut, c_Value, c_Kind))) (some (5))))
noncomputable def cutoff_checkCond.f (k : Nat) (s : T.Site) (c : T.Cond) : Option (Int) := sel (c.Kind == 1) (cutoff_checkCond.j0 k (Bool.true, c.Kind, (), c.Level.Delay, c.Level.Clear, c.Level.Cut, c.Value, c.Target, c.Kind, (), s.Sensors, s.Air.Mine.Roads)) (sel (c.Kind == 2) (cutoff_checkCond.j0 k (Bool.true, c.Kind, (), c.Level.Delay, c.Level.Clear, c.Level.Cut, c.Value, c.Target, c.Kind, (), s.Sensors, s.Air.Mine.Roads)) (cutoff_checkCond.j0 k (c.Kind == 4, c.Kind, (), c.Level.Delay, c.Level.Clear, c.Level.Cut, c.Value, c.Target, c.Kind, (), s.Sensors, s.Air.Mine.Roads)))
noncomputable def cutoff_checkCond.ann (k : Nat) : Ann reg (Int) := (.seq .none (.join cutoff_checkCond.c1 (cutoff_checkCond.j1 k) (.seq .none (.block (.join cutoff_checkCond.c0 (cutoff_checkCond.j0 k) .none .none))) .none))
theorem cutoff_checkCond.obl (k : Nat) : obl (sigs T64) (orc reg T64 (Int)) k (bodyOf Go.Proofs.Try.f64) (cutoff_checkCond.ann k) (kont0 reg sg64 Go.Proofs.Try.f64.results.toList) :=
  (obl_seq obl_none (obl_join (obl_seq obl_none (obl_block (obl_join obl_none (fun ⟨t7, t6, (), c_Level_Delay, c_Level_Clear, c_Level_Cut, c_Value, c_Target, c_Kind, (), s_Sensors, s_Air_Mine_Roads⟩ => by kernel_rfl) obl_none))) (fun ⟨(), c_Level_Delay, c_Level_Clear, c_Level_Cut, c_Value, c_Kind⟩ => by kernel_rfl) obl_none))
theorem cutoff_checkCond.eq (k : Nat) (s : T.Site) (c : T.Cond) : evFn reg (sigs T64) sg64 Go.Proofs.Try.f64 (orc reg T64 (Int)) k (cutoff_checkCond.ann k) (s, c) = cutoff_checkCond.f k s c := by kernel_rfl
noncomputable def cutoff_checkCond (s : T.Site) (c : T.Cond) : Option (Int) := cutoff_checkCond.f K s c
noncomputable def e64 : Ab.Spec reg := ⟨sg64, fun (s, c) => cutoff_checkCond s c⟩
theorem ok64 : EntryOk Go.Proofs.Try.prog 64 e64 :=
  entry_ok (T := T64) (fnsOk_cons ok85 (fnsOk_cons ok86 (fnsOk_nil regOk))) mixed (fn := Go.Proofs.Try.f64) (by kernel_rfl) (by decide) (by kernel_rfl) (cutoff_checkCond.obl K) (fun (s, c) => cutoff_checkCond.eq K s c)
def sg108 : Ab.Sig := ⟨[(false, 85), (false, 3)], [(3, [false]), (3, [false]), (4, [false])], [], false, false, []⟩
noncomputable def T108 (rec : (List T.RuleNode) → Int → Option (Int × Int × Bool)) : List (Nat × Ab.Spec reg) := [(108, ⟨sg108, fun (a0, a1) => rec a0 a1⟩)]
/-! ### rule_part: function 108 -/
@[reducible] def rule_part.c1 : Carry := []
noncomputable def rule_part.j1 (rec : (List T.RuleNode) → Int → Option (Int × Int × Bool)) (k : Nat) : Unit → Option (Int × Int × Bool) := fun (()) => some ((0, 0, Bool.false))
@[reducible] def rule_part.c0 : Carry := [(.tmp 76, .bool), (.cell 7 3, .int .i64), (.cell 7 2, .int .i64), (.cell 7 1, .int .i64), (.tmp 7, .ptr 7 0 4), (.tmp 0, .sl 116), (.tmp 1, .int .i64)]
noncomputable def rule_part.j0 (rec : (List T.RuleNode) → Int → Option (Int × Int × Bool)) (k : Nat) : Bool × Int × Int × Int × PUnit × (List T.RuleNode) × Int → Option (Int × Int × Bool) := fun (t76, n_Right, n_Left, n_Cond, (), l_0, at__0) => sel (t76) (obind (rec l_0 (w64 (at__0 - 1))) fun r1 => sel (!r1.snd.snd) (some ((0, 0, Bool.false))) (sel (n_Cond != 0) (some ((0, 0, Bool.false))) (sel (n_Right != w64 (at__0 - 1)) (some ((0, 0, Bool.false))) (sel (n_Left != w64 (r1.fst - 1)) (some ((0, 0, Bool.false))) (obind (rec l_0 (w64 (r1.fst - 1))) fun r6 => some ((r6.fst, w64 (mx r6.snd.fst r1.snd.fst + 1), r6.snd.snd))))))) (rule_part.j1 rec k ())
noncomputable def rule_part.f (rec : (List T.RuleNode) → Int → Option (Int × Int × Bool)) (k : Nat) (l : List T.RuleNode) (at_ : Int) : Option (Int × Int × Bool) := sel (decide (at_ < 0)) (some ((0, 0, Bool.false))) (sel (decide (0 ≤ at_)) (sel (decide (at_ < (↑l.length : Int))) (sel ((rd l at_.toNat default).Kind == 1) (sel ((rd l at_.toNat default).Left == 0) (sel ((rd l at_.toNat default).Right == 0) (sel (decide ((rd l at_.toNat default).Cond ≥ 0)) (some ((at_, 1, decide ((rd l at_.toNat default).Cond < 64)))) (some ((at_, 1, Bool.false)))) (some ((at_, 1, Bool.false)))) (some ((at_, 1, Bool.false)))) (sel ((rd l at_.toNat default).Kind == 2) (obind (rec l (w64 (at_ - 1))) fun r5 => sel (r5.snd.snd) (sel ((rd l at_.toNat default).Cond == 0) (sel ((rd l at_.toNat default).Right == 0) (some ((r5.fst, w64 (r5.snd.fst + 1), (rd l at_.toNat default).Left == w64 (at_ - 1)))) (some ((r5.fst, w64 (r5.snd.fst + 1), Bool.false)))) (some ((r5.fst, w64 (r5.snd.fst + 1), Bool.false)))) (some ((r5.fst, w64 (r5.snd.fst + 1), Bool.false)))) (sel ((rd l at_.toNat default).Kind == 3) (rule_part.j0 rec k (Bool.true, (rd l at_.toNat default).Right, (rd l at_.toNat default).Left, (rd l at_.toNat default).Cond, (), l, at_)) (rule_part.j0 rec k ((rd l at_.toNat default).Kind == 4, (rd l at_.toNat default).Right, (rd l at_.toNat default).Left, (rd l at_.toNat default).Cond, (), l, at_))))) (none)) (none))
noncomputable def rule_part.ann (rec : (List T.RuleNode) → Int → Option (Int × Int × Bool)) (k : Nat) : Ann reg (Int × Int × Bool) := (.seq .none (.seq .none (.seq .none (.join rule_part.c1 (rule_part.j1 rec k) (.seq .none (.block (.seq .none (.cond .none (.seq .none (.cond .none (.join rule_part.c0 (rule_part.j0 rec k) .none .none))))))) .none))))
theorem rule_part.obl (rec : (List T.RuleNode) → Int → Option (Int × Int × Bool)) (k : Nat) : obl (sigs (T108 rec)) (orc reg (T108 rec) (Int × Int × Bool)) k (bodyOf Go.Proofs.Try.f108) (rule_part.ann rec k) (kont0 reg sg108 Go.Proofs.Try.f108.results.toList) :=
  (obl_seq obl_none (obl_seq obl_none (obl_seq obl_none (obl_join (obl_seq obl_none (obl_block (obl_seq obl_none (obl_cond obl_none (obl_seq obl_none (obl_cond obl_none (obl_join obl_none (fun ⟨t76, n_Right, n_Left, n_Cond, (), l_0, at__0⟩ => by kernel_rfl) obl_none))))))) (fun () => by kernel_rfl) obl_none))))
theorem rule_part.eq (rec : (List T.RuleNode) → Int → Option (Int × Int × Bool)) (k : Nat) (l : List T.RuleNode) (at_ : Int) : evFn reg (sigs (T108 rec)) sg108 Go.Proofs.Try.f108 (orc reg (T108 rec) (Int × Int × Bool)) k (rule_part.ann rec k) (l, at_) = rule_part.f rec k l at_ := by kernel_rfl
noncomputable def rule_part.F : Nat → (List T.RuleNode) × Int → Option (Int × Int × Bool)
  | 0, _ => none
  | n + 1, (l, at_) => rule_part.f (fun l at_ => rule_part.F n (l, at_)) K l at_
noncomputable def rule_part (l : List T.RuleNode) (at_ : Int) : Option (Int × Int × Bool) := rule_part.F K (l, at_)
noncomputable def e108 : Ab.Spec reg := ⟨sg108, fun (l, at_) => rule_part l at_⟩
theorem ok108 : EntryOk Go.Proofs.Try.prog 108 e108 :=
  entry_rec (Γ := reg) (sg := sg108) rule_part.F (fun _ => rfl) ⟨Go.Proofs.Try.f108, by kernel_rfl, by decide, by kernel_rfl⟩ (fun n h => entry_ok (T := T108 fun l at_ => rule_part.F n (l, at_)) (fnsOk_cons h (fnsOk_nil regOk)) mixed (fn := Go.Proofs.Try.f108) (by kernel_rfl) (by decide) (by kernel_rfl) (rule_part.obl _ K) (fun (l, at_) => rule_part.eq _ K l at_)) K
def sg101 : Ab.Sig := ⟨[(false, 85)], [(4, [false])], [], false, false, []⟩
noncomputable def T101 : List (Nat × Ab.Spec reg) := [(108, e108)]
/-! ### rule_right: function 101 -/
noncomputable def rule_right.f (k : Nat) (l : List T.RuleNode) : Option (Bool) := sel (decide ((↑l.length : Int) < 1)) (some (Bool.false)) (sel (decide ((↑l.length : Int) > 64)) (some (Bool.false)) (obind (rule_part l (w64 ((↑l.length : Int) - 1))) fun r2 => sel (r2.snd.snd) (sel (r2.fst == 0) (some (decide (r2.snd.fst ≤ 16))) (some (Bool.false))) (some (Bool.false))))
noncomputable def rule_right.ann (k : Nat) : Ann reg (Bool) := .none
theorem rule_right.obl (k : Nat) : obl (sigs T101) (orc reg T101 (Bool)) k (bodyOf Go.Proofs.Try.f101) (rule_right.ann k) (kont0 reg sg101 Go.Proofs.Try.f101.results.toList) :=
  obl_none
theorem rule_right.eq (k : Nat) (l : List T.RuleNode) : evFn reg (sigs T101) sg101 Go.Proofs.Try.f101 (orc reg T101 (Bool)) k (rule_right.ann k) (l) = rule_right.f k l := by kernel_rfl
noncomputable def rule_right (l : List T.RuleNode) : Option (Bool) := rule_right.f K l
noncomputable def e101 : Ab.Spec reg := ⟨sg101, fun (l) => rule_right l⟩
theorem ok101 : EntryOk Go.Proofs.Try.prog 101 e101 :=
  entry_ok (T := T101) (fnsOk_cons ok108 (fnsOk_nil regOk)) mixed (fn := Go.Proofs.Try.f101) (by kernel_rfl) (by decide) (by kernel_rfl) (rule_right.obl K) (fun (l) => rule_right.eq K l)
def sg87 : Ab.Sig := ⟨[(false, 85), (false, 3)], [(52, [false])], [], false, false, []⟩
noncomputable def T87 : List (Nat × Ab.Spec reg) := [(101, e101)]
/-! ### rule_Check: function 87 -/
@[reducible] def rule_Check.c1 : Carry := []
noncomputable def rule_Check.j1 (k : Nat) : Unit → Option (Int) := fun (()) => some (0)
@[reducible] def rule_Check.c0 : Carry := [(.tmp 12, .int .i64), (.tmp 11, .int .i64), (.tmp 10, .sl 116), (.tmp 1, .int .i64)]
noncomputable def rule_Check.j0 (k : Nat) : Nat → Int × Int × (List T.RuleNode) × Int → Option (Int)
  | 0, _ => none
  | it + 1, (t12, t11, t10, conds_0) => sel (decide (t12 < t11)) (sel (decide (0 ≤ t12)) (sel (decide (t12 < (↑t10.length : Int))) (sel ((rd t10 t12.toNat default).Kind == 1) (sel (decide ((rd t10 t12.toNat default).Cond ≥ conds_0)) (some (1)) ((rule_Check.j0 k it) (w64 (t12 + 1), t11, t10, conds_0))) ((rule_Check.j0 k it) (w64 (t12 + 1), t11, t10, conds_0))) (none)) (none)) (rule_Check.j1 k ())
noncomputable def rule_Check.f (k : Nat) (l : List T.RuleNode) (conds : Int) : Option (Int) := obind (rule_right l) fun r0 => sel (!r0) (some (18)) (rule_Check.j0 k k (0, (↑l.length : Int), l, conds))
noncomputable def rule_Check.ann (k : Nat) : Ann reg (Int) := (.seq .none (.seq .none (.join rule_Check.c1 (rule_Check.j1 k) (.seq .none (.block (.loop rule_Check.c0 (rule_Check.j0 k) fun g0 => .none))) .none)))
theorem rule_Check.obl (k : Nat) : obl (sigs T87) (orc reg T87 (Int)) k (bodyOf Go.Proofs.Try.f87) (rule_Check.ann k) (kont0 reg sg87 Go.Proofs.Try.f87.results.toList) :=
  (obl_seq obl_none (obl_seq obl_none (obl_join (obl_seq obl_none (obl_block (obl_loop (fun _ => by kernel_rfl) (fun n ⟨t12, t11, t10, conds_0⟩ => by kernel_rfl) fun n => obl_none))) (fun () => by kernel_rfl) obl_none)))
theorem rule_Check.eq (k : Nat) (l : List T.RuleNode) (conds : Int) : evFn reg (sigs T87) sg87 Go.Proofs.Try.f87 (orc reg T87 (Int)) k (rule_Check.ann k) (l, conds) = rule_Check.f k l conds := by kernel_rfl
noncomputable def rule_Check (l : List T.RuleNode) (conds : Int) : Option (Int) := rule_Check.f K l conds
noncomputable def e87 : Ab.Spec reg := ⟨sg87, fun (l, conds) => rule_Check l conds⟩
theorem ok87 : EntryOk Go.Proofs.Try.prog 87 e87 :=
  entry_ok (T := T87) (fnsOk_cons ok101 (fnsOk_nil regOk)) mixed (fn := Go.Proofs.Try.f87) (by kernel_rfl) (by decide) (by kernel_rfl) (rule_Check.obl K) (fun (l, conds) => rule_Check.eq K l conds)
def sg65 : Ab.Sig := ⟨[(false, 41), (false, 87)], [(52, [false])], [], false, false, []⟩
noncomputable def T65 : List (Nat × Ab.Spec reg) := [(87, e87), (85, e85)]
/-! ### cutoff_checkZone: function 65 -/
@[reducible] def cutoff_checkZone.c1 : Carry := []
noncomputable def cutoff_checkZone.j1 (k : Nat) : Unit → Option (Int) := fun (()) => some (0)
@[reducible] def cutoff_checkZone.c0 : Carry := [(.tmp 38, .int .i64), (.tmp 37, .int .i64), (.tmp 36, .sl 3), (.tmp 3, .ptr 3 0 4), (.cell 3 2, .sl 3), (.tmp 2, .ptr 2 0 8), (.cell 2 1, .sl 89)]
noncomputable def cutoff_checkZone.j0 (k : Nat) : Nat → Int × Int × (List Int) × PUnit × (List Int) × PUnit × (List T.Road) → Option (Int)
  | 0, _ => none
  | it + 1, (t38, t37, t36, (), z_Roads, (), s_Air_Mine_Roads) => sel (decide (t38 < t37)) (sel (decide (0 ≤ t38)) (sel (decide (t38 < (↑t36.length : Int))) (obind (cutoff_has (rd t36 t38.toNat default) (↑s_Air_Mine_Roads.length : Int)) fun r3 => sel (!r3) (some (4)) (sel (decide (t38 > 0)) (sel (decide (0 ≤ w64 (t38 - 1))) (sel (decide (w64 (t38 - 1) < (↑z_Roads.length : Int))) (sel (decide (rd t36 t38.toNat default ≤ rd z_Roads (w64 (t38 - 1)).toNat default)) (some (4)) ((cutoff_checkZone.j0 k it) (w64 (t38 + 1), t37, t36, (), z_Roads, (), s_Air_Mine_Roads))) (none)) (none)) ((cutoff_checkZone.j0 k it) (w64 (t38 + 1), t37, t36, (), z_Roads, (), s_Air_Mine_Roads)))) (none)) (none)) (cutoff_checkZone.j1 k ())
noncomputable def cutoff_checkZone.f (k : Nat) (s : T.Site) (z : T.Zone) : Option (Int) := obind (rule_Check z.Rule (↑s.Conds.length : Int)) fun r0 => sel (r0 != 0) (some (r0)) (sel (decide (z.Hold < 0)) (some (1)) (sel (decide (z.Hold > 100000)) (some (1)) (sel (decide (z.Fresh < 0)) (some (1)) (sel (decide (z.Fresh > 100)) (some (1)) (cutoff_checkZone.j0 k k (0, (↑z.Roads.length : Int), z.Roads, (), z.Roads, (), s.Air.Mine.Roads))))))
noncomputable def cutoff_checkZone.ann (k : Nat) : Ann reg (Int) := (.seq .none (.seq .none (.seq .none (.join cutoff_checkZone.c1 (cutoff_checkZone.j1 k) (.seq .none (.block (.loop cutoff_checkZone.c0 (cutoff_checkZone.j0 k) fun g0 => .none))) .none))))
theorem cutoff_checkZone.obl (k : Nat) : obl (sigs T65) (orc reg T65 (Int)) k (bodyOf Go.Proofs.Try.f65) (cutoff_checkZone.ann k) (kont0 reg sg65 Go.Proofs.Try.f65.results.toList) :=
  (obl_seq obl_none (obl_seq obl_none (obl_seq obl_none (obl_join (obl_seq obl_none (obl_block (obl_loop (fun _ => by kernel_rfl) (fun n ⟨t38, t37, t36, (), z_Roads, (), s_Air_Mine_Roads⟩ => by kernel_rfl) fun n => obl_none))) (fun () => by kernel_rfl) obl_none))))
theorem cutoff_checkZone.eq (k : Nat) (s : T.Site) (z : T.Zone) : evFn reg (sigs T65) sg65 Go.Proofs.Try.f65 (orc reg T65 (Int)) k (cutoff_checkZone.ann k) (s, z) = cutoff_checkZone.f k s z := by kernel_rfl
noncomputable def cutoff_checkZone (s : T.Site) (z : T.Zone) : Option (Int) := cutoff_checkZone.f K s z
noncomputable def e65 : Ab.Spec reg := ⟨sg65, fun (s, z) => cutoff_checkZone s z⟩
theorem ok65 : EntryOk Go.Proofs.Try.prog 65 e65 :=
  entry_ok (T := T65) (fnsOk_cons ok87 (fnsOk_cons ok85 (fnsOk_nil regOk))) mixed (fn := Go.Proofs.Try.f65) (by kernel_rfl) (by decide) (by kernel_rfl) (cutoff_checkZone.obl K) (fun (s, z) => cutoff_checkZone.eq K s z)
def sg48 : Ab.Sig := ⟨[(false, 41)], [(52, [false])], [], false, false, []⟩
noncomputable def T48 : List (Nat × Ab.Spec reg) := [(62, e62), (63, e63), (64, e64), (65, e65)]
/-! ### cutoff_Check: function 48 -/
@[reducible] def cutoff_Check.c3 : Carry := []
noncomputable def cutoff_Check.j3 (k : Nat) : Unit → Option (Int) := fun (()) => some (0)
@[reducible] def cutoff_Check.c2 : Carry := [(.tmp 77, .int .i64), (.tmp 76, .int .i64), (.tmp 75, .sl 65)]
noncomputable def cutoff_Check.j2 (k : Nat) : Nat → Int × Int × (List T.Person) → Option (Int)
  | 0, _ => none
  | it + 1, (t77, t76, t75) => sel (decide (t77 < t76)) (sel (decide (0 ≤ t77)) (sel (decide (t77 < (↑t75.length : Int))) (sel (decide ((rd t75 t77.toNat default).Role < 1)) (some (19)) (sel (decide ((rd t75 t77.toNat default).Role > 3)) (some (19)) ((cutoff_Check.j2 k it) (w64 (t77 + 1), t76, t75)))) (none)) (none)) (cutoff_Check.j3 k ())
@[reducible] def cutoff_Check.c4 : Carry := [(.tmp 1, .ptr 1 0 8), (.cell 1 7, .sl 65)]
noncomputable def cutoff_Check.j4 (k : Nat) : PUnit × (List T.Person) → Option (Int) := fun ((), s_Persons) => cutoff_Check.j2 k k (0, (↑s_Persons.length : Int), s_Persons)
@[reducible] def cutoff_Check.c1 : Carry := [(.tmp 63, .int .i64), (.tmp 62, .int .i64), (.tmp 61, .sl 87), (.tmp 1, .ptr 1 0 8), (.cell 1 7, .sl 65), (.cell 1 6, .sl 87), (.cell 1 5, .sl 114), (.cell 1 4, .sl 110), (.cell 1 3, .sl 149), (.cell 1 2, .sl 147), (.cell 1 1, .sl 89), (.cell 1 0, .sl 108)]
noncomputable def cutoff_Check.j1 (k : Nat) : Nat → Int × Int × (List T.Zone) × PUnit × (List T.Person) × (List T.Zone) × (List T.Cond) × (List T.Sensor) × (List T.Door) × (List T.Fan) × (List T.Road) × (List T.Place) → Option (Int)
  | 0, _ => none
  | it + 1, (t63, t62, t61, (), s_Persons, s_Zones, s_Conds, s_Sensors, s_Air_Doors, s_Air_Fans, s_Air_Mine_Roads, s_Air_Mine_Places) => sel (decide (t63 < t62)) (sel (decide (0 ≤ t63)) (sel (decide (t63 < (↑t61.length : Int))) (obind (cutoff_checkZone { Air := { Mine := { Places := s_Air_Mine_Places, Roads := s_Air_Mine_Roads : T.Mine }, Fans := s_Air_Fans, Doors := s_Air_Doors : T.Air }, Sensors := s_Sensors, Conds := s_Conds, Zones := s_Zones, Persons := s_Persons : T.Site } (rd t61 t63.toNat default)) fun r3 => sel (r3 != 0) (some (r3)) ((cutoff_Check.j1 k it) (w64 (t63 + 1), t62, t61, (), s_Persons, s_Zones, s_Conds, s_Sensors, s_Air_Doors, s_Air_Fans, s_Air_Mine_Roads, s_Air_Mine_Places))) (none)) (none)) (cutoff_Check.j4 k ((), s_Persons))
@[reducible] def cutoff_Check.c5 : Carry := [(.tmp 1, .ptr 1 0 8), (.cell 1 7, .sl 65), (.cell 1 6, .sl 87), (.cell 1 5, .sl 114), (.cell 1 4, .sl 110), (.cell 1 3, .sl 149), (.cell 1 2, .sl 147), (.cell 1 1, .sl 89), (.cell 1 0, .sl 108)]
noncomputable def cutoff_Check.j5 (k : Nat) : PUnit × (List T.Person) × (List T.Zone) × (List T.Cond) × (List T.Sensor) × (List T.Door) × (List T.Fan) × (List T.Road) × (List T.Place) → Option (Int) := fun ((), s_Persons, s_Zones, s_Conds, s_Sensors, s_Air_Doors, s_Air_Fans, s_Air_Mine_Roads, s_Air_Mine_Places) => cutoff_Check.j1 k k (0, (↑s_Zones.length : Int), s_Zones, (), s_Persons, s_Zones, s_Conds, s_Sensors, s_Air_Doors, s_Air_Fans, s_Air_Mine_Roads, s_Air_Mine_Places)
@[reducible] def cutoff_Check.c0 : Carry := [(.tmp 49, .int .i64), (.tmp 48, .int .i64), (.tmp 47, .sl 114), (.tmp 1, .ptr 1 0 8), (.cell 1 7, .sl 65), (.cell 1 6, .sl 87), (.cell 1 5, .sl 114), (.cell 1 4, .sl 110), (.cell 1 3, .sl 149), (.cell 1 2, .sl 147), (.cell 1 1, .sl 89), (.cell 1 0, .sl 108)]
noncomputable def cutoff_Check.j0 (k : Nat) : Nat → Int × Int × (List T.Cond) × PUnit × (List T.Person) × (List T.Zone) × (List T.Cond) × (List T.Sensor) × (List T.Door) × (List T.Fan) × (List T.Road) × (List T.Place) → Option (Int)
  | 0, _ => none
  | it + 1, (t49, t48, t47, (), s_Persons, s_Zones, s_Conds, s_Sensors, s_Air_Doors, s_Air_Fans, s_Air_Mine_Roads, s_Air_Mine_Places) => sel (decide (t49 < t48)) (sel (decide (0 ≤ t49)) (sel (decide (t49 < (↑t47.length : Int))) (obind (cutoff_checkCond { Air := { Mine := { Places := s_Air_Mine_Places, Roads := s_Air_Mine_Roads : T.Mine }, Fans := s_Air_Fans, Doors := s_Air_Doors : T.Air }, Sensors := s_Sensors, Conds := s_Conds, Zones := s_Zones, Persons := s_Persons : T.Site } (rd t47 t49.toNat default)) fun r3 => sel (r3 != 0) (some (r3)) ((cutoff_Check.j0 k it) (w64 (t49 + 1), t48, t47, (), s_Persons, s_Zones, s_Conds, s_Sensors, s_Air_Doors, s_Air_Fans, s_Air_Mine_Roads, s_Air_Mine_Places))) (none)) (none)) (cutoff_Check.j5 k ((), s_Persons, s_Zones, s_Conds, s_Sensors, s_Air_Doors, s_Air_Fans, s_Air_Mine_Roads, s_Air_Mine_Places))
noncomputable def cutoff_Check.f (k : Nat) (s : T.Site) : Option (Int) := obind (branch_Check s.Air) fun r0 => sel (r0 != 0) (some (r0)) (sel (decide ((↑s.Sensors.length : Int) > 64)) (some (2)) (sel (decide ((↑s.Conds.length : Int) > 64)) (some (2)) (sel (decide ((↑s.Zones.length : Int) > 16)) (some (2)) (sel (decide ((↑s.Persons.length : Int) > 64)) (some (2)) (obind (cutoff_checkSensors s) fun r6 => sel (r6 != 0) (some (r6)) (cutoff_Check.j0 k k (0, (↑s.Conds.length : Int), s.Conds, (), s.Persons, s.Zones, s.Conds, s.Sensors, s.Air.Doors, s.Air.Fans, s.Air.Mine.Roads, s.Air.Mine.Places)))))))
noncomputable def cutoff_Check.ann (k : Nat) : Ann reg (Int) := (.seq .none (.seq .none (.seq .none (.seq .none (.join cutoff_Check.c5 (cutoff_Check.j5 k) (.seq .none (.block (.loop cutoff_Check.c0 (cutoff_Check.j0 k) fun g0 => .none))) (.join cutoff_Check.c4 (cutoff_Check.j4 k) (.seq .none (.block (.loop cutoff_Check.c1 (cutoff_Check.j1 k) fun g1 => .none))) (.join cutoff_Check.c3 (cutoff_Check.j3 k) (.seq .none (.block (.loop cutoff_Check.c2 (cutoff_Check.j2 k) fun g2 => .none))) .none)))))))
theorem cutoff_Check.obl (k : Nat) : obl (sigs T48) (orc reg T48 (Int)) k (bodyOf Go.Proofs.Try.f48) (cutoff_Check.ann k) (kont0 reg sg48 Go.Proofs.Try.f48.results.toList) :=
  (obl_seq obl_none (obl_seq obl_none (obl_seq obl_none (obl_seq obl_none (obl_join (obl_seq obl_none (obl_block (obl_loop (fun _ => by kernel_rfl) (fun n ⟨t49, t48, t47, (), s_Persons, s_Zones, s_Conds, s_Sensors, s_Air_Doors, s_Air_Fans, s_Air_Mine_Roads, s_Air_Mine_Places⟩ => by kernel_rfl) fun n => obl_none))) (fun ⟨(), s_Persons, s_Zones, s_Conds, s_Sensors, s_Air_Doors, s_Air_Fans, s_Air_Mine_Roads, s_Air_Mine_Places⟩ => by kernel_rfl) (obl_join (obl_seq obl_none (obl_block (obl_loop (fun _ => by kernel_rfl) (fun n ⟨t63, t62, t61, (), s_Persons, s_Zones, s_Conds, s_Sensors, s_Air_Doors, s_Air_Fans, s_Air_Mine_Roads, s_Air_Mine_Places⟩ => by kernel_rfl) fun n => obl_none))) (fun ⟨(), s_Persons⟩ => by kernel_rfl) (obl_join (obl_seq obl_none (obl_block (obl_loop (fun _ => by kernel_rfl) (fun n ⟨t77, t76, t75⟩ => by kernel_rfl) fun n => obl_none))) (fun () => by kernel_rfl) obl_none)))))))
theorem cutoff_Check.eq (k : Nat) (s : T.Site) : evFn reg (sigs T48) sg48 Go.Proofs.Try.f48 (orc reg T48 (Int)) k (cutoff_Check.ann k) (s) = cutoff_Check.f k s := by kernel_rfl
noncomputable def cutoff_Check (s : T.Site) : Option (Int) := cutoff_Check.f K s
noncomputable def e48 : Ab.Spec reg := ⟨sg48, fun (s) => cutoff_Check s⟩
theorem ok48 : EntryOk Go.Proofs.Try.prog 48 e48 :=
  entry_ok (T := T48) (fnsOk_cons ok62 (fnsOk_cons ok63 (fnsOk_cons ok64 (fnsOk_cons ok65 (fnsOk_nil regOk))))) mixed (fn := Go.Proofs.Try.f48) (by kernel_rfl) (by decide) (by kernel_rfl) (cutoff_Check.obl K) (fun (s) => cutoff_Check.eq K s)
def sg34 : Ab.Sig := ⟨[(false, 41), (false, 23), (false, 24), (false, 3)], [(52, [false])], [], false, false, []⟩
noncomputable def T34 : List (Nat × Ab.Spec reg) := [(48, e48)]
/-! ### restore_check: function 34 -/
noncomputable def restore_check.f (k : Nat) (s : T.Site) (c : List T.Cut) (flows : List T.Span) (time : Int) : Option (Int) := obind (cutoff_Check s) fun r0 => sel (r0 != 0) (some (r0)) (sel ((↑c.length : Int) != (↑s.Zones.length : Int)) (some (11)) (sel ((↑flows.length : Int) != (↑s.Air.Mine.Roads.length : Int)) (some (11)) (sel (decide (time < 0)) (some (8)) (sel (decide (time > 2147483648)) (some (8)) (some (0))))))
noncomputable def restore_check.ann (k : Nat) : Ann reg (Int) := .none
theorem restore_check.obl (k : Nat) : obl (sigs T34) (orc reg T34 (Int)) k (bodyOf Go.Proofs.Try.f34) (restore_check.ann k) (kont0 reg sg34 Go.Proofs.Try.f34.results.toList) :=
  obl_none
theorem restore_check.eq (k : Nat) (s : T.Site) (c : List T.Cut) (flows : List T.Span) (time : Int) : evFn reg (sigs T34) sg34 Go.Proofs.Try.f34 (orc reg T34 (Int)) k (restore_check.ann k) (s, c, flows, time) = restore_check.f k s c flows time := by kernel_rfl
noncomputable def restore_check (s : T.Site) (c : List T.Cut) (flows : List T.Span) (time : Int) : Option (Int) := restore_check.f K s c flows time
noncomputable def e34 : Ab.Spec reg := ⟨sg34, fun (s, c, flows, time) => restore_check s c flows time⟩
theorem ok34 : EntryOk Go.Proofs.Try.prog 34 e34 :=
  entry_ok (T := T34) (fnsOk_cons ok48 (fnsOk_nil regOk)) mixed (fn := Go.Proofs.Try.f34) (by kernel_rfl) (by decide) (by kernel_rfl) (restore_check.obl K) (fun (s, c, flows, time) => restore_check.eq K s c flows time)
def sg66 : Ab.Sig := ⟨[(false, 27)], [(3, [false])], [], false, false, []⟩
noncomputable def T66 : List (Nat × Ab.Spec reg) := []
/-! ### airflow_Direction: function 66 -/
noncomputable def airflow_Direction.f (k : Nat) (f : T.Span) : Option (Int) := sel (decide (f.Low > f.High)) (some (0)) (sel (decide (f.Low > 0)) (some (1)) (sel (decide (f.High < 0)) (some (-1)) (some (0))))
noncomputable def airflow_Direction.ann (k : Nat) : Ann reg (Int) := .none
theorem airflow_Direction.obl (k : Nat) : obl (sigs T66) (orc reg T66 (Int)) k (bodyOf Go.Proofs.Try.f66) (airflow_Direction.ann k) (kont0 reg sg66 Go.Proofs.Try.f66.results.toList) :=
  obl_none
theorem airflow_Direction.eq (k : Nat) (f : T.Span) : evFn reg (sigs T66) sg66 Go.Proofs.Try.f66 (orc reg T66 (Int)) k (airflow_Direction.ann k) (f) = airflow_Direction.f k f := by kernel_rfl
noncomputable def airflow_Direction (f : T.Span) : Option (Int) := airflow_Direction.f K f
noncomputable def e66 : Ab.Spec reg := ⟨sg66, fun (f) => airflow_Direction f⟩
theorem ok66 : EntryOk Go.Proofs.Try.prog 66 e66 :=
  entry_ok (T := T66) (fnsOk_nil regOk) mixed (fn := Go.Proofs.Try.f66) (by kernel_rfl) (by decide) (by kernel_rfl) (airflow_Direction.obl K) (fun (f) => airflow_Direction.eq K f)
def sg49 : Ab.Sig := ⟨[(false, 89), (false, 27), (false, 3), (false, 3)], [(4, [false])], [], false, false, []⟩
noncomputable def T49 : List (Nat × Ab.Spec reg) := [(66, e66)]
/-! ### restore_changed: function 49 -/
noncomputable def restore_changed.f (k : Nat) (r : T.Road) (flow : T.Span) (fresh : Int) (seconds : Int) : Option (Bool) := sel (w64 (w64 (w64 (1000 * r.Length) * r.Area) * fresh) == 0) (some (Bool.true)) (sel (seconds == 0) (some (Bool.false)) (sel (seconds != 0) (obind (airflow_Direction flow) fun r3 => sel (r3 == 1) (some (decide (flow.Low ≥ w64 (Int.tdiv (w64 (w64 (w64 (w64 (w64 (1000 * r.Length) * r.Area) * fresh) + seconds) - 1)) seconds)))) (sel (r3 == -1) (some (decide (flow.High ≤ w64 (0 - w64 (Int.tdiv (w64 (w64 (w64 (w64 (w64 (1000 * r.Length) * r.Area) * fresh) + seconds) - 1)) seconds))))) (some (Bool.false)))) (none)))
noncomputable def restore_changed.ann (k : Nat) : Ann reg (Bool) := .none
theorem restore_changed.obl (k : Nat) : obl (sigs T49) (orc reg T49 (Bool)) k (bodyOf Go.Proofs.Try.f49) (restore_changed.ann k) (kont0 reg sg49 Go.Proofs.Try.f49.results.toList) :=
  obl_none
theorem restore_changed.eq (k : Nat) (r : T.Road) (flow : T.Span) (fresh : Int) (seconds : Int) : evFn reg (sigs T49) sg49 Go.Proofs.Try.f49 (orc reg T49 (Bool)) k (restore_changed.ann k) (r, flow, fresh, seconds) = restore_changed.f k r flow fresh seconds := by kernel_rfl
noncomputable def restore_changed (r : T.Road) (flow : T.Span) (fresh : Int) (seconds : Int) : Option (Bool) := restore_changed.f K r flow fresh seconds
noncomputable def e49 : Ab.Spec reg := ⟨sg49, fun (r, flow, fresh, seconds) => restore_changed r flow fresh seconds⟩
theorem ok49 : EntryOk Go.Proofs.Try.prog 49 e49 :=
  entry_ok (T := T49) (fnsOk_cons ok66 (fnsOk_nil regOk)) mixed (fn := Go.Proofs.Try.f49) (by kernel_rfl) (by decide) (by kernel_rfl) (restore_changed.obl K) (fun (r, flow, fresh, seconds) => restore_changed.eq K r flow fresh seconds)
def sg35 : Ab.Sig := ⟨[(false, 41), (false, 23), (false, 24), (false, 3), (false, 3)], [(52, [false])], [], false, false, []⟩
noncomputable def T35 : List (Nat × Ab.Spec reg) := [(49, e49)]
/-! ### restore_ready: function 35 -/
@[reducible] def restore_ready.c1 : Carry := []
noncomputable def restore_ready.j1 (k : Nat) : Unit → Option (Int) := fun (()) => some (0)
@[reducible] def restore_ready.c0 : Carry := [(.tmp 56, .int .i64), (.tmp 55, .int .i64), (.tmp 54, .sl 3), (.cell 12 3, .int .i64), (.cell 11 1, .int .i64), (.tmp 12, .ptr 12 0 4), (.tmp 11, .ptr 11 0 3), (.tmp 5, .ptr 5 0 8), (.cell 5 1, .sl 89), (.tmp 2, .sl 27), (.tmp 4, .int .i64)]
noncomputable def restore_ready.j0 (k : Nat) : Nat → Int × Int × (List Int) × Int × Int × PUnit × PUnit × PUnit × (List T.Road) × (List T.Span) × Int → Option (Int)
  | 0, _ => none
  | it + 1, (t56, t55, t54, z_Fresh, x_Clear, (), (), (), s_Air_Mine_Roads, flows_0, time_0) => sel (decide (t56 < t55)) (sel (decide (0 ≤ t56)) (sel (decide (t56 < (↑t54.length : Int))) (sel (decide (0 ≤ rd t54 t56.toNat default)) (sel (decide (rd t54 t56.toNat default < (↑s_Air_Mine_Roads.length : Int))) (sel (decide (0 ≤ rd t54 t56.toNat default)) (sel (decide (rd t54 t56.toNat default < (↑flows_0.length : Int))) (obind (restore_changed (rd s_Air_Mine_Roads (rd t54 t56.toNat default).toNat default) (rd flows_0 (rd t54 t56.toNat default).toNat default) z_Fresh (w64 (time_0 - x_Clear))) fun r7 => sel (!r7) (some (20)) ((restore_ready.j0 k it) (w64 (t56 + 1), t55, t54, z_Fresh, x_Clear, (), (), (), s_Air_Mine_Roads, flows_0, time_0))) (none)) (none)) (none)) (none)) (none)) (none)) (restore_ready.j1 k ())
noncomputable def restore_ready.f (k : Nat) (s : T.Site) (c : List T.Cut) (flows : List T.Span) (zone : Int) (time : Int) : Option (Int) := sel (decide (zone < 0)) (some (17)) (sel (decide (zone ≥ (↑c.length : Int))) (some (17)) (sel (decide (0 ≤ zone)) (sel (decide (zone < (↑c.length : Int))) (sel (decide (0 ≤ zone)) (sel (decide (zone < (↑s.Zones.length : Int))) (sel (!(rd c zone.toNat default).Off) (some (10)) (sel (decide ((rd c zone.toNat default).Clear < 0)) (some (20)) (sel (decide ((rd c zone.toNat default).Clear > time)) (some (20)) (sel (decide (w64 (time - (rd c zone.toNat default).Clear) < (rd s.Zones zone.toNat default).Hold)) (some (20)) (restore_ready.j0 k k (0, (↑(rd s.Zones zone.toNat default).Roads.length : Int), (rd s.Zones zone.toNat default).Roads, (rd s.Zones zone.toNat default).Fresh, (rd c zone.toNat default).Clear, (), (), (), s.Air.Mine.Roads, flows, time)))))) (none)) (none)) (none)) (none)))
noncomputable def restore_ready.ann (k : Nat) : Ann reg (Int) := (.seq .none (.seq .none (.seq .none (.seq .none (.seq .none (.join restore_ready.c1 (restore_ready.j1 k) (.seq .none (.block (.loop restore_ready.c0 (restore_ready.j0 k) fun g0 => .none))) .none))))))
theorem restore_ready.obl (k : Nat) : obl (sigs T35) (orc reg T35 (Int)) k (bodyOf Go.Proofs.Try.f35) (restore_ready.ann k) (kont0 reg sg35 Go.Proofs.Try.f35.results.toList) :=
  (obl_seq obl_none (obl_seq obl_none (obl_seq obl_none (obl_seq obl_none (obl_seq obl_none (obl_join (obl_seq obl_none (obl_block (obl_loop (fun _ => by kernel_rfl) (fun n ⟨t56, t55, t54, z_Fresh, x_Clear, (), (), (), s_Air_Mine_Roads, flows_0, time_0⟩ => by kernel_rfl) fun n => obl_none))) (fun () => by kernel_rfl) obl_none))))))
theorem restore_ready.eq (k : Nat) (s : T.Site) (c : List T.Cut) (flows : List T.Span) (zone : Int) (time : Int) : evFn reg (sigs T35) sg35 Go.Proofs.Try.f35 (orc reg T35 (Int)) k (restore_ready.ann k) (s, c, flows, zone, time) = restore_ready.f k s c flows zone time := by kernel_rfl
noncomputable def restore_ready (s : T.Site) (c : List T.Cut) (flows : List T.Span) (zone : Int) (time : Int) : Option (Int) := restore_ready.f K s c flows zone time
noncomputable def e35 : Ab.Spec reg := ⟨sg35, fun (s, c, flows, zone, time) => restore_ready s c flows zone time⟩
theorem ok35 : EntryOk Go.Proofs.Try.prog 35 e35 :=
  entry_ok (T := T35) (fnsOk_cons ok49 (fnsOk_nil regOk)) mixed (fn := Go.Proofs.Try.f35) (by kernel_rfl) (by decide) (by kernel_rfl) (restore_ready.obl K) (fun (s, c, flows, zone, time) => restore_ready.eq K s c flows zone time)
def sg17 : Ab.Sig := ⟨[(false, 41), (false, 23), (false, 24), (false, 56), (false, 3), (false, 3), (false, 3)], [(56, [false, false, false, false, false]), (52, [false])], [], false, false, []⟩
noncomputable def T17 : List (Nat × Ab.Spec reg) := [(34, e34), (35, e35)]
/-! ### restore_Ask: function 17 -/
noncomputable def restore_Ask.f (k : Nat) (s : T.Site) (c : List T.Cut) (flows : List T.Span) (r : T.Restoring) (person : Int) (zone : Int) (time : Int) : Option (T.Restoring × Int) := obind (restore_check s c flows time) fun r0 => sel (r0 != 0) (some ((r, r0))) (sel (r.Zone != -1) (some ((r, 10))) (sel (decide (person < 0)) (some ((r, 19))) (sel (decide (person ≥ (↑s.Persons.length : Int))) (some ((r, 19))) (sel (decide (0 ≤ person)) (sel (decide (person < (↑s.Persons.length : Int))) (sel ((rd s.Persons person.toNat default).Role != 1) (some ((r, 19))) (obind (restore_ready s c flows zone time) fun r8 => sel (r8 != 0) (some ((r, r8))) (some (({ Zone := zone, First := person, Second := -1, Step := 1, Time := time : T.Restoring }, 0))))) (none)) (none)))))
noncomputable def restore_Ask.ann (k : Nat) : Ann reg (T.Restoring × Int) := .none
theorem restore_Ask.obl (k : Nat) : obl (sigs T17) (orc reg T17 (T.Restoring × Int)) k (bodyOf Go.Proofs.Try.f17) (restore_Ask.ann k) (kont0 reg sg17 Go.Proofs.Try.f17.results.toList) :=
  obl_none
theorem restore_Ask.eq (k : Nat) (s : T.Site) (c : List T.Cut) (flows : List T.Span) (r : T.Restoring) (person : Int) (zone : Int) (time : Int) : evFn reg (sigs T17) sg17 Go.Proofs.Try.f17 (orc reg T17 (T.Restoring × Int)) k (restore_Ask.ann k) (s, c, flows, r, person, zone, time) = restore_Ask.f k s c flows r person zone time := by kernel_rfl
noncomputable def restore_Ask (s : T.Site) (c : List T.Cut) (flows : List T.Span) (r : T.Restoring) (person : Int) (zone : Int) (time : Int) : Option (T.Restoring × Int) := restore_Ask.f K s c flows r person zone time
noncomputable def e17 : Ab.Spec reg := ⟨sg17, fun (s, c, flows, r, person, zone, time) => restore_Ask s c flows r person zone time⟩
theorem ok17 : EntryOk Go.Proofs.Try.prog 17 e17 :=
  entry_ok (T := T17) (fnsOk_cons ok34 (fnsOk_cons ok35 (fnsOk_nil regOk))) mixed (fn := Go.Proofs.Try.f17) (by kernel_rfl) (by decide) (by kernel_rfl) (restore_Ask.obl K) (fun (s, c, flows, r, person, zone, time) => restore_Ask.eq K s c flows r person zone time)
def sg38 : Ab.Sig := ⟨[(false, 56), (false, 3)], [(4, [false])], [], false, false, []⟩
noncomputable def T38 : List (Nat × Ab.Spec reg) := []
/-! ### restore_late: function 38 -/
noncomputable def restore_late.f (k : Nat) (r : T.Restoring) (time : Int) : Option (Bool) := sel (decide (time < r.Time)) (some (Bool.true)) (sel (decide (r.Time < 0)) (some (Bool.true)) (some (decide (r.Time < w64 (time - 600)))))
noncomputable def restore_late.ann (k : Nat) : Ann reg (Bool) := .none
theorem restore_late.obl (k : Nat) : obl (sigs T38) (orc reg T38 (Bool)) k (bodyOf Go.Proofs.Try.f38) (restore_late.ann k) (kont0 reg sg38 Go.Proofs.Try.f38.results.toList) :=
  obl_none
theorem restore_late.eq (k : Nat) (r : T.Restoring) (time : Int) : evFn reg (sigs T38) sg38 Go.Proofs.Try.f38 (orc reg T38 (Bool)) k (restore_late.ann k) (r, time) = restore_late.f k r time := by kernel_rfl
noncomputable def restore_late (r : T.Restoring) (time : Int) : Option (Bool) := restore_late.f K r time
noncomputable def e38 : Ab.Spec reg := ⟨sg38, fun (r, time) => restore_late r time⟩
theorem ok38 : EntryOk Go.Proofs.Try.prog 38 e38 :=
  entry_ok (T := T38) (fnsOk_nil regOk) mixed (fn := Go.Proofs.Try.f38) (by kernel_rfl) (by decide) (by kernel_rfl) (restore_late.obl K) (fun (r, time) => restore_late.eq K r time)
def sg18 : Ab.Sig := ⟨[(false, 41), (false, 23), (false, 24), (false, 56), (false, 3), (false, 3)], [(56, [false, false, false, false, false]), (52, [false])], [], false, false, []⟩
noncomputable def T18 : List (Nat × Ab.Spec reg) := [(34, e34), (38, e38), (35, e35)]
/-! ### restore_Confirm: function 18 -/
noncomputable def restore_Confirm.f (k : Nat) (s : T.Site) (c : List T.Cut) (flows : List T.Span) (r : T.Restoring) (person : Int) (time : Int) : Option (T.Restoring × Int) := obind (restore_check s c flows time) fun r0 => sel (r0 != 0) (some ((r, r0))) (sel (r.Zone == -1) (some ((r, 10))) (sel (r.Step != 1) (some ((r, 10))) (sel (decide (person < 0)) (some ((r, 19))) (sel (decide (person ≥ (↑s.Persons.length : Int))) (some ((r, 19))) (sel (person == r.First) (some ((r, 19))) (sel (decide (r.First < 0)) (some ((r, 19))) (sel (decide (r.First ≥ (↑s.Persons.length : Int))) (some ((r, 19))) (sel (decide (0 ≤ person)) (sel (decide (person < (↑s.Persons.length : Int))) (sel (decide (0 ≤ r.First)) (sel (decide (r.First < (↑s.Persons.length : Int))) (sel ((rd s.Persons person.toNat default).Role == (rd s.Persons r.First.toNat default).Role) (some ((r, 19))) (obind (restore_late r time) fun r14 => sel (r14) (some ((r, 8))) (obind (restore_ready s c flows r.Zone time) fun r16 => sel (r16 != 0) (some ((r, r16))) (some (({ Zone := r.Zone, First := r.First, Second := person, Step := 2, Time := time : T.Restoring }, 0)))))) (none)) (none)) (none)) (none)))))))))
noncomputable def restore_Confirm.ann (k : Nat) : Ann reg (T.Restoring × Int) := .none
theorem restore_Confirm.obl (k : Nat) : obl (sigs T18) (orc reg T18 (T.Restoring × Int)) k (bodyOf Go.Proofs.Try.f18) (restore_Confirm.ann k) (kont0 reg sg18 Go.Proofs.Try.f18.results.toList) :=
  obl_none
theorem restore_Confirm.eq (k : Nat) (s : T.Site) (c : List T.Cut) (flows : List T.Span) (r : T.Restoring) (person : Int) (time : Int) : evFn reg (sigs T18) sg18 Go.Proofs.Try.f18 (orc reg T18 (T.Restoring × Int)) k (restore_Confirm.ann k) (s, c, flows, r, person, time) = restore_Confirm.f k s c flows r person time := by kernel_rfl
noncomputable def restore_Confirm (s : T.Site) (c : List T.Cut) (flows : List T.Span) (r : T.Restoring) (person : Int) (time : Int) : Option (T.Restoring × Int) := restore_Confirm.f K s c flows r person time
noncomputable def e18 : Ab.Spec reg := ⟨sg18, fun (s, c, flows, r, person, time) => restore_Confirm s c flows r person time⟩
theorem ok18 : EntryOk Go.Proofs.Try.prog 18 e18 :=
  entry_ok (T := T18) (fnsOk_cons ok34 (fnsOk_cons ok38 (fnsOk_cons ok35 (fnsOk_nil regOk)))) mixed (fn := Go.Proofs.Try.f18) (by kernel_rfl) (by decide) (by kernel_rfl) (restore_Confirm.obl K) (fun (s, c, flows, r, person, time) => restore_Confirm.eq K s c flows r person time)
def sg52 : Ab.Sig := ⟨[(false, 45)], [(52, [false])], [], false, false, []⟩
noncomputable def T52 : List (Nat × Ab.Spec reg) := []
/-! ### feeder_Check: function 52 -/
@[reducible] def feeder_Check.c2 : Carry := [(.tmp 1, .ptr 1 0 3), (.cell 1 2, .int .i64)]
noncomputable def feeder_Check.j2 (k : Nat) : PUnit × Int → Option (Int) := fun ((), f_Reply) => sel (decide (f_Reply < 1)) (some (1)) (sel (decide (f_Reply > 100000)) (some (1)) (some (0)))
@[reducible] def feeder_Check.c1 : Carry := [(.tmp 72, .int .i64), (.tmp 71, .int .i64), (.tmp 70, .sl 3), (.tmp 5, .own 4 100004), (.tmp 1, .ptr 1 0 3), (.cell 1 2, .int .i64), (.cell 1 0, .sl 76)]
noncomputable def feeder_Check.j1 (k : Nat) : Nat → Int × Int × (List Int) × (List Bool) × PUnit × Int × (List T.Switch) → Option (Int)
  | 0, _ => none
  | it + 1, (t72, t71, t70, taken, (), f_Reply, f_Switches) => sel (decide (t72 < t71)) (sel (decide (0 ≤ t72)) (sel (decide (t72 < (↑t70.length : Int))) (sel (decide (rd t70 t72.toNat default < 0)) (some (16)) (sel (decide (rd t70 t72.toNat default ≥ (↑f_Switches.length : Int))) (some (16)) (sel (decide (0 ≤ rd t70 t72.toNat default)) (sel (decide (rd t70 t72.toNat default < (↑taken.length : Int))) (sel (rd taken (rd t70 t72.toNat default).toNat default) (some (17)) (sel (decide (0 ≤ rd t70 t72.toNat default)) (sel (decide (rd t70 t72.toNat default < (↑taken.length : Int))) ((feeder_Check.j1 k it) (w64 (t72 + 1), t71, t70, taken.set (rd t70 t72.toNat default).toNat Bool.true, (), f_Reply, f_Switches)) (none)) (none))) (none)) (none)))) (none)) (none)) (feeder_Check.j2 k ((), f_Reply))
@[reducible] def feeder_Check.c3 : Carry := [(.tmp 1, .ptr 1 0 3), (.cell 1 2, .int .i64), (.cell 1 1, .sl 3), (.cell 1 0, .sl 76)]
noncomputable def feeder_Check.j3 (k : Nat) : PUnit × Int × (List Int) × (List T.Switch) → Option (Int) := fun ((), f_Reply, f_Zones, f_Switches) => sel ((↑f_Switches.length : Int) == (↑f_Switches.length : Int)) (sel (decide ((↑f_Switches.length : Int) * (↑1 : Int) ≤ 140737488355328)) (feeder_Check.j1 k k (0, (↑f_Zones.length : Int), f_Zones, List.replicate (↑f_Switches.length : Int).toNat Bool.false, (), f_Reply, f_Switches)) (none)) (none)
@[reducible] def feeder_Check.c0 : Carry := [(.tmp 21, .int .i64), (.tmp 20, .int .i64), (.tmp 19, .sl 76), (.tmp 1, .ptr 1 0 3), (.cell 1 2, .int .i64), (.cell 1 1, .sl 3), (.cell 1 0, .sl 76)]
noncomputable def feeder_Check.j0 (k : Nat) : Nat → Int × Int × (List T.Switch) × PUnit × Int × (List Int) × (List T.Switch) → Option (Int)
  | 0, _ => none
  | it + 1, (t21, t20, t19, (), f_Reply, f_Zones, f_Switches) => sel (decide (t21 < t20)) (sel (decide (0 ≤ t21)) (sel (decide (t21 < (↑t19.length : Int))) (sel (decide ((rd t19 t21.toNat default).Above < -1)) (some (16)) (sel (decide ((rd t19 t21.toNat default).Above ≥ t21)) (some (16)) (sel (decide ((rd t19 t21.toNat default).Since < 0)) (some (8)) (sel (decide ((rd t19 t21.toNat default).Since > 2147483648)) (some (8)) (sel (decide ((rd t19 t21.toNat default).Shown < -1)) (some (10)) (sel (decide ((rd t19 t21.toNat default).Shown > 1)) (some (10)) (sel ((rd t19 t21.toNat default).Late) (sel ((rd t19 t21.toNat default).Closed) (some (10)) (sel ((rd t19 t21.toNat default).Shown == -1) (some (10)) ((feeder_Check.j0 k it) (w64 (t21 + 1), t20, t19, (), f_Reply, f_Zones, f_Switches)))) ((feeder_Check.j0 k it) (w64 (t21 + 1), t20, t19, (), f_Reply, f_Zones, f_Switches))))))))) (none)) (none)) (feeder_Check.j3 k ((), f_Reply, f_Zones, f_Switches))
noncomputable def feeder_Check.f (k : Nat) (f : T.Feeder) : Option (Int) := sel (decide ((↑f.Switches.length : Int) > 32)) (some (2)) (sel (decide ((↑f.Zones.length : Int) > 16)) (some (2)) (feeder_Check.j0 k k (0, (↑f.Switches.length : Int), f.Switches, (), f.Reply, f.Zones, f.Switches)))
noncomputable def feeder_Check.ann (k : Nat) : Ann reg (Int) := (.seq .none (.seq .none (.join feeder_Check.c3 (feeder_Check.j3 k) (.seq .none (.block (.loop feeder_Check.c0 (feeder_Check.j0 k) fun g0 => .none))) (.seq .none (.join feeder_Check.c2 (feeder_Check.j2 k) (.seq .none (.block (.loop feeder_Check.c1 (feeder_Check.j1 k) fun g1 => .none))) .none)))))
theorem feeder_Check.obl (k : Nat) : obl (sigs T52) (orc reg T52 (Int)) k (bodyOf Go.Proofs.Try.f52) (feeder_Check.ann k) (kont0 reg sg52 Go.Proofs.Try.f52.results.toList) :=
  (obl_seq obl_none (obl_seq obl_none (obl_join (obl_seq obl_none (obl_block (obl_loop (fun _ => by kernel_rfl) (fun n ⟨t21, t20, t19, (), f_Reply, f_Zones, f_Switches⟩ => by kernel_rfl) fun n => obl_none))) (fun ⟨(), f_Reply, f_Zones, f_Switches⟩ => by kernel_rfl) (obl_seq obl_none (obl_join (obl_seq obl_none (obl_block (obl_loop (fun _ => by kernel_rfl) (fun n ⟨t72, t71, t70, taken, (), f_Reply, f_Switches⟩ => by kernel_rfl) fun n => obl_none))) (fun ⟨(), f_Reply⟩ => by kernel_rfl) obl_none)))))
theorem feeder_Check.eq (k : Nat) (f : T.Feeder) : evFn reg (sigs T52) sg52 Go.Proofs.Try.f52 (orc reg T52 (Int)) k (feeder_Check.ann k) (f) = feeder_Check.f k f := by kernel_rfl
noncomputable def feeder_Check (f : T.Feeder) : Option (Int) := feeder_Check.f K f
noncomputable def e52 : Ab.Spec reg := ⟨sg52, fun (f) => feeder_Check f⟩
theorem ok52 : EntryOk Go.Proofs.Try.prog 52 e52 :=
  entry_ok (T := T52) (fnsOk_nil regOk) mixed (fn := Go.Proofs.Try.f52) (by kernel_rfl) (by decide) (by kernel_rfl) (feeder_Check.obl K) (fun (f) => feeder_Check.eq K f)
def sg76 : Ab.Sig := ⟨[(false, 45), (false, 3)], [(4, [false])], [], false, false, []⟩
noncomputable def T76 : List (Nat × Ab.Spec reg) := []
/-! ### feeder_timely: function 76 -/
@[reducible] def feeder_timely.c1 : Carry := []
noncomputable def feeder_timely.j1 (k : Nat) : Unit → Option (Bool) := fun (()) => some (Bool.true)
@[reducible] def feeder_timely.c0 : Carry := [(.tmp 16, .int .i64), (.tmp 15, .int .i64), (.tmp 14, .sl 76), (.tmp 1, .int .i64)]
noncomputable def feeder_timely.j0 (k : Nat) : Nat → Int × Int × (List T.Switch) × Int → Option (Bool)
  | 0, _ => none
  | it + 1, (t16, t15, t14, time_0) => sel (decide (t16 < t15)) (sel (decide (0 ≤ t16)) (sel (decide (t16 < (↑t14.length : Int))) (sel (decide (time_0 < (rd t14 t16.toNat default).Since)) (some (Bool.false)) ((feeder_timely.j0 k it) (w64 (t16 + 1), t15, t14, time_0))) (none)) (none)) (feeder_timely.j1 k ())
noncomputable def feeder_timely.f (k : Nat) (f : T.Feeder) (time : Int) : Option (Bool) := sel (decide (time < 0)) (some (Bool.false)) (sel (decide (time > 2147483648)) (some (Bool.false)) (feeder_timely.j0 k k (0, (↑f.Switches.length : Int), f.Switches, time)))
noncomputable def feeder_timely.ann (k : Nat) : Ann reg (Bool) := (.seq .none (.seq .none (.join feeder_timely.c1 (feeder_timely.j1 k) (.seq .none (.block (.loop feeder_timely.c0 (feeder_timely.j0 k) fun g0 => .none))) .none)))
theorem feeder_timely.obl (k : Nat) : obl (sigs T76) (orc reg T76 (Bool)) k (bodyOf Go.Proofs.Try.f76) (feeder_timely.ann k) (kont0 reg sg76 Go.Proofs.Try.f76.results.toList) :=
  (obl_seq obl_none (obl_seq obl_none (obl_join (obl_seq obl_none (obl_block (obl_loop (fun _ => by kernel_rfl) (fun n ⟨t16, t15, t14, time_0⟩ => by kernel_rfl) fun n => obl_none))) (fun () => by kernel_rfl) obl_none)))
theorem feeder_timely.eq (k : Nat) (f : T.Feeder) (time : Int) : evFn reg (sigs T76) sg76 Go.Proofs.Try.f76 (orc reg T76 (Bool)) k (feeder_timely.ann k) (f, time) = feeder_timely.f k f time := by kernel_rfl
noncomputable def feeder_timely (f : T.Feeder) (time : Int) : Option (Bool) := feeder_timely.f K f time
noncomputable def e76 : Ab.Spec reg := ⟨sg76, fun (f, time) => feeder_timely f time⟩
theorem ok76 : EntryOk Go.Proofs.Try.prog 76 e76 :=
  entry_ok (T := T76) (fnsOk_nil regOk) mixed (fn := Go.Proofs.Try.f76) (by kernel_rfl) (by decide) (by kernel_rfl) (feeder_timely.obl K) (fun (f, time) => feeder_timely.eq K f time)
def sg54 : Ab.Sig := ⟨[(false, 45), (false, 3), (false, 3)], [(52, [false])], [], false, false, []⟩
noncomputable def T54 : List (Nat × Ab.Spec reg) := [(52, e52), (76, e76)]
/-! ### feeder_can: function 54 -/
noncomputable def feeder_can.f (k : Nat) (f : T.Feeder) (s : Int) (time : Int) : Option (Int) := obind (feeder_Check f) fun r0 => sel (r0 != 0) (some (r0)) (sel (decide (s < 0)) (some (16)) (sel (decide (s ≥ (↑f.Switches.length : Int))) (some (16)) (obind (feeder_timely f time) fun r4 => sel (!r4) (some (8)) (some (0)))))
noncomputable def feeder_can.ann (k : Nat) : Ann reg (Int) := .none
theorem feeder_can.obl (k : Nat) : obl (sigs T54) (orc reg T54 (Int)) k (bodyOf Go.Proofs.Try.f54) (feeder_can.ann k) (kont0 reg sg54 Go.Proofs.Try.f54.results.toList) :=
  obl_none
theorem feeder_can.eq (k : Nat) (f : T.Feeder) (s : Int) (time : Int) : evFn reg (sigs T54) sg54 Go.Proofs.Try.f54 (orc reg T54 (Int)) k (feeder_can.ann k) (f, s, time) = feeder_can.f k f s time := by kernel_rfl
noncomputable def feeder_can (f : T.Feeder) (s : Int) (time : Int) : Option (Int) := feeder_can.f K f s time
noncomputable def e54 : Ab.Spec reg := ⟨sg54, fun (f, s, time) => feeder_can f s time⟩
theorem ok54 : EntryOk Go.Proofs.Try.prog 54 e54 :=
  entry_ok (T := T54) (fnsOk_cons ok52 (fnsOk_cons ok76 (fnsOk_nil regOk))) mixed (fn := Go.Proofs.Try.f54) (by kernel_rfl) (by decide) (by kernel_rfl) (feeder_can.obl K) (fun (f, s, time) => feeder_can.eq K f s time)
def sg55 : Ab.Sig := ⟨[(false, 45)], [(45, [true, true, false])], [], false, false, []⟩
noncomputable def T55 : List (Nat × Ab.Spec reg) := []
/-! ### feeder_clone: function 55 -/
noncomputable def feeder_clone.f (k : Nat) (f : T.Feeder) : Option (T.Feeder) := sel (decide ((([] : List Unit).length + f.Switches.length) * 32 ≤ 140737488355328)) (sel (decide ((([] : List Unit).length + f.Zones.length) * 8 ≤ 140737488355328)) (some ({ Switches := [] ++ f.Switches, Zones := [] ++ f.Zones, Reply := f.Reply : T.Feeder })) (none)) (none)
noncomputable def feeder_clone.ann (k : Nat) : Ann reg (T.Feeder) := .none
theorem feeder_clone.obl (k : Nat) : obl (sigs T55) (orc reg T55 (T.Feeder)) k (bodyOf Go.Proofs.Try.f55) (feeder_clone.ann k) (kont0 reg sg55 Go.Proofs.Try.f55.results.toList) :=
  obl_none
theorem feeder_clone.eq (k : Nat) (f : T.Feeder) : evFn reg (sigs T55) sg55 Go.Proofs.Try.f55 (orc reg T55 (T.Feeder)) k (feeder_clone.ann k) (f) = feeder_clone.f k f := by kernel_rfl
noncomputable def feeder_clone (f : T.Feeder) : Option (T.Feeder) := feeder_clone.f K f
noncomputable def e55 : Ab.Spec reg := ⟨sg55, fun (f) => feeder_clone f⟩
theorem ok55 : EntryOk Go.Proofs.Try.prog 55 e55 :=
  entry_ok (T := T55) (fnsOk_nil regOk) mixed (fn := Go.Proofs.Try.f55) (by kernel_rfl) (by decide) (by kernel_rfl) (feeder_clone.obl K) (fun (f) => feeder_clone.eq K f)
def sg40 : Ab.Sig := ⟨[(false, 45), (false, 3), (false, 3)], [(45, [true, true, false]), (52, [false])], [], false, false, []⟩
noncomputable def T40 : List (Nat × Ab.Spec reg) := [(54, e54), (55, e55)]
/-! ### feeder_Close: function 40 -/
noncomputable def feeder_Close.f (k : Nat) (f : T.Feeder) (s : Int) (time : Int) : Option (T.Feeder × Int) := obind (feeder_can f s time) fun r0 => sel (r0 != 0) (some (({ Switches := [], Zones := [], Reply := 0 : T.Feeder }, r0))) (sel (decide (0 ≤ s)) (sel (decide (s < (↑f.Switches.length : Int))) (sel ((rd f.Switches s.toNat default).Shown != -1) (some (({ Switches := [], Zones := [], Reply := 0 : T.Feeder }, 10))) (sel (decide ((rd f.Switches s.toNat default).Above ≥ 0)) (sel (decide (0 ≤ (rd f.Switches s.toNat default).Above)) (sel (decide ((rd f.Switches s.toNat default).Above < (↑f.Switches.length : Int))) (sel ((rd f.Switches (rd f.Switches s.toNat default).Above.toNat default).Shown != 1) (some (({ Switches := [], Zones := [], Reply := 0 : T.Feeder }, 10))) (obind (feeder_clone f) fun r9 => sel (decide (0 ≤ s)) (sel (decide (s < (↑r9.Switches.length : Int))) (some (({ Switches := r9.Switches.set s.toNat { Above := (rd f.Switches s.toNat default).Above, Since := time, Shown := 0, Closed := Bool.true, Late := Bool.false : T.Switch }, Zones := r9.Zones, Reply := r9.Reply : T.Feeder }, 0))) (none)) (none))) (none)) (none)) (obind (feeder_clone f) fun r6 => sel (decide (0 ≤ s)) (sel (decide (s < (↑r6.Switches.length : Int))) (some (({ Switches := r6.Switches.set s.toNat { Above := (rd f.Switches s.toNat default).Above, Since := time, Shown := 0, Closed := Bool.true, Late := Bool.false : T.Switch }, Zones := r6.Zones, Reply := r6.Reply : T.Feeder }, 0))) (none)) (none)))) (none)) (none))
noncomputable def feeder_Close.ann (k : Nat) : Ann reg (T.Feeder × Int) := .none
theorem feeder_Close.obl (k : Nat) : obl (sigs T40) (orc reg T40 (T.Feeder × Int)) k (bodyOf Go.Proofs.Try.f40) (feeder_Close.ann k) (kont0 reg sg40 Go.Proofs.Try.f40.results.toList) :=
  obl_none
theorem feeder_Close.eq (k : Nat) (f : T.Feeder) (s : Int) (time : Int) : evFn reg (sigs T40) sg40 Go.Proofs.Try.f40 (orc reg T40 (T.Feeder × Int)) k (feeder_Close.ann k) (f, s, time) = feeder_Close.f k f s time := by kernel_rfl
noncomputable def feeder_Close (f : T.Feeder) (s : Int) (time : Int) : Option (T.Feeder × Int) := feeder_Close.f K f s time
noncomputable def e40 : Ab.Spec reg := ⟨sg40, fun (f, s, time) => feeder_Close f s time⟩
theorem ok40 : EntryOk Go.Proofs.Try.prog 40 e40 :=
  entry_ok (T := T40) (fnsOk_cons ok54 (fnsOk_cons ok55 (fnsOk_nil regOk))) mixed (fn := Go.Proofs.Try.f40) (by kernel_rfl) (by decide) (by kernel_rfl) (feeder_Close.obl K) (fun (f, s, time) => feeder_Close.eq K f s time)
def sg13 : Ab.Sig := ⟨[(false, 41), (false, 23), (false, 24), (false, 3), (false, 3)], [(52, [false])], [], false, false, []⟩
noncomputable def T13 : List (Nat × Ab.Spec reg) := [(34, e34), (35, e35)]
/-! ### restore_Ready: function 13 -/
noncomputable def restore_Ready.f (k : Nat) (s : T.Site) (c : List T.Cut) (flows : List T.Span) (zone : Int) (time : Int) : Option (Int) := obind (restore_check s c flows time) fun r0 => sel (r0 != 0) (some (r0)) (obind (restore_ready s c flows zone time) fun r2 => some (r2))
noncomputable def restore_Ready.ann (k : Nat) : Ann reg (Int) := .none
theorem restore_Ready.obl (k : Nat) : obl (sigs T13) (orc reg T13 (Int)) k (bodyOf Go.Proofs.Try.f13) (restore_Ready.ann k) (kont0 reg sg13 Go.Proofs.Try.f13.results.toList) :=
  obl_none
theorem restore_Ready.eq (k : Nat) (s : T.Site) (c : List T.Cut) (flows : List T.Span) (zone : Int) (time : Int) : evFn reg (sigs T13) sg13 Go.Proofs.Try.f13 (orc reg T13 (Int)) k (restore_Ready.ann k) (s, c, flows, zone, time) = restore_Ready.f k s c flows zone time := by kernel_rfl
noncomputable def restore_Ready (s : T.Site) (c : List T.Cut) (flows : List T.Span) (zone : Int) (time : Int) : Option (Int) := restore_Ready.f K s c flows zone time
noncomputable def e13 : Ab.Spec reg := ⟨sg13, fun (s, c, flows, zone, time) => restore_Ready s c flows zone time⟩
theorem ok13 : EntryOk Go.Proofs.Try.prog 13 e13 :=
  entry_ok (T := T13) (fnsOk_cons ok34 (fnsOk_cons ok35 (fnsOk_nil regOk))) mixed (fn := Go.Proofs.Try.f13) (by kernel_rfl) (by decide) (by kernel_rfl) (restore_Ready.obl K) (fun (s, c, flows, zone, time) => restore_Ready.eq K s c flows zone time)
end Go.Proofs.Ytlhknehkcflkgaa
