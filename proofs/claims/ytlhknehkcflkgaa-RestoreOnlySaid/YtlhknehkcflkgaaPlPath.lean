/- Small networks: their paths, by the program and by the reference. -/
import Derived.Test.YtlhknehkcflkgaaPlExact
set_option autoImplicit false
set_option linter.unusedVariables false
set_option maxRecDepth 100000
namespace Go.Proofs.Ytlhknehkcflkgaa
open Go Ab
/-- a switch at its place -/
structure SwGood (i : Nat) (x : T.Switch) : Prop where
  a1 : -1 ≤ x.Above
  a2 : x.Above < (i : Int)
  since : 0 ≤ x.Since ∧ x.Since ≤ 1000
  s1 : -1 ≤ x.Shown
  s2 : x.Shown ≤ 1
  late : x.Late = false
def SwsOk (sw : List T.Switch) : Prop := ∀ i, i < sw.length → SwGood i (rd sw i default)
theorem fcheck_loop {sw : List T.Switch} {zs : List Int} {rp : Int} (h : SwsOk sw) (hl : sw.length ≤ 1000) : ∀ (d i it : Nat), i + d = sw.length → d < it → feeder_Check.j0 K it ((i : Int), (sw.length : Int), sw, (), rp, zs, sw) = feeder_Check.j3 K ((), rp, zs, sw)
  | 0, i, it + 1, hi, _ => by
    unfold feeder_Check.j0
    rw [sel_neg (decide_eq_false (by omega))]
  | d + 1, i, it + 1, hi, hit => by
    have g := h i (by omega)
    obtain ⟨a1, a2, si, s1, s2, la⟩ := g
    unfold feeder_Check.j0
    rw [sel_pos (decide_eq_true (by omega)), sel_pos (decide_eq_true (by omega)), sel_pos (decide_eq_true (by omega)), Int.toNat_natCast]
    rw [sel_neg (decide_eq_false (by omega)), sel_neg (decide_eq_false (by omega)), sel_neg (decide_eq_false (by omega)), sel_neg (decide_eq_false (by omega)), sel_neg (decide_eq_false (by omega)), sel_neg (decide_eq_false (by omega)), sel_neg la, w64_small (by omega) (by omega)]
    have := fcheck_loop (zs := zs) (rp := rp) h hl d (i + 1) it (by omega) (by omega)
    rwa [Int.natCast_add] at this
theorem rcheck_loop {sw : List T.Switch} {zs : List Int} {rp : Int} (h : SwsOk sw) (hl : sw.length ≤ 1000) : ∀ (d i it : Nat), i + d = sw.length → d < it → ref18_Check.j0 K it ((i : Int), (), rp, zs, sw) = ref18_Check.j5 K ((), rp, zs, sw)
  | 0, i, it + 1, hi, _ => by
    unfold ref18_Check.j0
    rw [sel_neg (decide_eq_false (by omega))]
  | d + 1, i, it + 1, hi, hit => by
    have g := h i (by omega)
    obtain ⟨a1, a2, si, s1, s2, la⟩ := g
    unfold ref18_Check.j0
    rw [sel_pos (decide_eq_true (by omega)), sel_pos (decide_eq_true (by omega)), sel_pos (decide_eq_true (by omega)), Int.toNat_natCast]
    rw [sel_neg (decide_eq_false (by omega)), sel_neg (decide_eq_false (by omega)), sel_neg (decide_eq_false (by omega)), sel_neg (decide_eq_false (by omega)), sel_neg (decide_eq_false (by omega)), sel_neg (decide_eq_false (by omega)), sel_neg la, w64_small (by omega) (by omega)]
    have := rcheck_loop (zs := zs) (rp := rp) h hl d (i + 1) it (by omega) (by omega)
    rwa [Int.natCast_add] at this
/-- the network of a scene with three zones -/
def feedO (sw : List T.Switch) : T.Feeder := { Switches := sw, Zones := [(sw.length : Int) - 1, (sw.length : Int) - 2, (sw.length : Int) - 3], Reply := 3 }
theorem K_big : 1000 < K := by unfold K; omega
theorem fz3 (a b c : T.Switch) : feeder_Check.j3 K ((), 3, (feedO [a, b, c]).Zones, [a, b, c]) = some 0 := by kernel_rfl
theorem fz4 (a b c d : T.Switch) : feeder_Check.j3 K ((), 3, (feedO [a, b, c, d]).Zones, [a, b, c, d]) = some 0 := by kernel_rfl
theorem fz5 (a b c d e : T.Switch) : feeder_Check.j3 K ((), 3, (feedO [a, b, c, d, e]).Zones, [a, b, c, d, e]) = some 0 := by kernel_rfl
theorem fz6 (a b c d e f : T.Switch) : feeder_Check.j3 K ((), 3, (feedO [a, b, c, d, e, f]).Zones, [a, b, c, d, e, f]) = some 0 := by kernel_rfl
theorem rz3 (a b c : T.Switch) : ref18_Check.j5 K ((), 3, (feedO [a, b, c]).Zones, [a, b, c]) = some 0 := by kernel_rfl
theorem rz4 (a b c d : T.Switch) : ref18_Check.j5 K ((), 3, (feedO [a, b, c, d]).Zones, [a, b, c, d]) = some 0 := by kernel_rfl
theorem rz5 (a b c d e : T.Switch) : ref18_Check.j5 K ((), 3, (feedO [a, b, c, d, e]).Zones, [a, b, c, d, e]) = some 0 := by kernel_rfl
theorem rz6 (a b c d e f : T.Switch) : ref18_Check.j5 K ((), 3, (feedO [a, b, c, d, e, f]).Zones, [a, b, c, d, e, f]) = some 0 := by kernel_rfl
theorem sw_shapes {sw : List T.Switch} (h3 : 3 ≤ sw.length) (h6 : sw.length ≤ 6) : (∃ a b c, sw = [a, b, c]) ∨ (∃ a b c d, sw = [a, b, c, d]) ∨ (∃ a b c d e, sw = [a, b, c, d, e]) ∨ ∃ a b c d e f, sw = [a, b, c, d, e, f] := by
  match sw, h3, h6 with
  | [a, b, c], _, _ => exact .inl ⟨a, b, c, rfl⟩
  | [a, b, c, d], _, _ => exact .inr (.inl ⟨a, b, c, d, rfl⟩)
  | [a, b, c, d, e5], _, _ => exact .inr (.inr (.inl ⟨a, b, c, d, e5, rfl⟩))
  | [a, b, c, d, e5, f], _, _ => exact .inr (.inr (.inr ⟨a, b, c, d, e5, f, rfl⟩))
  | _ :: _ :: _ :: _ :: _ :: _ :: _ :: _, _, h => simp at h
theorem fcheck_O {sw : List T.Switch} (h : SwsOk sw) (h3 : 3 ≤ sw.length) (h6 : sw.length ≤ 6) : feeder_Check (feedO sw) = some 0 := by
  have hK := K_big
  have e : feeder_Check (feedO sw) = feeder_Check.j3 K ((), 3, (feedO sw).Zones, sw) := by
    unfold feeder_Check feeder_Check.f
    rw [sel_neg (decide_eq_false (by show ¬ (sw.length : Int) > 32; omega)), sel_neg (decide_eq_false (by show ¬ (3 : Int) > 16; omega))]
    exact fcheck_loop h (by omega) sw.length 0 K (by omega) (by omega)
  rw [e]
  rcases sw_shapes h3 h6 with ⟨a, b, c, rfl⟩ | ⟨a, b, c, d, rfl⟩ | ⟨a, b, c, d, e5, rfl⟩ | ⟨a, b, c, d, e5, f, rfl⟩
  · exact fz3 a b c
  · exact fz4 a b c d
  · exact fz5 a b c d e5
  · exact fz6 a b c d e5 f
theorem rcheck_O {sw : List T.Switch} (h : SwsOk sw) (h3 : 3 ≤ sw.length) (h6 : sw.length ≤ 6) : ref18_Check (feedO sw) = some 0 := by
  have hK := K_big
  have e : ref18_Check (feedO sw) = ref18_Check.j5 K ((), 3, (feedO sw).Zones, sw) := by
    unfold ref18_Check ref18_Check.f
    rw [sel_neg (decide_eq_false (by show ¬ (sw.length : Int) > 32; omega)), sel_neg (decide_eq_false (by show ¬ (3 : Int) > 16; omega))]
    exact rcheck_loop h (by omega) sw.length 0 K (by omega) (by omega)
  rw [e]
  rcases sw_shapes h3 h6 with ⟨a, b, c, rfl⟩ | ⟨a, b, c, d, rfl⟩ | ⟨a, b, c, d, e5, rfl⟩ | ⟨a, b, c, d, e5, f, rfl⟩
  · exact rz3 a b c
  · exact rz4 a b c d
  · exact rz5 a b c d e5
  · exact rz6 a b c d e5 f
/-- a switch and those above it -/
def upL (sw : List T.Switch) : Nat → Int → List Int
  | 0, _ => []
  | k + 1, s => if s < 0 then [] else s :: upL sw k (rd sw s.toNat default).Above
theorem pathUp_L {sw : List T.Switch} (h : SwsOk sw) : ∀ (k m : Nat) (s : Int) (acc : List Int), s < (k : Int) → s < (sw.length : Int) → k < m → pathUp sw m s acc = some (acc ++ upL sw k s)
  | 0, m + 1, s, acc, hs, hl, hm => by
    unfold pathUp upL
    rw [sel_neg (decide_eq_false (by omega)), List.append_nil]
  | k + 1, m + 1, s, acc, hs, hl, hm => by
    unfold pathUp upL
    by_cases h0 : s < 0
    · rw [sel_neg (decide_eq_false (by omega)), if_pos h0, List.append_nil]
    · have g := h s.toNat (by omega)
      have a2 := g.a2
      rw [sel_pos (decide_eq_true (by omega)), sel_pos (decide_eq_true (by omega)), if_neg h0, pathUp_L h k m _ _ (by omega) (by omega) (by omega)]
      simp
theorem refUp_L {sw : List T.Switch} (h : SwsOk sw) (hl6 : sw.length ≤ 1000) : ∀ (k m : Nat) (s : Int) (acc : List Int), s < (k : Int) → s < (sw.length : Int) → k < m → acc.length + k ≤ 10000 → ref18_Path.j0 K m (acc, (), sw, s) = some (acc ++ upL sw k s)
  | 0, m + 1, s, acc, hs, hl, hm, ha => by
    unfold ref18_Path.j0 upL
    rw [sel_neg (decide_eq_false (by omega)), List.append_nil]
    rfl
  | k + 1, m + 1, s, acc, hs, hl, hm, ha => by
    unfold ref18_Path.j0 upL
    by_cases h0 : s < 0
    · rw [sel_neg (decide_eq_false (by omega)), if_pos h0, List.append_nil]; rfl
    · have g := h s.toNat (by omega)
      have a2 := g.a2
      rw [sel_pos (decide_eq_true (by omega)), sel_pos (decide_eq_true (by simp only [List.length_cons, List.length_nil]; omega)), sel_pos (decide_eq_true (by omega)), sel_pos (decide_eq_true (by omega)), if_neg h0, refUp_L h hl6 k m _ _ (by omega) (by omega) (by omega) (by simp; omega)]
      simp
theorem upL_range {sw : List T.Switch} (h : SwsOk sw) : ∀ (k : Nat) (s : Int), s < (sw.length : Int) → ∀ x ∈ upL sw k s, 0 ≤ x ∧ x < (sw.length : Int)
  | 0, s, hs, x, hx => by simp [upL] at hx
  | k + 1, s, hs, x, hx => by
    unfold upL at hx
    by_cases h0 : s < 0
    · rw [if_pos h0] at hx; cases hx
    · rw [if_neg h0] at hx
      have g := h s.toNat (by omega)
      have a2 := g.a2
      rcases List.mem_cons.1 hx with rfl | hx
      · exact ⟨by omega, hs⟩
      · exact upL_range h k _ (by omega) x hx
theorem upL_len {sw : List T.Switch} : ∀ (k : Nat) (s : Int), (upL sw k s).length ≤ k
  | 0, s => by simp [upL]
  | k + 1, s => by
    unfold upL
    split
    · simp
    · have := upL_len (sw := sw) k (rd sw s.toNat default).Above
      simp; omega
/-- the path of a switch -/
def pathO (sw : List T.Switch) (s : Int) : List Int := upL sw 6 s
theorem path_O {sw : List T.Switch} (h : SwsOk sw) (h3 : 3 ≤ sw.length) (h6 : sw.length ≤ 6) {s : Int} (hs0 : 0 ≤ s) (hs : s < (sw.length : Int)) : feeder_Path (feedO sw) s = some (pathO sw s) := by
  unfold feeder_Path
  rw [fcheck_O h h3 h6, obind_some]
  have e1 : decide (s < 0) = false := decide_eq_false (by omega)
  have e2 : decide (s ≥ ((feedO sw).Switches.length : Int)) = false := decide_eq_false (by show ¬ s ≥ (sw.length : Int); omega)
  rw [e1, e2, sel_neg (show ((0 : Int) != 0) = false from rfl), sel_f, sel_f, show (feedO sw).Switches = sw from rfl]
  have := pathUp_L h 6 100 s [] (by omega) hs (by omega)
  rw [this, List.nil_append]
  rfl
theorem rpath_O {sw : List T.Switch} (h : SwsOk sw) (h3 : 3 ≤ sw.length) (h6 : sw.length ≤ 6) {s : Int} (hs0 : 0 ≤ s) (hs : s < (sw.length : Int)) : ref18_Path (feedO sw) s = some (pathO sw s) := by
  have hK := K_big
  unfold ref18_Path ref18_Path.f
  rw [rcheck_O h h3 h6, obind_some]
  have e1 : decide (s < 0) = false := decide_eq_false (by omega)
  have e2 : decide (s ≥ ((feedO sw).Switches.length : Int)) = false := decide_eq_false (by show ¬ s ≥ (sw.length : Int); omega)
  rw [e1, e2, sel_neg (show ((0 : Int) != 0) = false from rfl), sel_f, sel_f, show (feedO sw).Switches = sw from rfl]
  have := refUp_L h (by omega) 6 K s [] (by omega) hs (by omega) (by simp)
  rw [this, List.nil_append]
  rfl
theorem path_cons {sw : List T.Switch} {s : Int} (hs0 : 0 ≤ s) : pathO sw s = s :: upL sw 5 (rd sw s.toNat default).Above := by
  show (if s < 0 then [] else s :: upL sw 5 (rd sw s.toNat default).Above) = _
  rw [if_neg (by omega)]
end Go.Proofs.Ytlhknehkcflkgaa
