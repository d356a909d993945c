/- Plain laws that all proofs use: small numbers, choices. -/
import Derived.Test.YtlhknehkcflkgaaAbN3
set_option autoImplicit false
set_option maxRecDepth 100000
namespace Go.Proofs.Ytlhknehkcflkgaa
open Go Ab
theorem w64_eq (n : Int) : w64 n = if (n % 18446744073709551616) ≥ 9223372036854775808 then n % 18446744073709551616 - 18446744073709551616 else n % 18446744073709551616 := by
  simp [w64, IntKind.wrap, IntKind.bits, IntKind.signed]
theorem w64_small {n : Int} (h0 : -9223372036854775808 ≤ n) (h1 : n < 9223372036854775808) : w64 n = n := by
  rw [w64_eq]; split <;> omega
theorem w64_lo (n : Int) : -9223372036854775808 ≤ w64 n := by rw [w64_eq]; split <;> omega
theorem w64_hi (n : Int) : w64 n < 9223372036854775808 := by rw [w64_eq]; split <;> omega
theorem sel_t {β : Type} {a b : β} : sel true a b = a := rfl
theorem sel_f {β : Type} {a b : β} : sel false a b = b := rfl
theorem sel_pos {β : Type} {c : Bool} {a b : β} (h : c = true) : sel c a b = a := by rw [h]; rfl
theorem sel_neg {β : Type} {c : Bool} {a b : β} (h : c = false) : sel c a b = b := by rw [h]; rfl
theorem obind_some {β γ : Type} {x : β} {k : β → Option γ} : obind (some x) k = k x := rfl
theorem rd_mem {β : Type} {xs : List β} {i : Nat} {d : β} (h : i < xs.length) : rd xs i d ∈ xs := by
  simp [rd, List.getD, h]
/-- choices, as they are handed on -/
structure CodesOk (c : T.draw_Codes) : Prop where
  l : ∀ z ∈ c.l, 0 ≤ z ∧ z ≤ 255
  len : c.l.length ≤ 300
  lo : 0 ≤ c.at_
  hi : c.at_ ≤ (c.l.length : Int)
theorem new_ok {l : List Int} (h : ∀ z ∈ l, 0 ≤ z ∧ z ≤ 255) : ∃ c, draw_New l = some c ∧ CodesOk c := by
  have h2 : mn (l.length : Int) 300 ≤ (l.length : Int) ∧ 0 ≤ mn (l.length : Int) 300 ∧ mn (l.length : Int) 300 ≤ 300 := by
    unfold mn; split <;> omega
  refine ⟨_, by unfold draw_New draw_New.f; rw [sel_pos (decide_eq_true h2.2.1), sel_pos (decide_eq_true h2.1)], ?_, ?_, Int.le_refl _, ?_⟩
  · intro z hz
    exact h z (List.mem_of_mem_take (List.mem_of_mem_drop hz))
  · simp; omega
  · simp
theorem next_ok {c : T.draw_Codes} (h : CodesOk c) {n : Int} (hn : 1 ≤ n) : ∃ v a, Codes_Next c n = some (v, ⟨[], a⟩) ∧ 0 ≤ v ∧ v < n ∧ 0 ≤ a ∧ a ≤ (c.l.length : Int) := by
  have hlen := h.len; have hlo := h.lo; have hhi := h.hi
  unfold Codes_Next Codes_Next.f
  rw [sel_neg (by simp; omega)]
  by_cases h1 : c.at_ ≥ (c.l.length : Int)
  · rw [sel_pos (by simpa using h1)]
    exact ⟨0, c.at_, rfl, by omega, by omega, hlo, hhi⟩
  · rw [sel_neg (by simpa using h1)]
    have e1 : w64 (c.at_ + 1) = c.at_ + 1 := w64_small (by omega) (by omega)
    have e2 : w64 (c.at_ + 1 - 1) = c.at_ := by rw [w64_small (by omega) (by omega)]; omega
    rw [e1, e2]
    rw [sel_pos (by simpa using hlo), sel_pos (by simp; omega)]
    have hb := h.l _ (rd_mem (xs := c.l) (i := c.at_.toNat) (d := default) (by omega))
    have fin : ∀ a v : Int, 0 ≤ v → 0 ≤ a → a ≤ (c.l.length : Int) → ∃ v' a', Codes_Next.j0 K (a, v, (), n) = some (v', ⟨[], a'⟩) ∧ 0 ≤ v' ∧ v' < n ∧ 0 ≤ a' ∧ a' ≤ (c.l.length : Int) := fun a v hv ha1 ha2 => by
      unfold Codes_Next.j0
      simp only
      rw [sel_pos (by simp; omega)]
      exact ⟨_, _, rfl, Int.tmod_nonneg _ hv, Int.tmod_lt_of_pos _ (by omega), ha1, ha2⟩
    have hw : w64 (rd c.l c.at_.toNat default) = rd c.l c.at_.toNat default := w64_small (by omega) (by omega)
    rw [hw]
    by_cases h2 : n > 256
    · rw [sel_pos (by simpa using h2)]
      by_cases h3 : c.at_ + 1 < (c.l.length : Int)
      · rw [sel_pos (by simpa using h3), sel_pos (by simp; omega), sel_pos (by simpa using h3)]
        have hb2 := h.l _ (rd_mem (xs := c.l) (i := (c.at_ + 1).toNat) (d := default) (by omega))
        rw [w64_small (n := rd c.l (c.at_ + 1).toNat default) (by omega) (by omega), w64_small (n := rd c.l c.at_.toNat default * 256) (by omega) (by omega), w64_small (n := c.at_ + 1 + 1) (by omega) (by omega)]
        exact fin _ _ (by rw [w64_small (by omega) (by omega)]; omega) (by omega) (by omega)
      · rw [sel_neg (by simpa using h3)]
        exact fin _ _ hb.1 (by omega) (by omega)
    · rw [sel_neg (by simpa using h2)]
      exact fin _ _ hb.1 (by omega) (by omega)
theorem CodesOk.upd {c : T.draw_Codes} (h : CodesOk c) {a : Int} (h1 : 0 ≤ a) (h2 : a ≤ (c.l.length : Int)) : CodesOk ⟨c.l, a⟩ := ⟨h.l, h.len, h1, h2⟩
theorem range_ok {c : T.draw_Codes} (h : CodesOk c) {lo hi : Int} (h1 : lo ≤ hi) (h2 : -1000000 ≤ lo) (h3 : hi ≤ 1000000) : ∃ v a, Codes_Range c lo hi = some (v, ⟨[], a⟩) ∧ lo ≤ v ∧ v ≤ hi ∧ 0 ≤ a ∧ a ≤ (c.l.length : Int) := by
  unfold Codes_Range Codes_Range.f
  rw [w64_small (n := hi - lo) (by omega) (by omega), w64_small (n := hi - lo + 1) (by omega) (by omega)]
  obtain ⟨v, a, e, a1, a2, a3, a4⟩ := next_ok h (n := hi - lo + 1) (by omega)
  rw [e, obind_some]
  exact ⟨_, _, rfl, by simp only; rw [w64_small (by omega) (by omega)]; omega, by simp only; rw [w64_small (by omega) (by omega)]; omega, a3, a4⟩
end Go.Proofs.Ytlhknehkcflkgaa
