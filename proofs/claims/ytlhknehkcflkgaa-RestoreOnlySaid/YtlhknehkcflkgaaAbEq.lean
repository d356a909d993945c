/- Equality of structs of numbers, bools and strings. -/
import Derived.Test.YtlhknehkcflkgaaAbOps2
import Derived.Laws.StructEq
set_option autoImplicit false
namespace Go.Proofs.Ytlhknehkcflkgaa.Ab
open Go
variable {P : Program}
def kindB (P : Program) (t : TypeId) : Z → Bool
  | .int k => match P.underlying t with | some (.int j) => decide (j = k) | _ => false
  | .bool => match P.underlying t with | some .bool => true | _ => false
  | .str => match P.underlying t with | some .string => true | _ => false
  | .nil => false
def flatB (P : Program) : Nat → List Field → List Z → Bool
  | _, [], [] => true
  | n, f :: fs, k :: ks => f.name != "_" && Nat.beq f.offset n && kindB P f.type k && flatB P (n + 1) fs ks
  | _, _, _ => false
theorem run_part_kind {t : TypeId} {k : Z} (hk : kindB P t k = true) {xs : Array Value} {n : Nat} {v : Value} (hv : xs[n]? = some v) (w : World) : (part t xs n).run P w = .ok v w := by
  have : ∃ u, P.underlying t = some u ∧ (∀ fs, u ≠ .struct fs) ∧ (∀ n e, u ≠ .array n e) := by
    cases k <;> simp only [kindB] at hk <;> (try (split at hk)) <;> simp_all
  obtain ⟨u, hu, h1, h2⟩ := this
  have ha : (isAgg t).run P w = .ok false w := by
    simp only [isAgg, Sem.run_bind, run_underlying hu, Result.andThen_ok]
    cases u <;> simp_all
  simp [part, Sem.run_bind, ha, hv]
theorem eqFields_flat (d : Nat) {ks : List Z} : ∀ {fs : List Field} {n : Nat} {xs ys : List Value} (w : World), flatB P n fs ks = true → KVs ks (xs.drop n) → KVs ks (ys.drop n) → (Op.eqFields (d + 1) xs.toArray ys.toArray fs).run P w = .ok (eqVs (xs.drop n) (ys.drop n)) w := by
  induction ks with
  | nil =>
    intro fs n xs ys w hf hx hy
    cases fs with
    | cons f fs => simp [flatB] at hf
    | nil =>
      cases h1 : xs.drop n with
      | cons a b => rw [h1] at hx; simp [KVs] at hx
      | nil => cases h2 : ys.drop n with
        | cons a b => rw [h2] at hy; simp [KVs] at hy
        | nil => simp [Op.eqFields, eqVs]
  | cons k ks ih =>
    intro fs n xs ys w hf hx hy
    cases fs with
    | nil => simp [flatB] at hf
    | cons f fs =>
      simp only [flatB, Bool.and_eq_true, bne_iff_ne, ne_eq] at hf
      obtain ⟨⟨⟨hn, ho⟩, hk⟩, hr⟩ := hf
      have ho := Nat.eq_of_beq_eq_true ho
      cases h1 : xs.drop n with
      | nil => rw [h1] at hx; cases k <;> simp [KVs] at hx
      | cons a xs' => cases h2 : ys.drop n with
        | nil => rw [h2] at hy; cases k <;> simp [KVs] at hy
        | cons b ys' =>
          have e1 : xs[n]? = some a := by have := congrArg (·[0]?) h1; simpa using this
          have e2 : ys[n]? = some b := by have := congrArg (·[0]?) h2; simpa using this
          have d1 : xs.drop (n + 1) = xs' := by rw [← List.tail_drop, h1]; rfl
          have d2 : ys.drop (n + 1) = ys' := by rw [← List.tail_drop, h2]; rfl
          rw [h1] at hx; rw [h2] at hy
          have hxt : KVs ks xs' := by cases k <;> cases a <;> simp_all [KVs]
          have hyt : KVs ks ys' := by cases k <;> cases b <;> simp_all [KVs]
          have p1 := run_part_kind hk (xs := xs.toArray) (n := f.offset) (v := a) (by rw [ho]; simpa using e1) w
          have p2 := run_part_kind hk (xs := ys.toArray) (n := f.offset) (v := b) (by rw [ho]; simpa using e2) w
          have hq : (Op.equalIn (d + 1) f.type a b).run P w = .ok (eqV a b) w := by
            cases k <;> cases a <;> simp only [KVs] at hx <;> cases b <;> simp only [KVs] at hy <;> simp only [kindB] at hk <;> split at hk <;> first | (exfalso; simp at hk; done) | skip
            · rename_i hu; rw [← hx.1, ← hy.1]; exact run_equalIn_int w d f.type _ _ _ _ hu
            · rename_i hu; exact run_equalIn_bool' w d f.type _ _ hu
            · rename_i hu; exact (run_equalIn_string w d f.type _ _ hu).trans (by simp [eqV, beq_toListBytes])
          have := ih (xs := xs) (ys := ys) w hr (by rw [d1]; exact hxt) (by rw [d2]; exact hyt)
          rw [d1, d2] at this
          simp only [Op.eqFields, hn, not_false_eq_true, ne_eq, if_true, Sem.run_bind, p1, p2, hq, Result.andThen_ok, eqVs]
          cases eqV a b
          · simp
          · simp [this]
theorem eq_flat {t : TypeId} {ks : List Z} {fs : Array Field} (hu : P.underlying t = some (.struct fs)) (hs : P.stoodInHeld t = false) (hf : flatB P 0 fs.toList ks = true) (xs ys : List Value) (w : World) (hx : KVs ks xs) (hy : KVs ks ys) :
    (Op.equal t (.agg xs.toArray) (.agg ys.toArray)).run P w = .ok (eqVs xs ys) w := by
  have hfo : P.fieldsOf t = fs := by simp [Program.fieldsOf, hu]
  have h := run_equalIn_struct w 9999 t xs.toArray ys.toArray (by rw [hfo]; exact hu) hs
  rw [hfo] at h
  refine Eq.trans (?_ : _ = _) (Eq.trans h (eqFields_flat 9998 (n := 0) w hf hx hy))
  rfl
end Go.Proofs.Ytlhknehkcflkgaa.Ab
