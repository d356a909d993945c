/- A function: its results. -/
import Derived.Test.YtlhknehkcflkgaaAbFn
set_option autoImplicit false
set_option linter.unusedVariables false
set_option linter.unusedSimpArgs false
namespace Go.Proofs.Ytlhknehkcflkgaa.Ab
open Go

section
variable {Γ : Reg} {w0 : World} {Bp : Nat → Nat → Prop} {F0 : Nat → Prop} {nt : Nat} {P : Program} {s : St Γ.α} {a : Act} {w : World} {m : Places} {F F' : Nat → Prop}

theorem closed_rel (hΓ : Γ.Ok P) (hm : Rm Γ w0 Bp F0 nt s a w m F) (hF : ∀ b, F b → F' b) {l c : Lf Γ.α} {i : List Nat} {v : Value} (hc : closed s l = some (c, i)) (h1 : RLf m F w l v)
    (hf : ∀ id ∈ i, (∃ e xs, s.get (.row id) = some (.row e xs)) → ∀ b n cap sz, m id = some (.row (some b) n cap sz) → F' b) : RLf m F' w c v ∧ plain' c := by
  have h := closedL_rel hΓ hm hF (cs := [l]) (cs' := [c]) (fr := i) (vs := [v]) (by simp [closedL, hc]) (RLs.cons h1 .nil) hf
  obtain ⟨v', vs, e1, e2, _⟩ := h.1.inv
  cases e1
  exact ⟨e2, h.2 c (by simp)⟩
def OwnOf (s : St Γ.α) (m : Places) (o : List Nat) (b : Nat) : Prop := ∃ src, src ∈ o ∧ (s.get (.mut src)).isSome = true ∧ ∃ n cap sz, m src = some (.row (some b) n cap sz)
theorem res_leafs (hΓ : Γ.Ok P) (hm : Rm Γ w0 Bp F0 nt s a w m F) (hF : ∀ b, F b → F' b) : ∀ {cs : List (Lf Γ.α)} {fs : List Bool} {cs' ls' : List (Lf Γ.α)} {o f : List Nat} {vals : List Value}, resLf s fs cs = some (cs', o, f) → RLs m F w cs vals → cs'.length = ls'.length →
    (∀ (k : Nat) l l', cs'[k]? = some l → ls'[k]? = some l' → Lf.le l l') → (∀ l ∈ ls', plain l) → (∀ id ∈ f, (∃ e xs, s.get (.row id) = some (.row e xs)) → ∀ b n cap sz, m id = some (.row (some b) n cap sz) → F' b) → o.Nodup →
    ∃ own, Leafs F' w 0 fs ls' vals own ∧ (∀ b ∈ own, OwnOf s m o b) ∧ own.Nodup
  | [], fs, cs', ls', o, f, vals, h, hr, hl, _, _, _, _ => by
    have : cs' = [] ∧ o = [] ∧ f = [] := by cases fs <;> simp [resLf] at h <;> (try (rename_i b _; cases b <;> simp [resLf] at h)) <;> exact h
    obtain ⟨rfl, rfl, rfl⟩ := this
    have hls : ls' = [] := List.eq_nil_of_length_eq_zero hl.symm
    subst hls
    rw [hr.inv_nil]
    exact ⟨[], .nil, by simp, by simp⟩
  | l :: cs, fs, cs', ls', o, f, vals, h, hr, hl, hle, hp, hf, hn => by
    obtain ⟨v, vs, rfl, h1, h2⟩ := hr.inv
    have split2 : ∀ {c : Lf Γ.α} {cs2 : List (Lf Γ.α)}, cs' = c :: cs2 → ∃ l' ls2, ls' = l' :: ls2 ∧ Lf.le c l' ∧ plain l' ∧ cs2.length = ls2.length ∧ (∀ (k : Nat) l l', cs2[k]? = some l → ls2[k]? = some l' → Lf.le l l') ∧ ∀ l ∈ ls2, plain l := by
      intro c cs2 e
      subst e
      cases ls' with
      | nil => simp at hl
      | cons l' ls2 => exact ⟨l', ls2, rfl, hle 0 c l' rfl rfl, hp l' (by simp), by simpa using hl, fun k a b h1 h2 => hle (k + 1) a b (by simpa using h1) (by simpa using h2), fun l hl => hp l (List.mem_cons_of_mem _ hl)⟩
    -- a leaf that is not told as new
    have plainC : ∀ {fs : List Bool}, fs.head? ≠ some true → (match resLf s fs.tail cs, closed s l with | some (cs, o, f), some (c, i) => some (c :: cs, o, i ++ f) | _, _ => none) = some (cs', o, f) → ∃ own, Leafs F' w 0 fs ls' (v :: vs) own ∧ (∀ b ∈ own, OwnOf s m o b) ∧ own.Nodup := by
      intro fs hh h
      split at h
      · rename_i cs2 o2 f2 c i hq hc
        cases h
        obtain ⟨l', ls2, rfl, g1, g2, g3, g4, g5⟩ := split2 rfl
        obtain ⟨own, q1, q2, q3⟩ := res_leafs hΓ hm hF hq h2 g3 g4 g5 (fun id hid => hf id (List.mem_append_right _ hid)) hn
        obtain ⟨c1, c2⟩ := closed_rel hΓ hm hF hc h1 (fun id hid => hf id (List.mem_append_left _ hid))
        exact ⟨own, .plain (fun e => absurd e hh) ((c1.free hΓ c2).le g1) q1, q2, q3⟩
      · cases h
    cases fs with
    | nil => exact plainC (by simp) (by cases l <;> exact h)
    | cons fl fs =>
      cases fl with
      | false => exact plainC (by simp) (by cases l <;> exact h)
      | true =>
        simp only [resLf] at h
        split at h
        · cases h
        · rename_i cs2 o2 f2 hq
          split at h
          · rename_i id
            split at h
            · rename_i e xs hmu hrow
              cases h
              rename_i mv
              rw [List.nodup_cons] at hn
              obtain ⟨l', ls2, rfl, g1, g2, g3, g4, g5⟩ := split2 rfl
              obtain ⟨own, q1, q2, q3⟩ := res_leafs hΓ hm hF hq h2 g3 g4 g5 hf hn.2
              have hl' : l' = .sl e xs := by
                rcases g1 with g1 | ⟨g1, _⟩
                · exact g1.symm
                · cases g1
              subst hl'
              obtain ⟨ob, cap, vals, a1, a2, a3, _⟩ := hm.row id e xs hrow
              cases h1 with
              | own _ o' n' cap' sz' hpl =>
                rw [a1] at hpl
                simp only [Option.some.injEq, Place.row.injEq] at hpl
                obtain ⟨rfl, rfl, rfl, rfl⟩ := hpl
                have hfl : RLs (fun _ => none) F' w (flat Γ e xs) vals := (a3.mono (m' := m) (F' := F') (w' := w) (fun _ _ e => e) hF (fun _ _ => rfl)).free hΓ (fun l hl => by
                  simp only [flat, List.mem_flatMap] at hl
                  obtain ⟨y, _, hy⟩ := hl
                  have := hΓ.plain e y l hy
                  cases l <;> first | trivial | exact this.elim)
                refine ⟨ob.toList ++ own, .own a2 hfl q1, fun b hb => ?_, ?_⟩
                · rcases List.mem_append.1 hb with hb | hb
                  · have : ob = some b := by simpa using hb
                    subst this
                    exact ⟨id, List.mem_cons_self, by rw [hmu]; rfl, _, _, _, a1⟩
                  · obtain ⟨src, r1, r2⟩ := q2 b hb
                    exact ⟨src, List.mem_cons_of_mem _ r1, r2⟩
                · rw [List.nodup_append]
                  refine ⟨by cases ob <;> simp, q3, fun b hb b' hb' e => ?_⟩
                  subst e
                  have : ob = some b := by simpa using hb
                  subst this
                  obtain ⟨src, r1, r2, n2, cap2, sz2, r3⟩ := q2 b hb'
                  have := hm.dist id src b (.inr ⟨_, _, _, a1, by rw [hmu]; rfl⟩) (.inr ⟨_, _, _, r3, r2⟩)
                  subst this
                  exact hn.1 r1
            · cases h
          · cases h
            obtain ⟨l', ls2, rfl, g1, g2, g3, g4, g5⟩ := split2 rfl
            obtain ⟨own, q1, q2, q3⟩ := res_leafs hΓ hm hF hq h2 g3 g4 g5 hf hn
            cases h1
            have hl' : ∃ e, l' = .sl e [] := by
              rcases g1 with g1 | ⟨_, e, g1⟩
              · subst g1; exact g2.elim
              · exact ⟨e, g1⟩
            obtain ⟨e, rfl⟩ := hl'
            exact ⟨own, Leafs.own (o := none) (cap := 0) (xs := []) (vals := []) (World.ownsRow_nil w _ _ _) .nil q1, q2, q3⟩
          · cases h
end
end Go.Proofs.Ytlhknehkcflkgaa.Ab
