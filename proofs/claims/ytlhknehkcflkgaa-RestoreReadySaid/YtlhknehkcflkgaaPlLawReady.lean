/- The plain law of RestoreReady. -/
import Derived.Test.YtlhknehkcflkgaaPlScene
import Derived.Test.YtlhknehkcflkgaaPlLate
set_option autoImplicit false
set_option linter.unusedVariables false
set_option linter.unusedSimpArgs false
set_option maxRecDepth 100000
namespace Go.Proofs.Ytlhknehkcflkgaa
open Go Ab
theorem mod_o (k n : Int) : ∃ v, draw_Mod k n = some v := by
  unfold draw_Mod draw_Mod.f draw_Mod.j0
  by_cases h : n < 1
  · exact ⟨_, sel_dt h⟩
  · rw [sel_df h, sel_net (by omega)]
    cases hq : decide (Int.tmod k n < 0)
    · exact ⟨_, rfl⟩
    · exact ⟨_, rfl⟩
theorem FlowB.of {f : T.Span} (h : SpanDrawn f) : FlowB f := ⟨by have := h.l0; omega, by have := h.h1; omega⟩
theorem beq_int (a : Int) : (a == a) = true := by simp
theorem ready_tail {codes : List Int} (hc : ∀ z ∈ codes, 0 ≤ z ∧ z ≤ 255) (raw : List T.Cut) {flows : List T.Span} (hf : ∀ i, i < flows.length → FlowB (rd flows i default)) (zone time : Int) : law21_RestoreReady.j1 K (codes, raw, flows, zone, time) = some true := by
  obtain ⟨⟨l, a⟩, e, h⟩ := new_ok hc
  obtain ⟨⟨x, c⟩, e2, hx, _⟩ := scene_o (l := l) (a := a) h
  have hx : SceneOk x := hx
  obtain ⟨z2, e3⟩ := mod_o zone (w64 ((x.cuts.length : Int) + 1))
  obtain ⟨t2, e4⟩ := mod_o time 120
  have hfx : ∀ i, i < x.flows.length → FlowB (rd x.flows i default) := fun i hi => .of (hx.f i hi)
  unfold law21_RestoreReady.j1
  dsimp only
  rw [e, obind_some, e2, obind_some, e3, obind_some, e4, obind_some]
  rw [Ready_eq hx.site hfx, obind_some, rReady_eq hx.site hfx, obind_some, Ready_eq hx.site hfx, obind_some, rReady_eq hx.site hfx, obind_some, Ready_eq hx.site hf, obind_some, rReady_eq hx.site hf, obind_some]
  rw [beq_int, beq_int, beq_int, sel_t, sel_t, sel_t, awake_true]
  rfl
theorem ready_loop0 {codes : List Int} (hc : ∀ z ∈ codes, 0 ≤ z ∧ z ≤ 255) (raw : List T.Cut) {flows : List T.Span} (h40 : flows.length ≤ 40) (zone time : Int) : ∀ (d i it : Nat), i + d = flows.length → d < it → (∀ j, j < i → FlowB (rd flows j default)) →
    law21_RestoreReady.j0 K it ((i : Int), (flows.length : Int), codes, raw, flows, zone, time) = some true
  | 0, i, it + 1, hi, hit, hf => by
    rw [law21_RestoreReady.j0, sel_df (by omega)]
    exact ready_tail hc raw (fun j hj => hf j (by omega)) zone time
  | d + 1, i, it + 1, hi, hit, hf => by
    have aw : (obind (law21_awake ()) fun r => some r) = some true := by rw [awake_true]; rfl
    rw [law21_RestoreReady.j0, Int.toNat_natCast]
    by_cases h1 : (rd flows i default).Low < -1125899906842624
    · simp (disch := omega) only [sel_dt, aw]
    · by_cases h2 : (rd flows i default).High > 1125899906842624
      · simp (disch := omega) only [sel_dt, sel_df, aw]
      · by_cases h3 : (rd flows i default).Low > (rd flows i default).High
        · simp (disch := omega) only [sel_dt, sel_df, aw]
        · have ih := ready_loop0 hc raw h40 zone time d (i + 1) it (by omega) (by omega) (fun j hj => by
            by_cases hji : j < i
            · exact hf j hji
            · have : j = i := by omega
              subst this
              exact ⟨by omega, by omega⟩)
          push_cast at ih
          simp (disch := omega) only [sel_dt, sel_df, aw, w64_small]
          exact ih
theorem ready_true (codes : List Int) (raw : List T.Cut) (flows : List T.Span) (zone time : Int) (hc : ∀ z ∈ codes, 0 ≤ z ∧ z ≤ 255) : law21_RestoreReady codes raw flows zone time = some true := by
  have hK := K_1000
  have aw : (obind (law21_awake ()) fun r => some r) = some true := by rw [awake_true]; rfl
  unfold law21_RestoreReady law21_RestoreReady.f
  by_cases h1 : (raw.length : Int) > 20
  · rw [sel_dt h1, aw]
  · rw [sel_df h1]
    by_cases h2 : (flows.length : Int) > 40
    · rw [sel_dt h2, aw]
    · rw [sel_df h2]
      exact ready_loop0 hc raw (by omega) zone time flows.length 0 K (by omega) (by omega) (fun j hj => by omega)
end Go.Proofs.Ytlhknehkcflkgaa
