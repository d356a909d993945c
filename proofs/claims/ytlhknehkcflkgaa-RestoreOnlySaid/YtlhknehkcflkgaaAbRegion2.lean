/- A region, run: in the text's order, and in any. -/
import Derived.Test.YtlhknehkcflkgaaAbRegion
set_option autoImplicit false
set_option linter.unusedVariables false
set_option linter.unusedSimpArgs false
namespace Go.Proofs.Ytlhknehkcflkgaa.Ab
open Go

section
variable {Γ : Reg} {ρ : Type} {O : Orc Γ ρ} {OR : ORel Γ} {w0 : World} {Bp : Nat → Nat → Prop} {F0 : Nat → Prop} {nt : Nat}
variable {P : Program} {sg : FuncId → Option Sig} {Q : Exit → Act → World → Prop}

theorem tmp_get {a : Act} {t : Tmp} {b : Bool} (h : a.tmps.getD t undef = .bool b) : a.tmps[t]? = some (.bool b) := by
  rw [Array.getD_eq_getD_getElem?] at h
  cases hq : a.tmps[t]? with
  | none => rw [hq] at h; simp [undef] at h
  | some v => rw [hq] at h; simp at h; rw [h]
theorem op_ok (hE : FnsOk Γ P sg OR) {ops : Array Oper} {i : Nat} {o : Oper} (hi : ops[i]? = some o) (hd : ∀ d, o.dst = some d → d < nt) {s : St Γ.α} {a : Act} {w : World} (hr : R Γ w0 Bp F0 nt s a w) {rs : List Key} {ws : List (Key × Option (Val Γ.α))}
    (hs : OStep OR sg ops.toList s o rs ws) {K : Act → World → Prop} (hK : ∀ a' w', R Γ w0 Bp F0 nt (wr s ws) a' w' → K a' w') : wpOp P ops Q i K a w := by
  unfold wpOp
  rw [hi]
  simp only
  have hskip : R Γ w0 Bp F0 nt (wr s (dstKey o.dst)) (a.put o.dst undef) w := by
    obtain ⟨m, F, hm⟩ := hr
    exact ⟨m, F, hm.dst hd⟩
  have hy : ∀ {j : Nat} {t : Tmp}, (ops.toList[j]?).bind (·.dst) = some t → yielded ops a.tmps j = (match a.tmps[t]? with | some (.bool b) => some b | _ => none) := by
    intro j t ht
    have : (ops[j]?).bind (·.dst) = some t := by simpa using ht
    simp only [yielded, this, Option.bind_some]
    rfl
  cases hs with
  | plain hg h =>
    rw [if_pos (by simp [Region.wanted, hg])]
    exact .inl (sim_op hE hr hd ⟨_, h⟩ hK)
  | yes hg ht hv h =>
    rename_i rs' j want t
    obtain ⟨m, F, hm⟩ := hr
    have hr' := hm.tmp t _ hv
    have hval : a.tmps.getD t undef = .bool want := by
      have h1 : RLf m F w (.bool want : Lf Γ.α) (a.tmps.getD t undef) := hr'
      generalize a.tmps.getD t undef = u at h1
      cases h1; rfl
    rw [if_pos (by simp [Region.wanted, hg, hy ht, tmp_get hval])]
    exact .inl (sim_op hE ⟨m, F, hm⟩ hd ⟨_, h⟩ hK)
  | no hg ht hv hb =>
    rename_i j want t b
    obtain ⟨m, F, hm⟩ := hr
    have hr' := hm.tmp t _ hv
    have hval : a.tmps.getD t undef = .bool b := by
      have h1 : RLf m F w (.bool b : Lf Γ.α) (a.tmps.getD t undef) := hr'
      generalize a.tmps.getD t undef = u at h1
      cases h1; rfl
    rw [if_neg (by simp [Region.wanted, hg, hy ht, tmp_get hval, hb])]
    exact hK _ _ hskip
  | und hg ht hv =>
    rename_i j want t
    obtain ⟨m, F, hm⟩ := hr
    have hval : a.tmps.getD t undef = undef := hm.tmp t _ hv
    rw [if_neg ?_]
    · exact hK _ _ hskip
    · simp only [Region.wanted, hg, hy ht]
      have : ∀ b, a.tmps[t]? ≠ some (.bool b) := by
        intro b hb
        rw [Array.getD_eq_getD_getElem?, hb] at hval
        simp [undef] at hval
      split
      · rename_i b hb; exact absurd hb (this b)
      · simp
/-- in the text's order -/
theorem text_ok (hE : FnsOk Γ P sg OR) {ops : Array Oper} (hd : ∀ o ∈ ops.toList, ∀ d, o.dst = some d → d < nt) {K : Act → World → Prop} :
    ∀ {rest : List Oper} {s : St Γ.α} {fs : List (Foot Γ)} (i : Nat) {a : Act} {w : World}, Chain OR sg ops.toList s rest fs → ops.toList.drop i = rest → R Γ w0 Bp F0 nt s a w → (∀ a' w', R Γ w0 Bp F0 nt (endSt s fs) a' w' → Q .normal a' w') →
      wpOps P ops Q ((List.range' i rest.length)) a w
  | [], s, fs, i, a, w, hc, hrest, hr, hQ => by
    cases hc
    exact hQ _ _ hr
  | o :: rest, s, fs, i, a, w, hc, hrest, hr, hQ => by
    cases hc with
    | cons f h t =>
      rename_i fs
      have hi : ops[i]? = some o := by
        have : (ops.toList.drop i)[0]? = some o := by rw [hrest]; rfl
        simpa [List.getElem?_drop] using this
      have hrest' : ops.toList.drop (i + 1) = rest := by
        rw [← List.drop_drop, hrest]; rfl
      have ho : o ∈ ops.toList := by
        have : ops.toList[i]? = some o := by simpa using hi
        exact List.mem_of_getElem? this
      simp only [List.length_cons, List.range'_succ]
      rw [wpOps_cons]
      refine op_ok hE hi (hd o ho) hr h fun a' w' hr' => ?_
      refine text_ok hE hd (K := K) (i + 1) t hrest' hr' fun a2 w2 h2 => hQ a2 w2 ?_
      simpa [endSt, wr_append] using h2
end
end Go.Proofs.Ytlhknehkcflkgaa.Ab
