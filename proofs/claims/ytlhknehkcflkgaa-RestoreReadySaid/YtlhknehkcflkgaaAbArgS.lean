/- Slices of structures that come in. -/
import Derived.Test.YtlhknehkcflkgaaAbArg
import Derived.Test.YtlhknehkcflkgaaAbOps4
set_option autoImplicit false
set_option maxRecDepth 100000
set_option linter.unusedVariables false
namespace Go.Proofs.Ytlhknehkcflkgaa
open Go Ab Go.ChangeShapes Go.WideShapes Go.ChangeAt Go.RowKit
section
variable {H : Type} {enc : TypeId × Value → H} {P : Program} {W : World}
/-- a slice of rows that came in -/
theorem arg_rows {Γ : Reg} (hΓ : Γ.Ok P) {t e : TypeId} (ht : P.underlying t = some (.slice e)) (hc : P.cellsOf e = Γ.sz e) (hs : 0 < Γ.sz e)
    (hel : ∀ n cs y, DataW.trod enc P W 0 (fun _ => true) true n e cs = some y → ∃ x : Γ.α e, ∀ (j : Nat) (l : Lf Γ.α) (u : Value), (Γ.pk e x)[j]? = some l → cs[j]? = some u → RLf (Γ := Γ) (fun _ => none) (Old W) W l u)
    {a0 : Option Addr} {n0 c0 : Nat} {d : DataW H} {p : List MemPlace} (h : DataW.Trod enc P W 0 (fun _ => true) true t (.slice a0 n0 c0) d p) :
    ∃ xs : List (Γ.α e), RLf (Γ := Γ) (fun _ => none) (Old W) W (.sl e xs) (.slice a0 n0 c0) := by
  obtain ⟨fuel, hf⟩ := h
  rcases Go.Deep.open_slice ht hf with ⟨hcs, hx⟩ | ⟨a, len, cap, m, n, D, Pl, hcs, _, hl, hm, hmm, hx, hall⟩
  · simp [Value.cells] at hcs
    obtain ⟨rfl, rfl, rfl⟩ := hcs
    exact ⟨[], .sl e [] none 0 [] (by simp) (by simp) (by simp) (by simp [flat])⟩
  · simp [Value.cells] at hcs
    obtain ⟨ea, el, ec⟩ := hcs
    subst ea; subst el; subst ec
    simp only [if_true] at hmm

    haveI : Inhabited (List Value × Γ.α e) := ⟨([], Γ.dft e)⟩
    obtain ⟨q, hq⟩ := Go.Deep.choose_lt (α := List Value × Γ.α e) (n := n0) (p := fun i r => W.cells? 0 (a.add (i * Γ.sz e)) (Γ.sz e) = some r.1 ∧ ∀ (j : Nat) (l : Lf Γ.α) (u : Value), (Γ.pk e r.2)[j]? = some l → r.1[j]? = some u → RLf (Γ := Γ) (fun _ => none) (Old W) W l u) (fun i hi => by
      obtain ⟨cs', h1, h2⟩ := hall i (by omega)
      obtain ⟨x, h3⟩ := hel n cs' _ h2
      rw [hc] at h1
      exact ⟨(cs', x), h1, h3⟩)
    have key : ∀ k, k < n0 * Γ.sz e → k / Γ.sz e < n0 ∧ ∃ u, (q (k / Γ.sz e)).1[k % Γ.sz e]? = some u ∧ W.cell? (a.add k) = some u := by
      intro k hk
      have h1 : k / Γ.sz e < n0 := (Nat.div_lt_iff_lt_mul hs).2 hk
      have h2 := Nat.mod_lt k hs
      obtain ⟨g1, g2⟩ := hq _ h1
      obtain ⟨_, g3, g4⟩ := World.cells?_some g1
      have g5 := g4 _ h2
      rw [Go.Deep.add_add, Nat.mul_comm, Nat.div_add_mod] at g5
      have g6 : k % Γ.sz e < (q (k / Γ.sz e)).1.length := by omega
      rw [List.getElem?_eq_getElem g6] at g5
      exact ⟨h1, _, List.getElem?_eq_getElem g6, g5⟩
    have hxl : ((List.range n0).map fun i => (q i).2).length = n0 := by simp
    refine ⟨(List.range n0).map fun i => (q i).2, ?_⟩
    have := RLf.sl (Γ := Γ) (m := fun _ => none) (F := Old W) (w := W) e ((List.range n0).map fun i => (q i).2) (some a) c0 ((List.range (n0 * Γ.sz e)).map fun k => (W.cell? (a.add k)).getD (.bool false)) (by simp) (by simp; omega)
      (fun k u hu => by
        rw [List.getElem?_map] at hu
        by_cases hk : k < n0 * Γ.sz e
        · obtain ⟨_, u', _, hc2⟩ := key k hk
          rw [List.getElem?_range hk] at hu
          simp only [Option.map_some, Option.some.injEq] at hu
          rw [hc2] at hu
          simp only [Option.getD_some] at hu
          subst hu
          refine ⟨a, rfl, ?_, hc2⟩
          have := World.block_lt_of_cell? W _ hc2
          unfold Old
          unfold Addr.add at this
          split at this <;> exact this
        · rw [List.getElem?_eq_none (by simpa using hk)] at hu
          cases hu)
      (fun k l u hl' hu => by
        rw [List.getElem?_map] at hu
        by_cases hk : k < n0 * Γ.sz e
        · obtain ⟨h1, u', g1, hc2⟩ := key k hk
          rw [List.getElem?_range hk] at hu
          simp only [Option.map_some, Option.some.injEq] at hu
          rw [hc2] at hu
          simp only [Option.getD_some] at hu
          subst hu
          rw [flat_get hΓ (Γ.dft e) _ k hs (by rw [hxl]; exact h1)] at hl'
          have e2 : rd ((List.range n0).map fun i => (q i).2) (k / Γ.sz e) (Γ.dft e) = (q (k / Γ.sz e)).2 := by simp [rd, List.getD, List.getElem?_range h1]
          rw [e2] at hl'
          exact (hq _ h1).2 _ _ _ hl' g1
        · rw [List.getElem?_eq_none (by simpa using hk)] at hu
          cases hu)
    rwa [hxl] at this
theorem trodAll_five {base : Nat} {spare : Nat → Bool} {held : Bool} {t t' t'' t3 t4 : TypeId} {args : Array Value} {ds : List (DataW H)} {ps : List MemPlace} (h : DataW.TrodAll enc P W base spare held [t, t', t'', t3, t4] args.toList ds ps) :
    ∃ v v' v'' v3 v4 d d' d'' d3 d4 p p' p'' p3 p4, args = #[v, v', v'', v3, v4] ∧ ds = [d, d', d'', d3, d4] ∧ ps = p ++ p' ++ p'' ++ p3 ++ p4 ∧ DataW.Trod enc P W base spare held t v d p ∧ DataW.Trod enc P W base spare held t' v' d' p' ∧ DataW.Trod enc P W base spare held t'' v'' d'' p'' ∧ DataW.Trod enc P W base spare held t3 v3 d3 p3 ∧ DataW.Trod enc P W base spare held t4 v4 d4 p4 := by
  obtain ⟨v, vs, d, ds', p, q, hargs, rfl, rfl, hd, hrest⟩ := trodAll_cons h
  obtain ⟨v', vs', d', ds'', p', q', rfl, rfl, rfl, hd', hrest'⟩ := trodAll_cons hrest
  obtain ⟨v'', vs'', d'', ds''', p'', q'', rfl, rfl, rfl, hd'', hrest''⟩ := trodAll_cons hrest'
  obtain ⟨v3, vs3, d3, ds3, p3, q3, rfl, rfl, rfl, hd3, hrest3⟩ := trodAll_cons hrest''
  obtain ⟨v4, vs4, d4, ds4, p4, q4, rfl, rfl, rfl, hd4, hrest4⟩ := trodAll_cons hrest3
  obtain ⟨rfl, rfl, rfl⟩ := trodAll_nil hrest4
  exact ⟨v, v', v'', v3, v4, d, d', d'', d3, d4, p, p', p'', p3, p4, by cases args; simp_all, rfl, by simp, hd, hd', hd'', hd3, hd4⟩
theorem trodAll_mk5 {base : Nat} {spare : Nat → Bool} {held : Bool} {t t' t'' t3 t4 : TypeId} {v v' v'' v3 v4 : Value} {d d' d'' d3 d4 : DataW H} {p p' p'' p3 p4 : List MemPlace} (h : DataW.Trod enc P W base spare held t v d p) (h' : DataW.Trod enc P W base spare held t' v' d' p')
    (h'' : DataW.Trod enc P W base spare held t'' v'' d'' p'') (h3 : DataW.Trod enc P W base spare held t3 v3 d3 p3) (h4 : DataW.Trod enc P W base spare held t4 v4 d4 p4) : DataW.TrodAll enc P W base spare held [t, t', t'', t3, t4] [v, v', v'', v3, v4] [d, d', d'', d3, d4] (p ++ (p' ++ (p'' ++ (p3 ++ p4)))) :=
  ⟨p, _, h, ⟨p', _, h', trodAll_mk3 h'' h3 h4, rfl⟩, rfl⟩
/-- a structure's cells, field by field: booleans and integers -/
theorem trod_field {e : TypeId} {fs : Array Field} (he : P.underlying e = some (.struct fs)) {n : Nat} {cs : List Value} {y : DataW H × List MemPlace} (h : DataW.trod enc P W 0 (fun _ => true) true n e cs = some y) (i : Nat) {f : Field} (hf : fs[i]? = some f) (hc : P.cellsOf f.type = 1) :
    ∃ m z, DataW.trod enc P W 0 (fun _ => true) true m f.type ((cs.drop f.offset).take 1) = some z := by
  obtain ⟨xs, k, _, _, _, hxl, hall⟩ := DataW.trod_struct he h
  have := hall i f hf
  rw [hc] at this
  have hi : i < xs.length := by rw [hxl]; exact (Array.getElem?_eq_some_iff.1 hf).1
  rw [List.getElem?_eq_getElem hi] at this
  exact ⟨_, _, this⟩
theorem cell_int {t : TypeId} {k : IntKind} (ht : P.underlying t = some (.int k)) {n o : Nat} {cs : List Value} {y : DataW H × List MemPlace} (h : DataW.trod enc P W 0 (fun _ => true) true n t ((cs.drop o).take 1) = some y) : ∃ z, cs[o]? = some (.int k z) ∧ (Lit.int k z).wf = true := by
  obtain ⟨z, h1, _, h2⟩ := DataW.trod_int ht h
  refine ⟨z, ?_, h2⟩
  have := congrArg (·[0]?) h1
  simpa [List.getElem?_take, List.getElem?_drop] using this
theorem cell_bool {t : TypeId} (ht : P.underlying t = some .bool) {n o : Nat} {cs : List Value} {y : DataW H × List MemPlace} (h : DataW.trod enc P W 0 (fun _ => true) true n t ((cs.drop o).take 1) = some y) : ∃ z, cs[o]? = some (.bool z) := by
  obtain ⟨z, h1, _⟩ := DataW.trod_bool ht h
  refine ⟨z, ?_⟩
  have := congrArg (·[0]?) h1
  simpa [List.getElem?_take, List.getElem?_drop] using this
end
end Go.Proofs.Ytlhknehkcflkgaa
