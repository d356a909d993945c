/- Operations, further: structs built. -/
import Derived.Test.YtlhknehkcflkgaaAbOps7
set_option autoImplicit false
set_option linter.unusedVariables false
set_option linter.unusedSimpArgs false
namespace Go.Proofs.Ytlhknehkcflkgaa.Ab
open Go

section
variable {Γ : Reg} {O : ORel Γ} {s : St Γ.α} {w0 : World} {Bp : Nat → Nat → Prop} {F0 : Nat → Prop} {nt : Nat} {a : Act} {w : World} {m : Places} {F : Nat → Prop}
variable {P : Program} {o : Oper} {K : Act → World → Prop} {Q : Exit → Act → World → Prop} {ws : List (Key × Option (Val Γ.α))} {sg : FuncId → Option Sig}

theorem ps_partCells {k : List (Nat × List (Lf Γ.α)) → Prog Γ.α} : ∀ {parts : List (Nat × Operand)}, PS O s (partCells parts k) ws → Rm Γ w0 Bp F0 nt s a w m F →
    ∃ ps, PS O s (k ps) ws ∧ All2 (fun (x : Nat × Operand) (p : Nat × List (Lf Γ.α)) => p.1 = x.1 ∧ RLs m F w p.2 (a.eval x.2).cells.toList) parts ps := by
  intro parts
  induction parts generalizing k with
  | nil => intro h _; exact ⟨[], h, .nil⟩
  | cons x parts ih =>
    intro h hm
    obtain ⟨i, x⟩ := x
    simp only [partCells] at h
    obtain ⟨v, h1, h2⟩ := ps_opd.1 h
    obtain ⟨cs, h3, h4⟩ := ps_need.1 h2
    obtain ⟨ps, h5, h6⟩ := ih h4 hm
    exact ⟨(i, cs) :: ps, h5, .cons ⟨rfl, (hm.opv h1).cells h3⟩ h6⟩
/-- one part laid over the cells -/
theorem fold_putAt (off : Nat) : ∀ (vs : List Value) (j : Nat) (cells : Array Value), off + j + vs.length ≤ cells.size → ((vs.zipIdx j).foldl (fun cs (x : Value × Nat) => cs.setIfInBounds (off + x.2) x.1) cells).toList = putAt cells.toList (off + j) vs
  | [], j, cells, _ => by simp [putAt]
  | v :: vs, j, cells, h => by
    simp only [List.length_cons] at h
    simp only [List.zipIdx_cons, List.foldl_cons]
    rw [fold_putAt off vs (j + 1) _ (by simp; omega)]
    apply List.ext_getElem?
    intro k
    have hl : cells.toList.length = cells.size := Array.length_toList
    simp only [putAt, Array.toList_setIfInBounds, List.length_cons, List.append_assoc, List.getElem?_append, List.length_take, List.length_set, List.getElem?_take, List.getElem?_drop, List.getElem?_set, List.getElem?_cons]
    by_cases h1 : k < off + j
    · have e1 : k < min (off + (j + 1)) cells.toList.length := by omega
      have e2 : k < min (off + j) cells.toList.length := by omega
      rw [if_pos e1, if_pos e2, if_pos (by omega), if_pos h1, if_neg (by omega)]
    · by_cases h2 : k = off + j
      · subst h2
        have e1 : off + j < min (off + (j + 1)) cells.toList.length := by omega
        have e2 : ¬ off + j < min (off + j) cells.toList.length := by omega
        rw [if_pos e1, if_neg e2, if_pos (by omega), if_pos rfl, if_pos (by omega), if_pos (by omega), if_pos (by omega)]
      · have e1 : ¬ k < min (off + (j + 1)) cells.toList.length := by omega
        have e2 : ¬ k < min (off + j) cells.toList.length := by omega
        rw [if_neg e1, if_neg e2]
        by_cases h3 : k - min (off + (j + 1)) cells.toList.length < vs.length
        · rw [if_pos h3, if_pos (by omega), if_neg (by omega)]
          congr 1; omega
        · rw [if_neg h3, if_neg (by omega), if_neg (by omega)]
          congr 1; omega
theorem fill_rel (hΓ : Γ.Ok P) (fs : List (TypeId × Nat)) (places : List (Nat × Nat)) (hpl : ∀ (i t off : Nat) (ti : TI), fs[i]? = some (t, off) → Γ.ti t = some ti → places[i]? = some (off, ti.size)) :
    ∀ {parts : List (Nat × Operand)} {ps : List (Nat × List (Lf Γ.α))} {cells : Array Value} {lc cs : List (Lf Γ.α)}, All2 (fun (x : Nat × Operand) (p : Nat × List (Lf Γ.α)) => p.1 = x.1 ∧ RLs m F w p.2 (a.eval x.2).cells.toList) parts ps →
      RLs m F w lc cells.toList → fillParts Γ fs ps lc = some cs → ∃ C : Array Value, Instr.fill (places.toArray[·]?) cells (parts.map fun (x : Nat × Operand) => (x.1, a.eval x.2)) = some C ∧ RLs m F w cs C.toList
  | [], ps, cells, lc, cs, h, hr, hf => by
    cases h
    simp [fillParts] at hf
    subst hf
    exact ⟨cells, rfl, hr⟩
  | (i, x) :: parts, ps, cells, lc, cs, h, hr, hf => by
    cases h with
    | cons h1 h2 =>
      rename_i p ps'
      obtain ⟨i', c⟩ := p
      obtain ⟨e1, h1⟩ := h1
      simp only at e1 h1
      subst e1
      unfold fillParts at hf
      cases hfs : fs[i']? with
      | none => rw [hfs] at hf; cases hf
      | some q =>
        obtain ⟨t, off⟩ := q
        rw [hfs] at hf
        simp only at hf
        cases hti : Γ.ti t with
        | none => rw [hti] at hf; cases hf
        | some ti =>
          rw [hti] at hf
          simp only at hf
          cases hb : Nat.beq c.length ti.size && Nat.ble (off + ti.size) lc.length with
          | false => rw [hb] at hf; cases hf
          | true =>
            rw [hb, cond_true] at hf
            simp only [Bool.and_eq_true] at hb
            have hb1 := Nat.eq_of_beq_eq_true hb.1
            have hb2 := Nat.le_of_ble_eq_true hb.2
            have hsz : (a.eval x).cells.size = ti.size := by have := h1.1; rw [hb1] at this; simpa using this.symm
            have hcs : lc.length = cells.size := by rw [hr.1]; simp
            have hput : ((a.eval x).cells.zipIdx.foldl (fun cs (c, j) => cs.setIfInBounds (off + j) c) cells).toList = putAt cells.toList off (a.eval x).cells.toList := by
              have := fold_putAt off (a.eval x).cells.toList 0 cells (by simp [hsz]; omega)
              rw [Nat.add_zero] at this
              rw [← this, ← Array.foldl_toList]
              simp
            have hnew : RLs m F w (putAt lc off c) ((a.eval x).cells.zipIdx.foldl (fun cs (c, j) => cs.setIfInBounds (off + j) c) cells).toList := by rw [hput]; exact putAt_rel hr h1
            obtain ⟨C, q1, q2⟩ := fill_rel hΓ fs places hpl h2 hnew hf
            refine ⟨C, ?_, q2⟩
            simp only [List.map_cons, Instr.fill]
            rw [show places.toArray[i']? = some (off, ti.size) from by simpa using hpl i' t off ti hfs hti]
            simp only
            rw [if_neg (by simp [hsz]; omega)]
            exact q1
theorem sim_build (hΓ : Γ.Ok P) (t : TypeId) (parts : Array (Nat × Operand)) (ho : o.op = .build t parts) (hm : Rm Γ w0 Bp F0 nt s a w m F) (hd : ∀ d, o.dst = some d → d < nt)
    (hps : PS O s (opProg Γ sg o) ws) (hK : ∀ a' w', R Γ w0 Bp F0 nt (wr s ws) a' w' → K a' w') : o.wp P a w K Q := by
  simp only [opProg, ho] at hps
  obtain ⟨ti, h1, h2⟩ := ps_need.1 hps
  split at h2
  · rename_i fs hfs
    obtain ⟨ps, h3, h4⟩ := ps_partCells h2 hm
    obtain ⟨cs, h5, h6⟩ := ps_need.1 h3
    rw [forceL_eq] at h6
    have hti := hΓ.ti t ti h1
    have hs := hti.sh
    rw [hfs] at hs
    obtain ⟨fields, e1, e2, e3⟩ := hs
    have e3 : ∀ f ∈ fields.toList, ∃ i, P.info? f.type = some i := fun f hf => Option.isSome_iff_exists.1 (List.all_eq_true.1 e3 f hf)
    obtain ⟨i, i1, i2, i3, z, i4, i5⟩ := hti.info
    -- the fields' places
    have hpl : ∃ places, fields.toList.mapM (fun f => (P.info? f.type).map fun i => (f.offset, i.size)) = some places ∧
        ∀ (i t off : Nat) (ti : TI), (fields.toList.map (fun f => (f.type, f.offset)))[i]? = some (t, off) → Γ.ti t = some ti → places[i]? = some (off, ti.size) := by
      clear e2 e1
      generalize fields.toList = fl at e3
      induction fl with
      | nil => exact ⟨[], by simp, by simp⟩
      | cons f fl ih =>
        obtain ⟨places, p1, p2⟩ := ih (fun g hg => e3 g (List.mem_cons_of_mem _ hg))
        obtain ⟨fi, hfi⟩ := e3 f List.mem_cons_self
        refine ⟨(f.offset, fi.size) :: places, by simp [hfi, p1], fun i t off ti h7 h8 => ?_⟩
        cases i with
        | zero =>
          simp at h7
          obtain ⟨rfl, rfl⟩ := h7
          obtain ⟨j, j1, j2, _⟩ := (hΓ.ti _ ti h8).info
          rw [hfi] at j1
          cases j1
          simp [j2]
        | succ i => simp at h7 ⊢; exact p2 i t off ti (by simpa using h7) h8
    obtain ⟨places, p1, p2⟩ := hpl
    rw [e2] at p2
    obtain ⟨C, q1, q2⟩ := fill_rel (a := a) hΓ fs places p2 h4 (cells := z.cells) (by rw [i5]; exact zero_rel ti.zero) h5
    have hrun := run_build (P := P) w t (parts.map fun (i, x) => (i, a.eval x)) C (by simp only [Program.built, i1, e1, i4, p1]; simpa using q1)
    refine wp_val (u := .agg C) (w' := w) (by simp [execOp, ho, hrun]) (out_sim hm hd h6 ⟨C.toList, rfl, q2⟩ hK)
  · exact (ps_fail.1 h2).elim
end
end Go.Proofs.Ytlhknehkcflkgaa.Ab
