/- Operations, further: slice literals, append, structs built. -/
import Derived.Test.YtlhknehkcflkgaaAbOps5
set_option autoImplicit false
set_option linter.unusedVariables false
set_option linter.unusedSimpArgs false
namespace Go.Proofs.Ytlhknehkcflkgaa.Ab
open Go

section
variable {Γ : Reg} {O : ORel Γ} {s : St Γ.α} {w0 : World} {Bp : Nat → Nat → Prop} {F0 : Nat → Prop} {nt : Nat} {a : Act} {w : World} {m : Places} {F : Nat → Prop}
variable {P : Program} {o : Oper} {K : Act → World → Prop} {Q : Exit → Act → World → Prop} {ws : List (Key × Option (Val Γ.α))} {sg : FuncId → Option Sig}

theorem closeAll_true (hΓ : Γ.Ok P) {k : List (List (Lf Γ.α)) → List (Key × Option (Val Γ.α)) → Prog Γ.α} : ∀ {vs : List (AV Γ.α)} {us : List Value} {s2 : St Γ.α} {F : Nat → Prop}, Rm Γ w0 Bp F0 nt s2 a w m F → (∀ id, s2.get (.row id) = s.get (.row id)) →
    PS O s (closeAll true vs k) ws → All2 (fun (u : Value) v => RAV m F w v u) us vs →
    ∃ css wz F', PS O s (k css wz) ws ∧ Rm Γ w0 Bp F0 nt (wr s2 wz) a w m F' ∧ (∀ b, F b → F' b) ∧ All2 (fun (u : Value) cs => RLs m F' w cs u.cells.toList) us css ∧ (∀ key, (∀ id, key ≠ .mut id) → (wr s2 wz).get key = s2.get key) := by
  intro vs
  induction vs generalizing k with
  | nil => intro us s2 F hm _ hps hr; cases hr; exact ⟨[], [], F, hps, hm, fun _ x => x, .nil, fun _ _ => rfl⟩
  | cons v vs ih =>
    intro us s2 F hm hs hps hr
    obtain ⟨u, us', rfl, h1, h2⟩ := hr.inv
    simp only [closeAll] at hps
    obtain ⟨cs, h3, h4⟩ := ps_need.1 hps
    obtain ⟨c, wz, F', g1, g2, g3, g4, g5, _⟩ := close_true hΓ hm hs h4 (h1.cells h3)
    have h2' : All2 (fun (u : Value) v => RAV m F' w v u) us' vs := by
      clear ih hps h4 g1
      induction h2 with
      | nil => exact .nil
      | cons h t ih => exact .cons (h.mono (fun _ _ e => e) g3 (fun _ _ => rfl)) (ih (hr := .cons h1 t))
    obtain ⟨css, wz', F'', q1, q2, q3, q4, q5⟩ := ih g2 (fun id => by rw [g5 _ (by simp)]; exact hs id) g1 h2'
    refine ⟨c :: css, wz ++ wz', F'', q1, by rw [wr_append]; exact q2, fun b hb => q3 b (g3 b hb), .cons (g4.mono (fun _ _ e => e) q3 (fun _ _ => rfl)) q4, fun key hk => by rw [wr_append, q5 key hk, g5 key hk]⟩
theorem unpks_rel (hΓ : Γ.Ok P) {e : TypeId} : ∀ {css : List (List (Lf Γ.α))} {us : List Value} {xs : List (Γ.α e)}, unpks e css = some xs → All2 (fun (u : Value) cs => RLs m F w cs u.cells.toList) us css →
    RLs m F w (flat Γ e xs) (us.flatMap fun u => u.cells.toList) ∧ xs.length = us.length ∧ ∀ u ∈ us, u.cells.size = Γ.sz e
  | [], us, xs, h, hr => by cases hr; simp [unpks] at h; subst h; exact ⟨.nil, rfl, by simp⟩
  | cs :: css, us, xs, h, hr => by
    obtain ⟨u, us', rfl, h1, h2⟩ := hr.inv
    unfold unpks at h
    split at h
    · rename_i x hx
      cases hq : unpks e css with
      | none => rw [hq] at h; cases h
      | some ys =>
        rw [hq] at h
        simp at h
        subst h
        obtain ⟨a1, a2, a3⟩ := unpks_rel hΓ hq h2
        obtain ⟨b1, b2⟩ := hΓ.unpk e cs x hx
        have := h1.le b1 b2
        refine ⟨?_, by simp [a2], ?_⟩
        · simp only [flat, List.flatMap_cons]
          exact this.append a1
        · intro z hz
          rcases List.mem_cons.1 hz with rfl | hz
          · have := this.1
            rw [hΓ.len] at this
            simpa using this.symm
          · exact a3 z hz
    · cases h
theorem inOrder_zip {β γ : Type} (f : β → γ) : ∀ (l : List (Nat × β)) (j : Nat), inOrder j l = true → l.map (fun x => (x.1, f x.2)) = ((l.map fun x => f x.2).zipIdx j).map fun x => (x.2, x.1)
  | [], _, _ => rfl
  | (i, x) :: l, j, h => by
    simp only [inOrder] at h
    cases hb : Nat.beq i j with
    | false => rw [hb] at h; cases h
    | true =>
      rw [hb] at h
      have := Nat.eq_of_beq_eq_true hb
      subst this
      simp only [List.map_cons, List.zipIdx_cons]
      rw [← inOrder_zip f l (i + 1) h]
theorem sim_buildSlice (hΓ : Γ.Ok P) (t : TypeId) (len : Nat) (parts : Array (Nat × Operand)) (ho : o.op = .buildSlice t len parts) (hm : Rm Γ w0 Bp F0 nt s a w m F) (hd : ∀ d, o.dst = some d → d < nt)
    (hps : PS O s (opProg Γ sg o) ws) (hK : ∀ a' w', R Γ w0 Bp F0 nt (wr s ws) a' w' → K a' w') : o.wp P a w K Q := by
  simp only [opProg, ho] at hps
  obtain ⟨d, h1, p1⟩ := ps_need.1 hps
  obtain ⟨e, h2, p2⟩ := ps_need.1 p1
  obtain ⟨ti, h3, p3⟩ := ps_need.1 p2
  obtain ⟨h4, p4⟩ := ps_bif p3
  simp only [Bool.and_eq_true] at h4
  obtain ⟨⟨h5, h6⟩, h7⟩ := h4
  have h5 := Nat.eq_of_beq_eq_true h5
  have h7 := Nat.le_of_ble_eq_true h7
  obtain ⟨vs, h8, p5⟩ := ps_opds.1 p4
  obtain ⟨css, wz, F', g1, hm2, hFF, g4, g5⟩ := closeAll_true hΓ hm (fun _ => rfl) p5 (opvs_rel hm h8)
  obtain ⟨xs, g6, g7⟩ := ps_need.1 g1
  obtain ⟨g8, rfl⟩ := ps_newRow g7
  obtain ⟨u1, u2, u3⟩ := unpks_rel hΓ g6 g4
  have hti := hΓ.ti e ti h3
  have hsz : Γ.sz e = ti.size := sz_ti h3
  obtain ⟨i, i1, i2, i3, z, i4, i5⟩ := hti.info
  have hpos := hti.pos
  simp only [List.length_map] at u2
  rw [h5] at u2
  by_cases hlen : len = 0
  · -- nothing in it
    subst hlen
    have hx : xs = [] := List.eq_nil_of_length_eq_zero u2
    subst hx
    have hp0 : parts = #[] := by rw [← Array.toList_inj]; exact List.eq_nil_of_length_eq_zero h5
    have hrun : (Instr.buildSlice t 0 (parts.map fun (i, x) => (i, a.eval x))).run P w = .ok (.slice (some ⟨w.heap.size, 0, none⟩) 0 0) (w.alloc (.cells #[] e)) := by
      subst hp0
      simp [Instr.buildSlice, run_underlying (slElem_ok hΓ h2), sizeOf_run hti, Instr.fill, run_newRow', Array.range_zero']
    have hc := Ch.alloc (fun _ => False) w (.cells #[] e)
    have hm3 := hm2.world hc (by simp) (by simp) (by simp) (by simp) (by simp)
    refine wp_val (u := .slice (some ⟨w.heap.size, 0, none⟩) 0 0) (w' := w.alloc (.cells #[] e)) (by simp [execOp, ho, hrun]) ?_
    rw [h1]
    have hfin := newRow_fin (d := d) (e := e) (xs := []) (o := some w.heap.size) (cap := 0) (vals := []) (a := a) hm3 (by rw [g5 _ (by simp)]; exact g8) (hd d h1)
      (by exact ownsRow_mono (World.ownsRow_made w #[] 0 (Nat.le_refl _) (by simp [maxLen]) (by simp)) (Nat.zero_le _)) (by exact .nil) (fun b hb => by cases hb; exact ⟨fun hf => by have := hm2.f2 _ hf; omega, .inl hm.fr.size, hm.freshCB hm.fr.size, fun id hi => by have := (hm2.ours id _ hi).2.2; omega⟩)
    exact hK _ _ hfin
  · have hfill := Go.Great.fill_whole (s := ti.size) hpos (parts.toList.map fun x => a.eval x.2) ((Array.range (len * ti.size)).map (z.cells[· % z.cells.size]!)) (fun v hv => by rw [u3 v (by simpa using hv), hsz]) (by simp [h5])
    rw [← inOrder_zip a.eval parts.toList 0 h6] at hfill
    have hrun := run_buildSlice (P := P) w t e len (parts.map fun (i, x) => (i, a.eval x)) _ i z (slElem_ok hΓ h2) i1 i4 (by rw [i2]; simp; omega) (by rw [i2]; exact Nat.mul_ne_zero hlen (by omega)) (by rw [i2]; simpa using hfill)
    generalize hC : (List.flatMap (fun v => v.cells.toList) (List.map (fun x => a.eval x.2) parts.toList)).toArray = C at hrun
    have hCl : C.toList = ((parts.toList.map (·.2)).map a.eval).flatMap fun u => u.cells.toList := by rw [← hC]; simp [List.flatMap_map]
    rw [← hCl] at u1
    have hCs : C.size = len * ti.size := by
      have := u1.1
      rw [flat_length hΓ, u2, hsz] at this
      simpa using this.symm
    have hc := Ch.alloc (fun _ => False) w (.cells C e)
    have hm3 := hm2.world hc (by simp) (by simp) (by simp) (by simp) (by simp)
    refine wp_val (u := .slice (some ⟨w.heap.size, 0, none⟩) len len) (w' := w.alloc (.cells C e)) (by simp [execOp, ho, hrun]) ?_
    rw [h1]
    have hmax : len ≤ maxLen := by
      have : len ≤ len * ti.size := Nat.le_mul_of_pos_right _ hpos
      simp only [maxLen]; omega
    have hfin := newRow_fin (d := d) (e := e) (xs := xs) (o := some w.heap.size) (cap := len) (vals := C.toList) (a := a) hm3 (by rw [g5 _ (by simp)]; exact g8) (hd d h1)
      (by
        rw [u2, hsz]
        exact ⟨by simp [hCs], .inr ⟨w.heap.size, len, C, rfl, Nat.zero_le _, heap_alloc_new w _, Nat.le_refl _, hmax, hCs, by rw [← hCs]; exact List.take_of_length_le (by simp)⟩⟩)
      (u1.mono (fun _ _ e => e) (fun _ x => x) (fun ad hf => hc.cell (hm2.f2 _ hf) (by simp)))
      (fun b hb => by cases hb; exact ⟨fun hf => by have := hm2.f2 _ hf; omega, .inl hm.fr.size, hm.freshCB hm.fr.size, fun id hi => by have := (hm2.ours id _ hi).2.2; omega⟩)
    subst u2
    exact hK _ _ hfin
end
end Go.Proofs.Ytlhknehkcflkgaa.Ab
