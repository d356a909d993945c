/- Operations, further: new rows: made, built, cut, lengthened; structs built. -/
import Derived.Test.YtlhknehkcflkgaaAbOps3
set_option autoImplicit false
set_option linter.unusedVariables false
set_option linter.unusedSimpArgs false
namespace Go.Proofs.Ytlhknehkcflkgaa.Ab
open Go

section
variable {Γ : Reg} {O : ORel Γ} {s : St Γ.α} {w0 : World} {Bp : Nat → Nat → Prop} {F0 : Nat → Prop} {nt : Nat} {a : Act} {w : World} {m : Places} {F : Nat → Prop}
variable {P : Program} {o : Oper} {K : Act → World → Prop} {Q : Exit → Act → World → Prop} {ws : List (Key × Option (Val Γ.α))} {sg : FuncId → Option Sig}

/-- a row that has come to be gets its name -/
theorem newRow_fin {d : Nat} {e : TypeId} {xs : List (Γ.α e)} {o : Option Nat} {cap : Nat} {vals : List Value} (hm : Rm Γ w0 Bp F0 nt (wr s ws) a w m F) (hu : (wr s ws).get (.used d) = none) (hd : d < nt)
    (hown : w.ownsRow 0 e (Γ.sz e) (sliceV o xs.length cap) xs.length vals) (hrel : RLs m F w (flat Γ e xs) vals) (hnew : ∀ b, o = some b → ¬ F b ∧ (w0.heap.size ≤ b ∨ BB Bp b) ∧ ¬ CB Bp b ∧ ∀ id, ¬ Owns (wr s ws) m id b) :
    R Γ w0 Bp F0 nt (wr s (ws ++ [(.used d, some (.num (xs.length + 1))), (.row d, some (.row e xs)), (.mut d, some (.num 0)), (.tmp d, some (.av (.one (.own d))))])) (a.put (some d) (sliceV o xs.length cap)) w := by
  have hm1 := hm.name (d := d) (k := xs.length + 1) (p := .row o xs.length cap (Γ.sz e)) hu (Nat.lt_of_lt_of_le hd hm.fix.1) (fun b n hp => by cases hp) (fun b n hp => by cases hp) (fun _ _ _ _ h => by cases h; rfl)
  have hmono := setPl_mono (p := .row o xs.length cap (Γ.sz e)) (hm.free d hu)
  have hown' : ∀ id b, Owns ((.used d, some (.num (xs.length + 1))) :: wr s ws) (setPl m d (.row o xs.length cap (Γ.sz e))) id b → Owns (wr s ws) m id b := by
    intro id b hb
    rcases hb with ⟨n, hb⟩ | ⟨n, cap', sz, hb, hmm⟩
    · by_cases e' : id = d
      · subst e'; rw [setPl_same] at hb; cases hb
      · rw [setPl_other e'] at hb; exact .inl ⟨n, hb⟩
    · rw [St.get_cons, if_neg (by simp)] at hmm
      by_cases e' : id = d
      · subst e'; rw [hm.mu _ hu] at hmm; cases hmm
      · rw [setPl_other e'] at hb; exact .inr ⟨n, cap', sz, hb, hmm⟩
  have hm2 := hm1.row1 (d := d) (xs := xs) (o := o) (cap := cap) (vals := vals) (setPl_same _ _ _) hown (hrel.mono hmono (fun _ x => x) (fun _ _ => rfl)) (fun b hb => ⟨(hnew b hb).1, (hnew b hb).2.1, fun id hi => (hnew b hb).2.2.2 id (hown' id b hi)⟩) (fun b hb => (hnew b hb).2.2.1)
  have hm3 := hm2.put (d := d) (v := .one (.own d)) (u := sliceV o xs.length cap) hd (RLf.own d _ _ _ _ (setPl_same _ _ _))
  exact ⟨_, F, by simpa [wr, wr_append] using hm3⟩
theorem ownsRow_mono {w : World} {b b' e sz : Nat} {v : Value} {n : Nat} {xs : List Value} (h : w.ownsRow b e sz v n xs) (hb : b' ≤ b) : w.ownsRow b' e sz v n xs :=
  ⟨h.1, h.2.imp id fun ⟨g, cap, cur, h1, h2, h3⟩ => ⟨g, cap, cur, h1, by omega, h3⟩⟩
theorem ps_newRow {d : Nat} {e : TypeId} {xs : List (Γ.α e)} {wz : List (Key × Option (Val Γ.α))} (h : PS O s (newRow d e xs wz) ws) :
    s.get (.used d) = none ∧ ws = wz ++ [(.used d, some (.num (xs.length + 1))), (.row d, some (.row e xs)), (.mut d, some (.num 0)), (.tmp d, some (.av (.one (.own d))))] := by
  obtain ⟨h1, h2⟩ := ps_no.1 h
  exact ⟨h1, (ps_done.1 h2).symm⟩
theorem zcells_size {t : TypeId} {ti : TI} {z : Value} (h : TIok P t ti) (hz : z.cells.toList = ti.zero.map Zval) : z.cells.size = ti.size := by
  have := congrArg List.length hz
  simpa [h.zl] using this
theorem flat_get (hΓ : Γ.Ok P) {e : TypeId} (d : Γ.α e) (xs : List (Γ.α e)) (k : Nat) (hsz : 0 < Γ.sz e) (hk : k / Γ.sz e < xs.length) : (flat Γ e xs)[k]? = (Γ.pk e (rd xs (k / Γ.sz e) d))[k % Γ.sz e]? := by
  rw [← flat_elem hΓ e d xs _ hk]
  rw [List.getElem?_take, if_pos (Nat.mod_lt _ hsz), List.getElem?_drop, Nat.mul_comm, Nat.div_add_mod]
theorem sim_makeSlice (hΓ : Γ.Ok P) (t : TypeId) (x y : Operand) (ho : o.op = .makeSlice t x y) (hm : Rm Γ w0 Bp F0 nt s a w m F) (hd : ∀ d, o.dst = some d → d < nt)
    (hps : PS O s (opProg Γ sg o) ws) (hK : ∀ a' w', R Γ w0 Bp F0 nt (wr s ws) a' w' → K a' w') : o.wp P a w K Q := by
  simp only [opProg, ho] at hps
  obtain ⟨d, h1, hps⟩ := ps_need.1 hps
  obtain ⟨e, h2, hps⟩ := ps_need.1 hps
  obtain ⟨ti, h3, hps⟩ := ps_need.1 hps
  obtain ⟨u, h4, hps⟩ := ps_opd.1 hps
  obtain ⟨v, h5, hps⟩ := ps_opd.1 hps
  obtain ⟨n, h6, hps⟩ := ps_need.1 hps
  obtain ⟨n', h7, hps⟩ := ps_need.1 hps
  obtain ⟨z0, h8, hps⟩ := ps_need.1 hps
  obtain ⟨h9, q1⟩ := ps_ck.1 hps
  obtain ⟨h10, q2⟩ := ps_ck.1 q1
  obtain ⟨h11, q3⟩ := ps_ck.1 q2
  clear hps q1 q2
  have h9 : n = n' := by simpa using h9
  subst h9
  have h10 := of_decide_eq_true h10
  have h11 := of_decide_eq_true h11
  obtain ⟨g1, rfl⟩   := ps_newRow q3
  obtain ⟨k1, e1⟩ := intval h6 (hm.opv h4)
  obtain ⟨k2, e2⟩ := intval h7 (hm.opv h5)
  have hti := hΓ.ti e ti h3
  obtain ⟨i, i1, i2, i3, z, i4, i5⟩ := hti.info
  have hsz : Γ.sz e = ti.size := sz_ti h3
  have hpos := hti.pos
  have hbpos := hti.bpos
  have hnn : (n.toNat : Int) = n := Int.toNat_of_nonneg h10
  have hb2 : n.toNat * ti.bytes ≤ 140737488355328 := by
    have : ((n.toNat * ti.bytes : Nat) : Int) ≤ 140737488355328 := by rw [Int.natCast_mul, hnn]; exact h11
    omega
  have hle : n.toNat ≤ 140737488355328 := Nat.le_trans (Nat.le_mul_of_pos_right _ hbpos) hb2
  obtain ⟨w', r1, r2, r3⟩ := run_make_full (P := P) w w.heap.size t e i z ti.size (slElem_ok hΓ h2) i1 i4 i2 k1 k2 n.toNat (by rw [i3, Nat.mul_comm]; omega) (by simp only [maxLen]; omega) (Nat.le_refl _)
  rw [hnn] at r1
  have hc := Ch.of_grown r3
  have hm1 := hm.world hc (by simp) (by simp) (by simp) (by simp) (by simp)
  refine wp_val (u := .slice (some ⟨w.heap.size, 0, none⟩) n.toNat n.toNat) (w' := w') (by simp [execOp, ho, e1, e2, r1]) ?_
  rw [h1]
  have hl : (List.replicate n.toNat z0).length = n.toNat := List.length_replicate
  have hfin := newRow_fin (d := d) (e := e) (xs := List.replicate n.toNat z0) (o := some w.heap.size) (cap := n.toNat) (vals := (madeCells z.cells (n.toNat * ti.size)).toList) (s := s) (ws := []) (a := a) hm1 g1 (hd d h1)
    (by rw [hl, hsz]; exact ownsRow_mono r2 (Nat.zero_le _)) ?_ (fun b hb => by cases hb; exact ⟨fun hf => by have := hm.f2 _ hf; omega, .inl hm.fr.size, hm.freshCB hm.fr.size, fun id hi => by have := (hm.ours id _ hi).2.2; omega⟩)
  · refine hK _ _ ?_
    simpa [hl, sliceV] using hfin
  · obtain ⟨u1, u2⟩ := hΓ.unpk e _ z0 h8
    have hpk : (Γ.pk e z0).length = ti.size := by rw [hΓ.len, hsz]
    refine ⟨by rw [flat_length hΓ, hl, hsz]; simp [madeCells], fun k l v hk hv => ?_⟩
    have hk' : k < n.toNat * ti.size := by
      have := (List.getElem?_eq_some_iff.1 hk).1
      rwa [flat_length hΓ, hl, hsz] at this
    have hdiv : k / ti.size < n.toNat := (Nat.div_lt_iff_lt_mul hpos).2 hk'
    have hmod : k % ti.size < ti.size := Nat.mod_lt _ hpos
    rw [flat_get hΓ z0 _ k (by rw [hsz]; exact hpos) (by rw [hl, hsz]; exact hdiv), hsz, show rd (List.replicate n.toNat z0) (k / ti.size) z0 = z0 from by simp [rd, List.getElem?_replicate, hdiv]] at hk
    have hzsz := zcells_size hti i5
    have hv' : v = z.cells.toList[k % ti.size]'(by simp [hzsz, hmod]) := by
      simp only [madeCells, Array.getElem?_toList, Array.getElem?_map, Array.getElem?_range, hk', if_true, Option.map_some, hzsz, Option.some.injEq] at hv
      rw [← hv, getElem!_pos z.cells _ (by rw [hzsz]; exact hmod)]
      simp
    have hz2 : z.cells.toList[k % ti.size]? = some v := by rw [hv']; exact List.getElem?_eq_getElem _
    rw [i5, List.getElem?_map] at hz2
    cases hzz : ti.zero[k % ti.size]? with
    | none => rw [hzz] at hz2; cases hz2
    | some zz =>
      rw [hzz] at hz2
      simp at hz2
      subst hz2
      have h0 : RLf m F w' (Z.lf (α := Γ.α) zz) (Zval zz) := by cases zz <;> first | exact .int _ _ | exact .bool _ | exact .str _ | exact .nil
      exact h0.le (u2 (k % ti.size) _ _ (by rw [List.getElem?_map, hzz]; rfl) hk)
end
end Go.Proofs.Ytlhknehkcflkgaa.Ab
