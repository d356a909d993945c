/- Operations, further: slices cut, literals, append, structs built. -/
import Derived.Test.YtlhknehkcflkgaaAbOps4
import Derived.Laws.Slices
set_option autoImplicit false
set_option linter.unusedVariables false
set_option linter.unusedSimpArgs false
namespace Go.Proofs.Ytlhknehkcflkgaa.Ab
open Go

section
variable {Γ : Reg} {O : ORel Γ} {s : St Γ.α} {w0 : World} {Bp : Nat → Nat → Prop} {F0 : Nat → Prop} {nt : Nat} {a : Act} {w : World} {m : Places} {F : Nat → Prop}
variable {P : Program} {o : Oper} {K : Act → World → Prop} {Q : Exit → Act → World → Prop} {ws : List (Key × Option (Val Γ.α))} {sg : FuncId → Option Sig}

theorem rm_tmp {d : Option Tmp} {wz : List (Key × Option (Val Γ.α))} {x : AV Γ.α} {u : Value} (hm : Rm Γ w0 Bp F0 nt (wr s wz) a w m F) (hd : ∀ d', d = some d' → d' < nt) {d' : Tmp} (he : d = some d') (hx : RAV m F w x u) :
    R Γ w0 Bp F0 nt (wr s (wz ++ [(.tmp d', some (.av x))])) (a.put d u) w := by
  subst he
  exact ⟨m, F, by rw [wr_append]; exact hm.put (hd _ rfl) hx⟩
theorem take_flat (hΓ : Γ.Ok P) {e : TypeId} (xs : List (Γ.α e)) (j : Nat) : flat Γ e (xs.take j) = (flat Γ e xs).take (j * Γ.sz e) := by
  by_cases h : j ≤ xs.length
  · have h1 : flat Γ e xs = flat Γ e (xs.take j) ++ flat Γ e (xs.drop j) := by
      simp only [flat, ← List.flatMap_append, List.take_append_drop]
    have h2 : (flat Γ e (xs.take j)).length = j * Γ.sz e := by rw [flat_length hΓ, List.length_take, Nat.min_eq_left h]
    rw [h1, ← h2, List.take_left]
  · rw [List.take_of_length_le (by omega), List.take_of_length_le]
    rw [flat_length hΓ]
    exact Nat.mul_le_mul_right _ (by omega)
theorem drop_flat (hΓ : Γ.Ok P) {e : TypeId} (xs : List (Γ.α e)) (j : Nat) : flat Γ e (xs.drop j) = (flat Γ e xs).drop (j * Γ.sz e) := by
  by_cases h : j ≤ xs.length
  · have h1 : flat Γ e xs = flat Γ e (xs.take j) ++ flat Γ e (xs.drop j) := by
      simp only [flat, ← List.flatMap_append, List.take_append_drop]
    have h2 : (flat Γ e (xs.take j)).length = j * Γ.sz e := by rw [flat_length hΓ, List.length_take, Nat.min_eq_left h]
    rw [h1, ← h2, List.drop_left]
  · rw [List.drop_of_length_le (by omega), List.drop_of_length_le]
    · rfl
    · rw [flat_length hΓ]
      exact Nat.mul_le_mul_right _ (by omega)
theorem ps_boundOf {x : Option Operand} {dflt : Int} {k : Int → Prog Γ.α} (h : PS O s (boundOf x dflt k) ws) : ∃ i, PS O s (k i) ws ∧ ((x = none ∧ i = dflt) ∨ ∃ p v, x = some p ∧ Opv s p v ∧ asInt' v = some i) := by
  cases x with
  | none => exact ⟨dflt, h, .inl ⟨rfl, rfl⟩⟩
  | some p =>
    obtain ⟨v, h1, h2⟩ := ps_opd.1 h
    obtain ⟨i, h3, h4⟩ := ps_need.1 h2
    exact ⟨i, h4, .inr ⟨p, v, rfl, h1, h3⟩⟩
/-- a slice that is told as a list, as the model has it -/
theorem sl_of {e : TypeId} {l : Lf Γ.α} {xs : List (Γ.α e)} {k : List (Γ.α e) → Prog Γ.α} {u : Value} (hpl : plain' l) (h : PS O s (elems e l k) ws) (hr : RLf m F w l u) :
    ∃ xs : List (Γ.α e), PS O s (k xs) ws ∧ RLf m F w (.sl e xs) u := by
  unfold elems at h
  split at h
  · exact ⟨[], h, hr.le (.inr ⟨rfl, e, rfl⟩)⟩
  · split at h
    · rename_i he
      subst he
      exact ⟨_, h, hr⟩
    · exact (ps_fail.1 h).elim
  · exact hpl.elim
  · exact (ps_fail.1 h).elim
theorem sim_slice (hΓ : Γ.Ok P) (t : TypeId) (x : Operand) (lo hi : Option Operand) (ho : o.op = .slice t x lo hi none) (hm : Rm Γ w0 Bp F0 nt s a w m F) (hd : ∀ d, o.dst = some d → d < nt)
    (hps : PS O s (opProg Γ sg o) ws) (hK : ∀ a' w', R Γ w0 Bp F0 nt (wr s ws) a' w' → K a' w') : o.wp P a w K Q := by
  simp only [opProg, ho] at hps
  obtain ⟨e, h1, hps⟩ := ps_need.1 hps
  obtain ⟨ti, h1a, hps⟩ := ps_need.1 hps
  obtain ⟨v, h2, hps⟩ := ps_opd.1 hps
  have hr := hm.opv h2
  split at hps
  · rename_i l
    obtain ⟨cs, wz, F', g1, hm2, hFF, hrel, hkeys, hpl⟩ := close_true hΓ hm (fun _ => rfl) hps (RLs.cons hr .nil)
    split at g1
    · rename_i c
      obtain ⟨uu, us, q1, q2, q3⟩ := hrel.inv
      cases q1
      obtain ⟨xs, g2, g3⟩ := sl_of (xs := []) (hpl c (by simp)) g1 q2
      obtain ⟨i, g4, gi⟩ := ps_boundOf g2
      obtain ⟨j, g5, gj⟩ := ps_boundOf g4
      obtain ⟨b1, g6⟩ := ps_ck.1 g5
      obtain ⟨b2, g7⟩ := ps_ck.1 g6
      obtain ⟨b3, g8⟩ := ps_ck.1 g7
      obtain ⟨d, g9, g10⟩ := ps_need.1 g8
      have hws := ps_done.1 g10
      subst hws
      have b1 := of_decide_eq_true b1
      have b2 := of_decide_eq_true b2
      have b3 := of_decide_eq_true b3
      have hu := slElem_ok hΓ h1
      have hti := hΓ.ti e ti h1a
      have hsz : Γ.sz e = ti.size := sz_ti h1a
      generalize hev : a.eval x = X at g3
      cases g3 with
      | sl _ _ A c vals hl hc hcell hrel' =>
        have rlo : ∀ h : Nat, i ≤ h → (match lo.map a.eval with | some v => Instr.sliceBound v h .sliceB | none => pure 0 : Sem Nat).run P w = .ok i.toNat w := by
          intro h hh
          rcases gi with ⟨rfl, rfl⟩ | ⟨p, v, rfl, q4, q5⟩
          · rfl
          · obtain ⟨k, q6⟩ := intval q5 (hm.opv q4)
            simp [q6, run_sliceBound w k i h .sliceB b1 hh]
        have rhi : (match hi.map a.eval with | some v => Instr.sliceBound v c .sliceAcap | none => pure xs.length : Sem Nat).run P w = .ok j.toNat w := by
          rcases gj with ⟨rfl, rfl⟩ | ⟨p, v, rfl, q4, q5⟩
          · simp
          · obtain ⟨k, q6⟩ := intval q5 (hm.opv q4)
            simp [q6, run_sliceBound w k j c .sliceAcap (by omega) (by omega)]
        have hrun : (Instr.sliceAt t (.slice A xs.length c) (lo.map a.eval) (hi.map a.eval) none).run P w = .ok (.slice (if c = i.toNat then A else A.map (·.add (i.toNat * Γ.sz e))) (j.toNat - i.toNat) (c - i.toNat)) w := by
          have hjt : (j.toNat : Int) = j := Int.toNat_of_nonneg (by omega)
          have rlo' := rlo j.toNat (by omega)
          simp only [Instr.sliceAt, Instr.slice, Sem.run_bind, run_underlying hu, Result.andThen_ok, Instr.sliceBounds, Sem.run_pure]
          cases hlo : lo.map a.eval with
          | none =>
            rw [hlo] at rlo'
            cases hhi : hi.map a.eval with
            | none => rw [hhi] at rhi; simp only [Sem.run_pure, Result.ok.injEq, and_true] at rlo' rhi; simp [sizeOf_run hti, hsz, ← rlo', ← rhi]
            | some y => rw [hhi] at rhi; simp only [Sem.run_pure, Result.ok.injEq, and_true] at rlo'; simp [rhi, sizeOf_run hti, hsz, ← rlo']
          | some z =>
            rw [hlo] at rlo'
            cases hhi : hi.map a.eval with
            | none => rw [hhi] at rhi; simp only [Sem.run_pure, Result.ok.injEq, and_true] at rhi; rw [← rhi] at rlo' ⊢; simp [sizeOf_run hti, hsz, rlo']
            | some y => rw [hhi] at rhi; simp [rhi, rlo', sizeOf_run hti, hsz]
        have hput := rm_tmp (s := s) (d := o.dst) (x := .one (.sl e ((xs.take j.toNat).drop i.toNat))) (u := .slice (if c = i.toNat then A else A.map (·.add (i.toNat * Γ.sz e))) (j.toNat - i.toNat) (c - i.toNat)) hm2 hd g9 ?_
        · refine wp_val (w' := w) (by simp [execOp, ho, hev, hrun]) (hK _ _ hput)
        · have hlen : ((xs.take j.toNat).drop i.toNat).length = j.toNat - i.toNat := by simp only [List.length_drop, List.length_take]; omega
          have hfl : flat Γ e ((xs.take j.toNat).drop i.toNat) = ((flat Γ e xs).take (j.toNat * Γ.sz e)).drop (i.toNat * Γ.sz e) := by rw [drop_flat hΓ, take_flat hΓ]
          have hRL : RLs m F' w (flat Γ e xs) vals := ⟨by rw [flat_length hΓ, hl], hrel'⟩
          have hRL2 := (hRL.take (j.toNat * Γ.sz e)).drop (i.toNat * Γ.sz e)
          rw [← hfl] at hRL2
          show RLf m F' w (.sl e ((xs.take j.toNat).drop i.toNat)) _
          rw [← hlen]
          refine .sl e _ _ _ _ ?_ (by rw [hlen]; omega) (fun k u hk => ?_) hRL2.2
          · rw [← hRL2.1, flat_length hΓ]
          · rw [List.getElem?_drop] at hk
            have hkt : vals[i.toNat * Γ.sz e + k]? = some u := by
              rw [List.getElem?_take] at hk
              split at hk
              · exact hk
              · cases hk
            have hlt : i.toNat * Γ.sz e + k < j.toNat * Γ.sz e := by
              have := (List.getElem?_eq_some_iff.1 hk).1
              simp only [List.length_take] at this
              omega
            obtain ⟨ad, r1, r2, r3⟩ := hcell _ u hkt
            subst r1
            have hne : ¬ c = i.toNat := by
              intro hc'
              have : j.toNat ≤ i.toNat := by omega
              have := Nat.mul_le_mul_right (Γ.sz e) this
              omega
            rw [if_neg hne]
            exact ⟨ad.add (i.toNat * Γ.sz e), rfl, by unfold Addr.add; split <;> exact r2, by rw [Addr.add_add]; exact r3⟩
    · exact (ps_fail.1 g1).elim
  · exact (ps_fail.1 hps).elim
end
end Go.Proofs.Ytlhknehkcflkgaa.Ab
