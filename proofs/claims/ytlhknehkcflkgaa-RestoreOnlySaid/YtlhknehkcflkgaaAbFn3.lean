/- A function: its results, all of them. -/
import Derived.Test.YtlhknehkcflkgaaAbFn2
set_option autoImplicit false
set_option linter.unusedVariables false
set_option linter.unusedSimpArgs false
namespace Go.Proofs.Ytlhknehkcflkgaa.Ab
open Go

section
variable {Γ : Reg} {w0 : World} {Bp : Nat → Nat → Prop} {F0 : Nat → Prop} {nt : Nat} {P : Program} {s : St Γ.α} {a : Act} {w : World} {m : Places} {F F' : Nat → Prop}

theorem unpkAll_cons {t : TypeId} {fs : List Bool} {rs : List (TypeId × List Bool)} {cs : List (Lf Γ.α)} {css : List (List (Lf Γ.α))} {y : resTy Γ ((t, fs) :: rs)} {o f : List Nat} (h : unpkAll Γ s ((t, fs) :: rs) (cs :: css) = some (y, o, f)) :
    ∃ (x1 : Γ.α t) (o1 f1 : List Nat) (y2 : resTy Γ rs) (o2 f2 : List Nat), unpk1 Γ s t fs cs = some (x1, o1, f1) ∧ unpkAll Γ s rs css = some (y2, o2, f2) ∧ o = o1 ++ o2 ∧ f = f1 ++ f2 ∧ pkRes Γ ((t, fs) :: rs) y = Γ.pk t x1 :: pkRes Γ rs y2 := by
  cases rs with
  | nil =>
    cases css with
    | nil => exact ⟨y, o, f, (), [], [], h, rfl, (List.append_nil _).symm, (List.append_nil _).symm, rfl⟩
    | cons _ _ => exact absurd (show (none : Option (resTy Γ [(t, fs)] × List Nat × List Nat)) = some (y, o, f) from h) (by simp)
  | cons r2 r =>
    have h : opt3 (unpk1 Γ s t fs cs) (unpkAll Γ s (r2 :: r) css) = some (y, o, f) := h
    cases h1 : unpk1 Γ s t fs cs with
    | none => rw [h1] at h; cases h
    | some x1 =>
      cases h2 : unpkAll Γ s (r2 :: r) css with
      | none => rw [h1, h2] at h; cases h
      | some x2 =>
        obtain ⟨x1, o1, f1⟩ := x1
        obtain ⟨x2, o2, f2⟩ := x2
        rw [h1, h2] at h
        have h := Option.some.inj h
        have e1 := congrArg Prod.fst h
        have e2 := congrArg (fun z => z.2.1) h
        have e3 := congrArg (fun z => z.2.2) h
        simp only at e1 e2 e3
        subst e1
        exact ⟨x1, o1, f1, x2, o2, f2, rfl, rfl, e2.symm, e3.symm, rfl⟩
/-- leaves and values of results, of their types -/
inductive VR (m : Places) (F : Nat → Prop) (w : World) : List (TypeId × List Bool) → List (List (Lf Γ.α)) → List Value → Prop where
  | nil : VR m F w [] [] []
  | cons {t ti fs rs cs css vals vs} (h : Γ.ti t = some ti) (hr : RLs m F w cs vals) (t' : VR m F w rs css vs) : VR m F w ((t, fs) :: rs) (cs :: css) (valOf ti.agg vals :: vs)
theorem VR.append {rs rs' : List (TypeId × List Bool)} {css css' : List (List (Lf Γ.α))} {vs vs' : List Value} (h : VR m F w rs css vs) (h' : VR m F w rs' css' vs') : VR m F w (rs ++ rs') (css ++ css') (vs ++ vs') := by
  induction h with
  | nil => exact h'
  | cons h hr _ ih => exact .cons h hr ih
theorem resrel_of (hΓ : Γ.Ok P) (hm : Rm Γ w0 Bp F0 nt s a w m F) (hF : ∀ b, F b → F' b) : ∀ {rs : List (TypeId × List Bool)} {css : List (List (Lf Γ.α))} {vs : List Value} {y : resTy Γ rs} {o f : List Nat}, unpkAll Γ s rs css = some (y, o, f) → VR m F w rs css vs →
    (∀ id ∈ f, (∃ e xs, s.get (.row id) = some (.row e xs)) → ∀ b n cap sz, m id = some (.row (some b) n cap sz) → F' b) → o.Nodup → ∃ own, ResRel F' w 0 rs (pkRes Γ rs y) vs own ∧ (∀ b ∈ own, OwnOf s m o b) ∧ own.Nodup := by
  intro rs
  induction rs with
  | nil =>
    intro css vs y o f h hv hf hn
    cases hv
    exact ⟨[], .nil, by simp, by simp⟩
  | cons r rs ih =>
    intro css vs y o f h hv hf hn
    obtain ⟨t, fs⟩ := r
    cases hv with
    | cons hti hr ht =>
      rename_i ti cs css vals vs
      obtain ⟨x1, o1, f1, y2, o2, f2, h1, h2, rfl, rfl, h5⟩ := unpkAll_cons h
      rw [List.nodup_append] at hn
      obtain ⟨own2, q1, q2, q3⟩ := ih h2 ht (fun id hid => hf id (List.mem_append_right _ hid)) hn.2.1
      unfold unpk1 at h1
      split at h1
      · rename_i cs' o1' f1' hl
        split at h1
        · rename_i x hx
          cases h1
          obtain ⟨u1, u2⟩ := hΓ.unpk t cs' x1 hx
          obtain ⟨own1, p1, p2, p3⟩ := res_leafs hΓ hm hF hl hr u1 u2 (hΓ.plain t x1) (fun id hid => hf id (List.mem_append_left _ hid)) hn.1
          rw [h5]
          refine ⟨own1 ++ own2, .cons hti ?_ p1 q1, fun b hb => ?_, ?_⟩
          · rw [← p1.length, hΓ.len, sz_ti hti]
          · rcases List.mem_append.1 hb with hb | hb
            · obtain ⟨src, r1, r2⟩ := p2 b hb; exact ⟨src, List.mem_append_left _ r1, r2⟩
            · obtain ⟨src, r1, r2⟩ := q2 b hb; exact ⟨src, List.mem_append_right _ r1, r2⟩
          · rw [List.nodup_append]
            refine ⟨p3, q3, fun b hb b' hb' e => ?_⟩
            subst e
            obtain ⟨s1, a1, a2, _, _, _, a3⟩ := p2 b hb
            obtain ⟨s2, b1, b2, _, _, _, b3⟩ := q2 b hb'
            have := hm.dist s1 s2 b (.inr ⟨_, _, _, a3, a2⟩) (.inr ⟨_, _, _, b3, b2⟩)
            exact hn.2.2 s1 a1 s2 b1 this
        · cases h1
      · cases h1
theorem cellsAs_val {agg : Bool} {v : AV Γ.α} {cs : List (Lf Γ.α)} {u : Value} (h : v.cellsAs agg = some cs) (hr : RAV m F w v u) : u = valOf agg u.cells.toList := by
  unfold AV.cellsAs at h
  split at h
  · cases agg with
    | true => cases h
    | false => rw [RLf.cells hr]; rfl
  · cases agg with
    | false => cases h
    | true => obtain ⟨vs, rfl, _⟩ := hr; simp [valOf, Value.cells]
  · cases h
theorem cellsOf_rel (hm : Rm Γ w0 Bp F0 nt s a w m F) {id b n : Nat} (hid : m id = some (.box b n)) : ∀ {k off : Nat} {cs : List (Lf Γ.α)}, cellsOf s id off k = some cs → cs.length = k ∧ ∃ vals : List Value, RLs m F w cs vals ∧ ∀ (j : Nat) u, vals[j]? = some u → w.cell? ⟨b, off + j, none⟩ = some u
  | 0, off, cs, h => by
    have : cs = [] := by simpa [cellsOf] using h.symm
    subst this
    exact ⟨rfl, [], .nil, by simp⟩
  | k + 1, off, cs, h => by
    unfold cellsOf at h
    split at h
    · rename_i l ls h1 h2
      cases h
      obtain ⟨e1, vals, e2, e3⟩ := cellsOf_rel hm hid h2
      obtain ⟨b', n', v, g1, g2, g3, g4⟩ := hm.cell id off l h1
      rw [hid] at g1
      cases g1
      refine ⟨by simp [e1], v :: vals, .cons g4 e2, fun j u hj => ?_⟩
      cases j with
      | zero => simp at hj; subst hj; exact g3
      | succ j =>
        have := e3 j u (by simpa using hj)
        rwa [show off + 1 + j = off + (j + 1) by omega] at this
    · cases h
/-- what stands in the results' places -/
theorem res_run (hΓ : Γ.Ok P) (hm : Rm Γ w0 Bp F0 nt s a w m F) : ∀ {rvs : List ResultVar} {rs : List (TypeId × List Bool)} {css : List (List (Lf Γ.α))}, resCells s Γ.ti rvs rs = some css →
    ∃ us, VR m F w rs css us ∧ us.length = rs.length ∧ (rvs.mapM (fun r => match r with | .tmp t => pure (a.tmps.getD t undef) | .cell c t => do loadVar t (← asAddr (a.tmps.getD c undef)) : ResultVar → Sem Value)).run P w = .ok us w
  | [], rs, css, h => by
    cases rs with
    | nil => simp [resCells] at h; subst h; exact ⟨[], .nil, rfl, by simp⟩
    | cons _ _ => simp [resCells] at h
  | rv :: rvs, rs, css, h => by
    cases rs with
    | nil => simp [resCells] at h
    | cons r rs =>
      obtain ⟨t, fs⟩ := r
      unfold resCells at h
      split at h
      · cases h
      · rename_i ti hti
        split at h
        · rename_i cs css2 h1 h2
          cases h
          obtain ⟨us, g1, g2, g3⟩ := res_run hΓ hm h2
          have htok := hΓ.ti t ti hti
          cases rv with
          | tmp x =>
            simp only [resCell] at h1
            split at h1
            · rename_i v hv
              have hr := hm.tmp x v hv
              obtain ⟨c1, _⟩ := cellsAs_rel h1 hr
              have hval := cellsAs_val h1 hr
              refine ⟨a.tmps.getD x undef :: us, ?_, by simp [g2], by simp only [List.mapM_cons, Sem.run_bind, Sem.run_pure, Result.andThen_ok, g3]⟩
              rw [hval]
              exact .cons hti c1 g1
            · cases h1
          | cell c ty =>
            simp only [resCell] at h1
            cases hb : Nat.beq ty t with
            | false => rw [hb] at h1; cases h1
            | true =>
              rw [hb, cond_true] at h1
              have := Nat.eq_of_beq_eq_true hb
              subst this
              split at h1
              · rename_i id off hv
                have hr := hm.tmp c _ hv
                generalize hU : a.tmps.getD c undef = U at hr
                cases hr with
                | ptr _ _ b n hid =>
                  obtain ⟨e1, vals, e2, e3⟩ := cellsOf_rel hm hid h1
                  have hld := loadVar_run (P := P) htok w ⟨b, off, none⟩ vals (by rw [← e2.1, e1]) (fun k u hk => by rw [add_lit]; exact e3 k u hk)
                  refine ⟨valOf ti.agg vals :: us, .cons hti e2 g1, by simp [g2], ?_⟩
                  have hla : (do loadVar ty (← asAddr (a.tmps.getD c undef)) : Sem Value).run P w = .ok (valOf ti.agg vals) w := by
                    rw [hU]; simp [asAddr, hld]
                  rw [List.mapM_cons, Sem.run_bind]
                  refine (congrArg (fun z => Result.andThen z _) hla).trans ?_
                  simp only [Sem.run_bind, Sem.run_pure, Result.andThen_ok, g3]
              · cases h1
        · cases h
end
end Go.Proofs.Ytlhknehkcflkgaa.Ab
