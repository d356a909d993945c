/- The call, whole. -/
import Derived.Test.YtlhknehkcflkgaaAbCall3
set_option autoImplicit false
set_option linter.unusedVariables false
set_option linter.unusedSimpArgs false
namespace Go.Proofs.Ytlhknehkcflkgaa.Ab
open Go

section
variable {Γ : Reg} {O : ORel Γ} {s : St Γ.α} {w0 : World} {Bp : Nat → Nat → Prop} {F0 : Nat → Prop} {nt : Nat} {a : Act} {w : World} {m : Places} {F : Nat → Prop}
variable {P : Program} {o : Oper} {K : Act → World → Prop} {Q : Exit → Act → World → Prop} {ws : List (Key × Option (Val Γ.α))} {sg : FuncId → Option Sig}

theorem leafs_ge {F' : Nat → Prop} {base : Nat} {fs : List Bool} {cs : List (Lf Γ.α)} {vals : List Value} {own : List Nat} (h : Leafs F' w base fs cs vals own) : ∀ b ∈ own, base ≤ b := by
  induction h with
  | nil => simp
  | own h hr t ih =>
    intro b hb
    rcases List.mem_append.1 hb with hb | hb
    · exact (h.lt b (by simp [sliceV] at hb ⊢; rw [hb]; rfl)).1
    · exact ih b hb
  | plain _ _ _ ih => exact ih
theorem res_ge {F' : Nat → Prop} {base : Nat} {rs : List (TypeId × List Bool)} {res : List (List (Lf Γ.α))} {vs : List Value} {own : List Nat} (h : ResRel F' w base rs res vs own) : ∀ b ∈ own, base ≤ b := by
  induction h with
  | nil => simp
  | cons _ _ hL _ ih =>
    intro b hb
    rcases List.mem_append.1 hb with hb | hb
    · exact leafs_ge hL b hb
    · exact ih b hb
theorem RCs.tup {avs : List (Bool × List (Lf Γ.α))} {us : List Value} (h : RCs m F w avs us) : RAV m F w (tupAV avs) (retV us) := by
  cases avs with
  | nil => cases us with
    | nil => exact ⟨[], rfl, trivial⟩
    | cons _ _ => exact h.elim
  | cons x avs =>
    obtain ⟨b, cs⟩ := x
    cases us with
    | nil => exact h.elim
    | cons u us =>
      cases avs with
      | nil => cases us with
        | nil => exact RC.mk h.1
        | cons _ _ => exact h.2.elim
      | cons y avs => cases us with
        | nil => exact h.2.elim
        | cons u' us => exact ⟨_, rfl, h⟩
/-- a row's block is no box's -/
theorem Rm.rowBox (hm : Rm Γ w0 Bp F0 nt s a w m F) {id id' b n n' cap sz : Nat} {e : TypeId} {xs : List (Γ.α e)} (hr : s.get (.row id) = some (.row e xs)) (h : m id = some (.row (some b) n cap sz)) (h' : m id' = some (.box b n')) : False := by
  have ho : Owns s m id' b := .inl ⟨n', h'⟩
  by_cases hmut : (s.get (.mut id)).isSome = true
  · have := hm.dist id id' b (.inr ⟨n, cap, sz, h, hmut⟩) ho
    subst this
    rw [h] at h'; cases h'
  · obtain ⟨o3, cap3, vals3, f1, _, _, f4⟩ := hm.row id e xs hr
    rw [h] at f1
    simp only [Option.some.injEq, Place.row.injEq] at f1
    exact (hm.ours id' b ho).1 (f4 (by cases hq : s.get (.mut id) with
      | none => rfl
      | some x => rw [hq] at hmut; simp at hmut) b f1.1.symm)
theorem get_mut {id : Nat} : ∀ {wz : List (Key × Option (Val Γ.α))} {s : St Γ.α}, id ∉ mutIds wz → (wr s wz).get (.mut id) = s.get (.mut id)
  | [], _, _ => rfl
  | (k, v) :: r, s, h => by
    have h2 : id ∉ mutIds r := fun hi => h (by cases k <;> simp [mutIds, hi])
    show (wr ((k, v) :: s) r).get _ = _
    rw [get_mut h2, St.get_cons, if_neg]
    rintro rfl
    exact h (by simp [mutIds])
theorem tk_drop {F : Nat → Prop} : ∀ (wi : List Nat) {s : St Γ.α}, Rm Γ w0 Bp F0 nt s a w m F → Rm Γ w0 Bp F0 nt (wr s (tkWs wi)) a w m F
  | [], _, h => h
  | id :: wi, s, h => tk_drop wi ((h.drop (k := .row id) (by simp) (by simp)).dropMut (fun e xs h => by rw [St.get_cons, if_pos rfl] at h; cases h))
theorem tk_get {k : Key} : ∀ (wi : List Nat) {s : St Γ.α}, (∀ id ∈ wi, k ≠ .row id ∧ k ≠ .mut id) → (wr s (tkWs wi)).get k = s.get k
  | [], _, _ => rfl
  | id :: wi, s, h => by
    simp only [tkWs, wr]
    rw [tk_get wi (fun i hi => h i (List.mem_cons_of_mem _ hi)), St.get_cons, if_neg (fun e => (h id List.mem_cons_self).2 e.symm), St.get_cons, if_neg (fun e => (h id List.mem_cons_self).1 e.symm)]
theorem tk_none {id : Nat} : ∀ (wi : List Nat) {s : St Γ.α}, id ∈ wi ∨ (s.get (.row id) = none ∧ s.get (.mut id) = none) → (wr s (tkWs wi)).get (.row id) = none ∧ (wr s (tkWs wi)).get (.mut id) = none
  | [], _, h => by rcases h with h | h; · cases h
                   · exact h
  | i :: wi, s, h => by
    simp only [tkWs, wr]
    refine tk_none wi ?_
    by_cases e : i = id
    · subst e; exact .inr ⟨by rw [St.get_cons, if_neg (by simp), St.get_cons, if_pos rfl], by rw [St.get_cons, if_pos rfl]⟩
    · rcases h with h | h
      · rcases List.mem_cons.1 h with h | h
        · exact absurd h.symm e
        · exact .inl h
      · exact .inr ⟨by rw [St.get_cons, if_neg (by simp), St.get_cons, if_neg (by simpa using e)]; exact h.1, by rw [St.get_cons, if_neg (by simpa using e), St.get_cons, if_neg (by simp)]; exact h.2⟩
theorem Tk.mem {s : St Γ.α} {wi wb : List Nat} (h : Tk s m wi wb) : ∀ b ∈ wb, ∃ id n cap sz, id ∈ wi ∧ m id = some (.row (some b) n cap sz) ∧ (s.get (.mut id)).isSome = true := by
  induction h with
  | nil => simp
  | @cons id wi own o n cap sz h hm _ ih =>
    intro b hb
    rcases List.mem_append.1 hb with hb | hb
    · cases o with
      | none => cases hb
      | some q =>
        simp at hb
        subst hb
        exact ⟨_, _, _, _, List.mem_cons_self, h, hm⟩
    · obtain ⟨id, n, cap, sz, h1, h2⟩ := ih b hb
      exact ⟨id, n, cap, sz, List.mem_cons_of_mem _ h1, h2⟩
theorem Tk.nodup {s : St Γ.α} (hd : ∀ id id' b, Owns s m id b → Owns s m id' b → id = id') {wi wb : List Nat} (h : Tk s m wi wb) (hn : wi.Nodup) : wb.Nodup := by
  induction h with
  | nil => exact .nil
  | @cons id wi own o n cap sz h hm ht ih =>
    rw [List.nodup_cons] at hn
    rw [List.nodup_append]
    refine ⟨by cases o <;> simp, ih hn.2, fun b hb b' hb' e => ?_⟩
    subst e
    cases o with
    | none => cases hb
    | some q =>
      simp at hb
      subst hb
      obtain ⟨id', n', cap', sz', h1, h2, h3⟩ := ht.mem _ hb'
      have := hd id id' _ (.inr ⟨_, _, _, h, hm⟩) (.inr ⟨_, _, _, h2, h3⟩)
      subst this
      exact hn.1 h1
theorem sim_call (hΓ : Γ.Ok P) (hO : ∀ f sg' args r, sg f = some sg' → O f args r → FnOk P f sg' args r) (hfun : ∀ f sg', sg f = some sg' → ∃ fn, P.funcs[f]? = some fn ∧ fn.name ≠ "runtime.NumGoroutine" ∧ fn.body.isSome = true)
    (c : Call) (f : FuncId) (hc : c.callee = .value (.func f)) (ho : o.op = .call c) (hm : Rm Γ w0 Bp F0 nt s a w m F) (hd : ∀ d, o.dst = some d → d < nt)
    (hps : PS O s (opProg Γ sg o) ws) (hK : ∀ a' w', R Γ w0 Bp F0 nt (wr s ws) a' w' → K a' w') : o.wp P a w K Q := by
  simp only [opProg, ho, hc] at hps
  obtain ⟨sg', h1, p1⟩ := ps_need.1 hps
  obtain ⟨vs, h2, p2⟩ := ps_opds.1 p1
  obtain ⟨fn, hfn, hname, hbody⟩ := hfun f sg' h1
  unfold callFn at p2
  · generalize hdd : o.dst = dd at p2
    obtain ⟨css, ids, wz0, F', bb, wb, wi, p3, hmz, hFF, hA, hB, hT, hkeys0⟩ := args_true hΓ hm (fun _ _ => rfl) p2 (opvs_rel hm h2)
    clear p2 hps
    simp only at p3
    obtain ⟨c1, p4⟩ := ps_bif p3
    simp only [Bool.and_eq_true] at c1
    obtain ⟨c1a, c1b, c1c, c1d, c1f⟩ := c1
    have hap := apartN_spec c1d
    -- what is frozen for good, and what for the time of the call
    obtain ⟨wz, F1, hwz, hm1, hF1, hlk, hkeys, hmk⟩ : ∃ (wz : List (Key × Option (Val Γ.α))) (F1 : Nat → Prop), (bif sg'.leaks then wz0 else []) = wz ∧ Rm Γ w0 Bp F0 nt (wr s wz) a w m F1 ∧ (∀ b, F1 b → F' b) ∧ (sg'.leaks = true → ∀ b, F' b → F1 b) ∧ (∀ key, (∀ id, key ≠ .mut id) → (wr s wz).get key = s.get key) ∧ ∀ id ∈ wi, (wr s wz).get (.mut id) = s.get (.mut id) := by
      cases hl : sg'.leaks with
      | true => exact ⟨wz0, F', rfl, hmz, fun _ x => x, fun _ _ x => x, hkeys0, fun id hi => get_mut (hap id hi)⟩
      | false => exact ⟨[], F, rfl, hm, hFF, by simp, fun _ _ => rfl, fun _ _ => rfl⟩
    rw [hwz] at p4
    have hbb : ∀ b ∈ bb, ¬ F' b := fun b hb => by
      obtain ⟨id, n, _, g⟩ := boxes_bb hB b hb
      exact (hmz.ours id b (.inl ⟨n, g⟩)).1
    generalize hFc : F' = F0c at hA hF1 hlk hbb
    have hF0c : ∀ b, F0c b → b < w.heap.size := by rw [← hFc]; exact hmz.f2
    obtain ⟨r0, hr, p5⟩ := ps_call.1 p4
    generalize hrm : mskRes sg'.rs sg'.ks r0 = r at p5
    obtain ⟨c2, p6⟩ := ps_bif p5
    obtain ⟨⟨avs, ws1, ids1, rest⟩, e1, p7⟩ := ps_need.1 p6
    obtain ⟨⟨bavs, ws2, ids2, rest2⟩, e2, p8⟩ := ps_need.1 p7
    simp only at p8
    obtain ⟨⟨ids3, ws3⟩, e3, p8'⟩ := ps_need.1 p8
    simp only at p8'
    obtain ⟨c3', p9⟩ := ps_bif p8'
    simp only [Bool.and_eq_true] at c3'
    obtain ⟨c3, c4⟩ := c3'
    obtain ⟨hfresh, p9'⟩ := ps_noAll p9
    obtain ⟨hfresh3, p10⟩ := ps_noAll p9'
    have hap3 := apartN_spec c4
    have hws := ps_done.1 p10
    subst hws
    have hids := nodupB_iff c1a
    have hids12 := nodupB_iff c3
    have hwi := nodupB_iff c1c
    -- the rows that go with the variables
    have hTk : ∀ b ∈ wb, ∃ id n cap sz, id ∈ wi ∧ m id = some (.row (some b) n cap sz) ∧ ((wr s wz).get (.mut id)).isSome = true := fun b hb => by
      obtain ⟨id, n, cap, sz, g1, g2, g3⟩ := hT.mem b hb
      exact ⟨id, n, cap, sz, g1, g2, by rw [hmk id g1]; exact g3⟩
    have hwbF : ∀ b ∈ wb, ¬ F1 b ∧ (w0.heap.size ≤ b ∨ BB Bp b) ∧ b < w.heap.size := fun b hb => by
      obtain ⟨id, n, cap, sz, _, g2, g3⟩ := hTk b hb
      exact hm1.ours id b (.inr ⟨n, cap, sz, g2, g3⟩)
    have hwbC : ∀ b ∈ wb, ¬ CB Bp b := fun b hb => by
      obtain ⟨id, n, cap, sz, _, g2, g3⟩ := hTk b hb
      exact hm1.rowCB g2 g3
    have hwbF0 : ∀ b ∈ wb, ¬ F0c b := fun b hb hf => by
      obtain ⟨id, n, cap, sz, g1, g2, g3⟩ := hT.mem b hb
      rw [← hFc] at hf
      exact (hmz.ours id b (.inr ⟨n, cap, sz, g2, by rw [get_mut (hap id g1)]; exact g3⟩)).1 hf
    have hwbn := hT.nodup hm.dist hwi
    have hbw : ∀ b ∈ bb, b ∉ wb := fun b hb hb' => by
      obtain ⟨id, n, _, g⟩ := boxes_bb hB b hb
      obtain ⟨id', n', cap, sz, _, g2, g3⟩ := hTk b hb'
      have := hm1.dist id id' b (.inl ⟨n, g⟩) (.inr ⟨n', cap, sz, g2, g3⟩)
      subst this
      rw [g] at g2; cases g2
    have hcall := hO f sg' css r0 h1 hr w F0c (c.args.toList.map a.eval) bb wb hF0c hA (List.nodup_append.2 ⟨boxes_nodup hm hB hids, hwbn, fun x hx y hy e => hbw x hx (e ▸ hy)⟩) (fun b hb => (List.mem_append.1 hb).elim (hbb b) (hwbF0 b))
    have hrun : (execOp a.eval o).run P w = .ok (.enter f (c.args.toList.map a.eval).toArray) w := by
      cases hb : fn.body with
      | none => rw [hb] at hbody; cases hbody
      | some bd =>
        simp [execOp, ho, resolve, hc, Deferred.ofValue, invoke, callFunc, program, Sem.run, hfn, hname, hb, Act.eval]
        rw [← Array.toList_inj]; simp
    unfold Oper.wp
    rw [hrun, Oper.upon_enter]
    refine hcall.mono fun e w' => ?_
    rintro ⟨F', us, us20, own, hret, hul, hfr, hF01, hF02, hF03, hond, honF, hres0, hbx0⟩
    obtain ⟨us2, hres, hbx⟩ := msk_res hΓ c1f hul hres0 hbx0
    rw [hrm] at hres
    have hch : Ch (fun b => b ∈ bb ++ wb) w w' := ⟨hfr.os, hfr.tape, hfr.output, hfr.size, hfr.block⟩
    -- the results, under what is frozen now
    let F2 : Nat → Prop := fun b => F1 b ∨ (F' b ∧ (w.heap.size ≤ b ∨ b ∈ wb))
    have hF2' : ∀ b, F2 b → F' b := fun b hb => by
      rcases hb with hb | hb
      · exact hF01 b (hF1 b hb)
      · exact hb.1
    have hres2 : ResRel F2 w' 0 (sg'.rs ++ sg'.bs) r (us ++ us2) own := by
      cases hl : sg'.leaks with
      | true => exact hres.mono (fun b hb => by
          rcases hF02 b hb with h | h
          · exact .inl (hlk hl b h)
          · exact .inr ⟨hb, h⟩)
      | false => exact noLeaks_rel hΓ hres (by rw [hl] at c2; simpa using c2)
    -- how the results fall in two
    have hsplit : ∀ {rs : List (TypeId × List Bool)} {us : List Value} {res : List (List (Lf Γ.α))} {own : List Nat} {avs : List (Bool × List (Lf Γ.α))} {wz : List (Key × Option (Val Γ.α))} {j : Nat} {ids : List Nat} {rest : List (List (Lf Γ.α))}, us.length = rs.length → ResRel F2 w' 0 (rs ++ sg'.bs) res (us ++ us2) own →
        resAVs Γ.ti (callBase dd) j rs res = some (avs, wz, ids, rest) → ∃ own2, ResRel F2 w' 0 sg'.bs rest us2 own2 := by
      intro rs
      induction rs with
      | nil =>
        intro us res own avs wz j ids rest hl hr h
        have : us = [] := List.eq_nil_of_length_eq_zero hl
        subst this
        simp [resAVs] at h
        obtain ⟨_, _, _, rfl⟩ := h
        exact ⟨own, hr⟩
      | cons x rs ih =>
        intro us res own avs wz j ids rest hl hr h
        obtain ⟨t, fs⟩ := x
        cases us with
        | nil => simp at hl
        | cons u us =>
          cases hr with
          | cons g1 gl gL gt =>
            unfold resAVs at h
            rw [g1] at h
            simp only at h
            split at h
            · rename_i hq
              simp only [Option.some.injEq, Prod.mk.injEq] at h
              obtain ⟨_, _, _, rfl⟩ := h
              exact ih (by simpa using hl) gt hq
            · cases h
    obtain ⟨own2, hres2b⟩ := hsplit hul hres2 e1
    obtain ⟨ns, hBL, hns⟩ := bl_of hΓ c1b hB hres2b hbx
    have hns' := hns.trans (res_lengths hres2b e2)
    -- nothing is told of the variables while the world turns
    let ks : List Key := (boxWs ids sg'.ks bavs).map (·.1)
    have hm1' := tk_drop wi hm1
    rw [← wr_append] at hm1'
    have hkeys' : ∀ key, (∀ id, key ≠ .mut id ∧ key ≠ .row id) → (wr s (wz ++ tkWs wi)).get key = s.get key := fun key hk => by
      rw [wr_append, tk_get wi (fun id _ => ⟨(hk id).2, (hk id).1⟩), hkeys key (fun id => (hk id).1)]
    have hmD := Rm.drops ks (wr s (wz ++ tkWs wi)) hm1' (boxWs_cell ids sg'.ks bavs)
    have hgetD : ∀ k, (wr (wr s (wz ++ tkWs wi)) (ks.map fun k => (k, none))).get k = if k ∈ ks then none else (wr s (wz ++ tkWs wi)).get k := get_drops ks (wr s (wz ++ tkWs wi))
    generalize hsD : wr (wr s (wz ++ tkWs wi)) (ks.map fun k => (k, none)) = sD at hmD hgetD
    have hnk : ∀ k, (∀ i j, k ≠ .cell i j) → sD.get k = (wr s (wz ++ tkWs wi)).get k := fun k hk => by
      rw [hgetD, if_neg]
      intro h
      obtain ⟨i, j, e⟩ := boxWs_cell ids sg'.ks bavs k h
      exact hk i j e
    -- nobody holds the rows that go any more
    have hOD : ∀ id b, Owns sD m id b → Owns (wr s wz) m id b ∧ (id ∈ wi → ∃ n, m id = some (.box b n)) := fun id b ho => by
      rcases ho with ho | ⟨n, cap, sz, ho, hmm⟩
      · exact ⟨.inl ho, fun _ => ho⟩
      · rw [hnk _ (by simp), wr_append] at hmm
        by_cases hi : id ∈ wi
        · rw [(tk_none wi (.inl hi)).2] at hmm; cases hmm
        · rw [tk_get wi (fun i h => ⟨by simp, fun e => by cases e; exact hi h⟩)] at hmm
          exact ⟨.inr ⟨n, cap, sz, ho, hmm⟩, fun h => absurd h hi⟩
    have hwbO : ∀ b ∈ wb, ∀ id, ¬ Owns sD m id b := fun b hb id ho => by
      obtain ⟨id', n', cap, sz, g1, g2, g3⟩ := hTk b hb
      obtain ⟨o1, o2⟩ := hOD id b ho
      have := hm1.dist id id' b o1 (.inr ⟨n', cap, sz, g2, g3⟩)
      subst this
      obtain ⟨n, hn⟩ := o2 g1
      rw [hn] at g2; cases g2
    have hmW := hmD.callW (X := fun b => b ∈ bb ++ wb) (N := fun b => F' b ∧ (w.heap.size ≤ b ∨ b ∈ wb)) (w' := w') hch
      (fun b hb => (List.mem_append.1 hb).elim (fun hb => by obtain ⟨id, n, _, g⟩ := boxes_bb hB b hb; exact (hm1.box id b n g).1) (fun hb => (hwbF b hb).2.1))
      (fun b hb hf => (List.mem_append.1 hb).elim (fun hb => hbb b hb (hF1 b hf)) (fun hb => (hwbF b hb).1 hf))
      (fun id b n hid hb => by
        rcases List.mem_append.1 hb with hb | hb
        · obtain ⟨id', n', C, t, g1, g2, g3, g4⟩ := bl_block hBL b hb
          have : id = id' := hm1.dist id id' b (.inl ⟨n, hid⟩) (.inl ⟨n', g2⟩)
          subst this
          rw [hid] at g2
          simp only [Option.some.injEq, Place.box.injEq, true_and] at g2
          subst g2
          refine ⟨fun off l hl => ?_, C, t, g3, g4⟩
          obtain ⟨b', n', kk, _, k2, k2a, _, k3⟩ := bl_keys (w := w) hBL hns' c1f id g1
          rw [hid] at k2
          simp only [Option.some.injEq, Place.box.injEq] at k2
          obtain ⟨rfl, rfl⟩ := k2
          rw [hgetD] at hl
          split at hl
          · cases hl
          · rename_i hnin
            obtain ⟨b2, n2, v, a1, a2, _⟩ := hm1'.cell id off l hl
            rw [hid] at a1
            simp only [Option.some.injEq, Place.box.injEq] at a1
            cases htb : tb kk off with
            | true => exact k2a off htb
            | false => exact absurd (k3 off (by omega) htb) hnin
        · exact absurd (.inl ⟨n, hid⟩) (hwbO b hb id))
      (fun id e xs b n cap sz hr' hid hb => by
        rcases List.mem_append.1 hb with hb | hb
        · obtain ⟨id', n', _, g⟩ := boxes_bb hB b hb
          exact hmD.rowBox hr' hid g
        · by_cases hmut : (sD.get (.mut id)).isSome = true
          · exact hwbO b hb id (.inr ⟨n, cap, sz, hid, hmut⟩)
          · obtain ⟨o3, cap3, vals3, f1, _, _, f4⟩ := hmD.row id e xs hr'
            rw [hid] at f1
            simp only [Option.some.injEq, Place.row.injEq] at f1
            exact (hwbF b hb).1 (f4 (by cases hq : sD.get (.mut id) with
              | none => rfl
              | some x => rw [hq] at hmut; simp at hmut) b f1.1.symm))
      (fun b hb => ⟨hb.2.imp id fun h => ⟨List.mem_append_right _ h, hwbO b h⟩, hF03 b hb.1⟩)
      (fun b hb id off hbp hcb => by
        rcases List.mem_append.1 hb with hb | hb
        · obtain ⟨id', n', g1', g2⟩ := boxes_bb hB b hb
          obtain ⟨b', n2, kk, hb', k2, k2a, k2b, _⟩ := bl_keys (w := w) hBL hns' c1f id' g1'
          rw [g2] at k2
          simp only [Option.some.injEq, Place.box.injEq] at k2
          obtain ⟨rfl, rfl⟩ := k2
          obtain ⟨e1, _⟩ := hm1.cst.2.1 id' b (.inl ⟨n', g2⟩) ⟨id, off, hbp, hcb⟩
          have := hm1.cst.1 _ _ _ hbp e1
          subst this
          exact k2a off (k2b off hcb)
        · exact absurd ⟨id, off, hbp, hcb⟩ (hwbC b hb))
    have hOge : ∀ id b, Owns sD m id b → b < w.heap.size := fun id b hb => (hmD.ours id b hb).2.2
    have hownB : ∀ b ∈ own, (w0.heap.size ≤ b ∨ BB Bp b) ∧ (∀ id, ¬ Owns sD m id b) ∧ ¬ CB Bp b := fun b hb => by
      rcases (honF b hb).2 with h | h
      · exact ⟨.inl (Nat.le_trans hm.fr.size h), fun id hi => by have := hOge id b hi; omega, hm.freshCB (Nat.le_trans hm.fr.size h)⟩
      · exact ⟨(hwbF b h).2.1, hwbO b h, hwbC b h⟩
    have hfr0 : ∀ id, sD.get (.used id) = s.get (.used id) := fun id => by rw [hnk _ (by simp), hkeys' _ (by simp)]
    rw [List.nodup_append] at hids12
    obtain ⟨m1, vs1, vs2, own1, own2', x1, x2, x3, x4, x5, x6, x7, x8, x9, x10⟩ := res_sim hΓ hres2 hmW hond
      (fun b hb => ⟨fun hf => (honF b hb).1 (hF2' b hf), hownB b hb⟩) e1
      (fun id hi => by rw [hfr0]; exact hfresh id (List.mem_append_left _ hi)) hids12.1
    have hvs : us = vs1 ∧ us2 = vs2 := List.append_inj x1 (by rw [hul, x3])
    obtain ⟨rfl, rfl⟩ := hvs
    rw [x2, List.nodup_append] at hond
    have x4' : ResRel F2 w' 0 (sg'.bs ++ []) rest us2 own2' := by rw [List.append_nil]; exact x4
    obtain ⟨m2, vs3, vs4, own3, own4, y1, y2, y3, y4, y5, y6, y7, y8, y9, y10⟩ := res_sim hΓ x4' x5 hond.2.1
      (fun b hb => by
        have hb' : b ∈ own := by rw [x2]; exact List.mem_append_right _ hb
        refine ⟨fun hf => (honF b hb').1 (hF2' b hf), (hownB b hb').1, fun id hi => ?_, (hownB b hb').2.2⟩
        rcases x8 id b hi with h | h
        · exact (hownB b hb').2.1 id h
        · exact hond.2.2 b h b hb rfl) e2
      (fun id hi => by
        rw [x9 id (fun h => hids12.2.2 id h id hi rfl), hfr0]
        exact hfresh id (List.mem_append_right _ hi)) hids12.2.1
    have hvs4 : vs4 = [] := by cases y4; rfl
    subst hvs4
    rw [List.append_nil] at y1
    subst y1
    have hmB := boxWs_sim hBL (fun id p hp => y6 _ _ (x6 _ _ hp)) y7 y5
    have x7' := x7.mono (m' := m2) (F' := F2) (w' := w') y6 (fun _ x => x) (fun _ _ => rfl)
    have hend : ∀ (a' : Act) (m3 : Places), Rm Γ w0 Bp F0 nt (wr (wr (wr (wr sD ws1) ws2) (boxWs ids sg'.ks bavs)) ws3) a' w' m3 F2 → R Γ w0 Bp F0 nt (wr s ((wz ++ tkWs wi) ++ (ws1 ++ (ws2 ++ (boxWs ids sg'.ks bavs ++ ws3))))) a' w' := fun a' m3 hmT => by
      refine ⟨m3, F2, hmT.congr fun k => ?_⟩
      have e3 : wr (wr (wr (wr sD ws1) ws2) (boxWs ids sg'.ks bavs)) ws3 = wr sD (ws1 ++ (ws2 ++ (boxWs ids sg'.ks bavs ++ ws3))) := by
        simp only [wr_append]
      rw [e3, wr_append]
      apply get_wr_mem
      rw [hgetD]
      by_cases hk : k ∈ ks
      · exact .inl (by simp only [List.map_append, List.mem_append]; exact .inr (.inr (.inl hk)))
      · exact .inr (by rw [if_neg hk])
    cases hnw : sg'.nw with
    | false =>
      rw [hnw] at hret e3
      have hret : e = .returned (retV us) := hret
      subst hret
      show K (a.put o.dst (retV us)) w'
      rw [hdd]
      cases dd with
      | none =>
        simp only [finWs, Option.some.injEq, Prod.mk.injEq] at e3
        obtain ⟨rfl, rfl⟩ := e3
        exact hK _ _ (hend _ _ hmB)
      | some d =>
        simp only [finWs, Option.some.injEq, Prod.mk.injEq] at e3
        obtain ⟨rfl, rfl⟩ := e3
        exact hK _ _ (hend _ _ (hmB.put (d := d) (hd d hdd) x7'.tup))
    | true =>
      rw [hnw] at hret e3
      obtain ⟨b, v, ty, rfl, rfl, hb1, hb2, hb3, hb4⟩ := (show ∃ b v ty, us = [v] ∧ e = .returned (.pointer (some ⟨b, 0, none⟩)) ∧ w'.heap[b]? = some (.cells v.cells ty (0, 0)) ∧ w.heap.size ≤ b ∧ ¬ F' b ∧ b ∉ own from hret)
      show K (a.put o.dst (.pointer (some ⟨b, 0, none⟩))) w'
      rw [hdd]
      unfold finWs at e3
      split at e3
      · cases ‹true = false›
      · cases ‹true = false›
      · rename_i d ag cs _
        simp only [Option.some.injEq, Prod.mk.injEq] at e3
        obtain ⟨rfl, rfl⟩ := e3
        have hcs : RLs m2 F2 w' cs v.cells.toList := by
          have := x7'.1
          exact this.cells
        have hdu : (wr (wr (wr sD ws1) ws2) (boxWs ids sg'.ks bavs)).get (.used d) = none := by
          have h1 : (wr (wr (wr sD ws1) ws2) (boxWs ids sg'.ks bavs)).get (.used d) = (wr (wr sD ws1) ws2).get (.used d) := by
            apply wr_get_not
            intro hk
            obtain ⟨i, j, e⟩ := boxWs_cell ids sg'.ks bavs _ hk
            cases e
          have hd12 := hap3 d (by simp)
          rw [h1, y9 d (fun h => hd12 (List.mem_append_right _ h)), x9 d (fun h => hd12 (List.mem_append_left _ h)), hfr0]
          exact (hfresh3 d (by simp)).1
        have hOB : ∀ id, ¬ Owns (wr (wr (wr sD ws1) ws2) (boxWs ids sg'.ks bavs)) m2 id b := fun id ho => by
          have ho' : Owns (wr (wr sD ws1) ws2) m2 id b := by
            rcases ho with ho | ⟨n, cap, sz, ho, hmm⟩
            · exact .inl ho
            · refine .inr ⟨n, cap, sz, ho, ?_⟩
              rwa [wr_get_not _ _ (fun hk => by obtain ⟨i, j, e⟩ := boxWs_cell ids sg'.ks bavs _ hk; cases e)] at hmm
          rcases y8 id b ho' with h | h
          · rcases x8 id b h with h | h
            · have := hOge id b h; omega
            · exact hb4 (by rw [x2]; exact List.mem_append_left _ h)
          · exact hb4 (by rw [x2, y2]; exact List.mem_append_right _ (List.mem_append_left _ h))
        have hcl : cs.length = v.cells.size := by have := hcs.1; simpa using this
        have hm4 := hmB.name (hq := fun _ _ _ _ h => by cases h) (d := d) (k := cs.length) (p := .box b cs.length) hdu (hfresh3 d (by simp)).2 (fun b' n hp => by
          cases hp
          exact ⟨rfl, fun hf => hb3 (hF2' b hf), .inl (Nat.le_trans hm.fr.size hb2), ⟨_, _, hb1, hcl.symm⟩, hOB⟩) (fun b' n hp => by cases hp; exact hm.freshCB (Nat.le_trans hm.fr.size hb2))
        have hmono := setPl_mono (p := .box b cs.length) (hmB.free d hdu)
        have hm5 := Rm.cells (setPl_same m2 d (.box b cs.length)) cs v.cells.toList 0 _ hm4 (by omega) (fun k u hk => by
          simp only [World.cell?, hb1]; simpa using hk) (hcs.mono hmono (fun _ x => x) (fun _ _ => rfl))
        have hm6 := hm5.put (d := d) (v := .one (.ptr d 0)) (u := .pointer (some ⟨b, 0, none⟩)) (hd d hdd) (RLf.ptr d 0 b _ (setPl_same _ _ _))
        refine hK _ _ (hend _ (setPl m2 d (.box b cs.length)) ?_)
        simpa only [wr, wr_append] using hm6
      · cases e3
end
end Go.Proofs.Ytlhknehkcflkgaa.Ab
