/- Operations, further: conversions, places, lengths, slices, structs built. -/
import Derived.Test.YtlhknehkcflkgaaAbOps2
set_option autoImplicit false
set_option linter.unusedVariables false
set_option linter.unusedSimpArgs false
namespace Go.Proofs.Ytlhknehkcflkgaa.Ab
open Go

section
variable {Γ : Reg} {O : ORel Γ} {s : St Γ.α} {w0 : World} {Bp : Nat → Nat → Prop} {F0 : Nat → Prop} {nt : Nat} {a : Act} {w : World} {m : Places} {F : Nat → Prop}
variable {P : Program} {o : Oper} {K : Act → World → Prop} {Q : Exit → Act → World → Prop} {ws : List (Key × Option (Val Γ.α))} {sg : FuncId → Option Sig}

theorem sim_convert (hΓ : Γ.Ok P) (t t' : TypeId) (x : Operand) (ho : o.op = .convert t t' x) (hm : Rm Γ w0 Bp F0 nt s a w m F) (hd : ∀ d, o.dst = some d → d < nt)
    (hps : PS O s (opProg Γ sg o) ws) (hK : ∀ a' w', R Γ w0 Bp F0 nt (wr s ws) a' w' → K a' w') : o.wp P a w K Q := by
  simp only [opProg, ho] at hps
  obtain ⟨si, h1, h2⟩ := ps_need.1 hps
  obtain ⟨di, h3, h4⟩ := ps_need.1 h2
  obtain ⟨v, h5, h6⟩ := ps_opd.1 h4
  have hr := hm.opv h5
  split at h6
  · generalize hev : a.eval x = u at hr
    cases hr
    split at h6
    · rename_i k hsh
      have hu := (hΓ.ti t' di h3).sh
      rw [hsh] at hu
      have hs := (hΓ.ti t si h1).sh
      have hus : ∃ d, P.underlying t = some d := by
        cases hq : si.sh <;> rw [hq] at hs <;> first | exact ⟨_, hs⟩ | (obtain ⟨f, hf, _⟩ := hs; exact ⟨_, hf⟩) | exact hs.elim
      obtain ⟨d, hus⟩ := hus
      refine wp_val (u := .int _ _) (w' := w) ?_ (out_sim hm hd h6 (RLf.int _ _) hK)
      simp [execOp, ho, hev, convert, run_underlying hus, run_underlying (show P.underlying t' = _ from hu), Conv.intToInt]
    · exact (ps_fail.1 h6).elim
  · exact (ps_fail.1 h6).elim
theorem slElem_ok (hΓ : Γ.Ok P) {t e : TypeId} (h : slElem Γ t = some e) : P.underlying t = some (.slice e) := by
  unfold slElem at h
  split at h
  · rename_i z hti
    cases h
    exact (hΓ.ti t _ hti).sh
  · cases h
theorem sz_ti {e : TypeId} {ti : TI} (h : Γ.ti e = some ti) : Γ.sz e = ti.size := by simp [Reg.sz, h]
theorem sim_indexAddr (hΓ : Γ.Ok P) (t : TypeId) (x i : Operand) (ho : o.op = .indexAddr t x i) (hm : Rm Γ w0 Bp F0 nt s a w m F) (hd : ∀ d, o.dst = some d → d < nt)
    (hps : PS O s (opProg Γ sg o) ws) (hK : ∀ a' w', R Γ w0 Bp F0 nt (wr s ws) a' w' → K a' w') : o.wp P a w K Q := by
  simp only [opProg, ho] at hps
  obtain ⟨e, h1, h2⟩ := ps_need.1 hps
  obtain ⟨ti, h2a, h2⟩ := ps_need.1 h2
  have hu := slElem_ok hΓ h1
  have hti := hΓ.ti e ti h2a
  obtain ⟨v, h3, h4⟩ := ps_opd.1 h2
  have hr := hm.opv h3
  have run : ∀ (A : Addr) (n c : Nat) (k : IntKind) (j : Int), 0 ≤ j → j < n → (Instr.indexAt t (.slice (some A) n c) (.int k j)).run P w = .ok (.pointer (some (A.add (j.toNat * Γ.sz e)))) w := by
    intro A n c k j hj0 hj1
    simp [Instr.indexAt, run_underlying hu, asIntOf, hj0, hj1, sizeOf_run hti, sz_ti h2a]
  split at h4
  · rename_i e' xs
    split at h4
    · rename_i he
      subst he
      obtain ⟨vi, h5, h6⟩ := ps_opd.1 h4
      obtain ⟨n, h7, h8⟩ := ps_need.1 h6
      obtain ⟨h9, h8⟩ := ps_ck.1 h8
      obtain ⟨h10, h8⟩ := ps_ck.1 h8
      have h9 := of_decide_eq_true h9
      have h10 := of_decide_eq_true h10
      obtain ⟨k, hi⟩ := intval h7 (hm.opv h5)
      generalize hev : a.eval x = u at hr
      cases hr with
      | sl _ _ A c vals hl hc hcell hrel =>
        have hsz : 0 < Γ.sz e' := by rw [sz_ti h2a]; exact hti.pos
        have hne : ∃ ad, A = some ad ∧ F ad.block := by
          have : 0 < vals.length := by rw [hl]; exact Nat.mul_pos (by omega) hsz
          obtain ⟨ad, g1, g2, _⟩ := hcell 0 vals[0] (List.getElem?_eq_getElem this)
          exact ⟨ad, g1, g2⟩
        obtain ⟨ad, rfl, hF⟩ := hne
        refine wp_val (u := .pointer (some (ad.add (n.toNat * Γ.sz e')))) (w' := w) ?_ (out_sim hm hd h8 ?_ hK)
        · simp [execOp, ho, hev, hi, run ad xs.length c k n h9 h10]
        · exact RLf.fptr e' xs n.toNat 0 ad vals hl (by omega) hF (fun k u hk => by obtain ⟨ad', g1, _, g3⟩ := hcell k u hk; cases g1; exact g3) hrel
    · exact (ps_fail.1 h4).elim
  · rename_i id
    obtain ⟨rv, g1, g2⟩ := ps_rd.1 h4
    split at g2
    · rename_i e' xs
      obtain ⟨he, g3⟩ := ps_bif g2
      have he := Nat.eq_of_beq_eq_true he
      subst he
      obtain ⟨vi, h5, h6⟩ := ps_opd.1 g3
      obtain ⟨n, h7, h8⟩ := ps_need.1 h6
      obtain ⟨h9, h8⟩ := ps_ck.1 h8
      obtain ⟨h10, h8⟩ := ps_ck.1 h8
      have h9 := of_decide_eq_true h9
      have h10 := of_decide_eq_true h10
      obtain ⟨k, hi⟩ := intval h7 (hm.opv h5)
      generalize hev : a.eval x = u at hr
      cases hr with
      | own _ o' n' cap sz h =>
        obtain ⟨o2, cap2, vals, e1, e2, e3, _⟩ := hm.row id e' xs g1
        rw [h] at e1
        simp only [Option.some.injEq, Place.row.injEq] at e1
        obtain ⟨rfl, rfl, rfl, rfl⟩ := e1
        cases o' with
        | none =>
          rcases e2.2 with ⟨_, q⟩ | ⟨g, _, _, hv, _⟩
          · omega
          · simp [sliceV] at hv
        | some b =>
          refine wp_val (u := .pointer (some (⟨b, n.toNat * Γ.sz e' + 0, none⟩))) (w' := w) ?_ (out_sim hm hd h8 ?_ hK)
          · simp [execOp, ho, hev, hi, run ⟨b, 0, none⟩ xs.length cap k n h9 h10, add_lit]
          · exact RLf.eptr id n.toNat 0 b _ _ _ h (by omega)
    · exact (ps_fail.1 g2).elim
  · exact (ps_fail.1 h4).elim
theorem All2.one {β γ : Type} {p : β → γ → Prop} {xs : List β} {y : γ} (h : All2 p xs [y]) : ∃ x, xs = [x] ∧ p x y := by
  cases h with
  | cons h t => cases t; exact ⟨_, rfl, h⟩
theorem All2.inv {β γ : Type} {p : β → γ → Prop} {xs : List β} {y : γ} {ys : List γ} (h : All2 p xs (y :: ys)) : ∃ x xs', xs = x :: xs' ∧ p x y ∧ All2 p xs' ys := by
  cases h with
  | cons h t => exact ⟨_, _, rfl, h, t⟩
theorem sim_len (hΓ : Γ.Ok P) (c : Call) (hc : c.callee = .builtin .len) (ho : o.op = .call c) (hm : Rm Γ w0 Bp F0 nt s a w m F) (hd : ∀ d, o.dst = some d → d < nt)
    (hps : PS O s (opProg Γ sg o) ws) (hK : ∀ a' w', R Γ w0 Bp F0 nt (wr s ws) a' w' → K a' w') : o.wp P a w K Q := by
  simp only [opProg, ho, hc] at hps
  obtain ⟨e, h1, h2⟩ := ps_need.1 hps
  obtain ⟨vs, h3, h4⟩ := ps_opds.1 h2
  have ht : ∃ t, c.argTypes[0]? = some t ∧ P.underlying t = some (.slice e) := by
    cases hq : c.argTypes[0]? with
    | none => rw [hq] at h1; cases h1
    | some t => rw [hq] at h1; exact ⟨t, rfl, slElem_ok hΓ h1⟩
  obtain ⟨t, ht1, ht2⟩ := ht
  have fin : ∀ (x : Operand) (A : Option Addr) (n cp : Nat), c.args.toList = [x] → a.eval x = .slice A n cp → PS O s (out o.dst (.one (.int .i64 n))) ws → o.wp P a w K Q := by
    intro x A n cp hx hev hp
    have hx' : c.args = #[x] := by rw [← Array.toList_inj]; simpa using hx
    refine wp_val (u := .int .i64 n) (w' := w) ?_ (out_sim hm hd hp (RLf.int _ _) hK)
    simp [execOp, ho, hc, resolve, invoke, builtin, hx', hev, Builtin.len_, ht1, run_underlying ht2, goInt]
  split at h4
  · obtain ⟨x, hx, hv⟩ := h3.one
    have hr := hm.opv hv
    generalize hev : a.eval x = u at hr
    cases hr
    exact fin x _ _ _ hx hev h4
  · rename_i e' xs
    obtain ⟨x, hx, hv⟩ := h3.one
    have hr := hm.opv hv
    generalize hev : a.eval x = u at hr
    cases hr
    exact fin x _ _ _ hx hev h4
  · rename_i id
    obtain ⟨x, hx, hv⟩ := h3.one
    have hr := hm.opv hv
    obtain ⟨rv, g1, g2⟩ := ps_rd.1 h4
    split at g2
    · rename_i e' xs
      obtain ⟨o2, cap2, vals, e1, _⟩ := hm.row id e' xs g1
      generalize hev : a.eval x = u at hr
      cases hr with
      | own _ o' n' cap sz h =>
        rw [h] at e1
        simp only [Option.some.injEq, Place.row.injEq] at e1
        obtain ⟨rfl, rfl, rfl, rfl⟩ := e1
        exact fin x _ _ _ hx hev g2
    · obtain ⟨rv2, g3, g4⟩ := ps_rd.1 g2
      split at g4
      · rename_i n
        obtain ⟨p, p1, _, p3⟩ := hm.used id _ g3
        generalize hev : a.eval x = u at hr
        cases hr with
        | own _ o' n' cap sz h =>
          rw [h] at p1
          cases p1
          have h0 := p3 _ _ _ _ rfl
          subst h0
          exact fin x _ _ _ hx hev g4
      · exact (ps_fail.1 g4).elim
    · exact (ps_fail.1 g2).elim
  · exact (ps_fail.1 h4).elim
theorem mm_run (f : Int → Int → Int) (g : Value → Value → Sem Value) (k : IntKind) (hg : ∀ p j q (w : World), (g (.int k p) (.int j q)).run P w = .ok (.int k (f p q)) w) :
    ∀ (vs : List (AV Γ.α)) (us : List Value) (p n : Int), All2 (fun (u : Value) v => RAV m F w v u) us vs → foldMM f k p vs = some n → (us.foldlM g (.int k p)).run P w = .ok (.int k n) w
  | [], us, p, n, h, hf => by cases h; simp [foldMM] at hf; subst hf; simp
  | v :: vs, us, p, n, h, hf => by
    obtain ⟨u, us', rfl, h1, h2⟩ := h.inv
    unfold foldMM at hf
    split at hf
    · cases ‹_ :: _ = []›
    · rename_i j q r he
      cases he
      cases h1
      cases hd : decide (j = k) with
      | false => rw [hd] at hf; cases hf
      | true =>
        rw [hd] at hf
        simp [List.foldlM_cons, hg, mm_run f g k hg vs us' _ n h2 hf]
    · cases hf
theorem opvs_rel (hm : Rm Γ w0 Bp F0 nt s a w m F) : ∀ {xs : List Operand} {vs : List (AV Γ.α)}, All2 (Opv s) xs vs → All2 (fun (u : Value) v => RAV m F w v u) (xs.map a.eval) vs
  | _, _, .nil => .nil
  | _, _, .cons h t => .cons (hm.opv h) (opvs_rel hm t)
theorem sim_mm (mxv : Bool) (c : Call) (hc : c.callee = .builtin (if mxv then .max else .min)) (ho : o.op = .call c) (hm : Rm Γ w0 Bp F0 nt s a w m F) (hd : ∀ d, o.dst = some d → d < nt)
    (hps : PS O s (opProg Γ sg o) ws) (hK : ∀ a' w', R Γ w0 Bp F0 nt (wr s ws) a' w' → K a' w') : o.wp P a w K Q := by
  cases mxv with
  | true =>
    simp only [if_true] at hc
    simp only [opProg, ho, hc] at hps
    obtain ⟨vs, h3, h4⟩ := ps_opds.1 hps
    split at h4
    · rename_i k p r
      obtain ⟨n, h5, h6⟩ := ps_need.1 h4
      obtain ⟨u, us, g1, g2, g3⟩ := (opvs_rel hm h3).inv
      cases g2
      have hrun := mm_run (P := P) mx Builtin.max2 k (fun p j q w => rfl) r us p n g3 h5
      refine wp_val (u := .int k n) (w' := w) ?_ (out_sim hm hd h6 (RLf.int _ _) hK)
      have hargs : (Array.map a.eval c.args).toList = .int k p :: us := by simpa using g1
      simp [execOp, ho, hc, resolve, invoke, builtin, Builtin.max_, g1, hrun]
    · exact (ps_fail.1 h4).elim
  | false =>
    simp only [Bool.false_eq_true, if_false] at hc
    simp only [opProg, ho, hc] at hps
    obtain ⟨vs, h3, h4⟩ := ps_opds.1 hps
    split at h4
    · rename_i k p r
      obtain ⟨n, h5, h6⟩ := ps_need.1 h4
      obtain ⟨u, us, g1, g2, g3⟩ := (opvs_rel hm h3).inv
      cases g2
      have hrun := mm_run (P := P) mn Builtin.min2 k (fun p j q w => rfl) r us p n g3 h5
      refine wp_val (u := .int k n) (w' := w) ?_ (out_sim hm hd h6 (RLf.int _ _) hK)
      simp [execOp, ho, hc, resolve, invoke, builtin, Builtin.min_, g1, hrun]
    · exact (ps_fail.1 h4).elim
end
end Go.Proofs.Ytlhknehkcflkgaa.Ab
