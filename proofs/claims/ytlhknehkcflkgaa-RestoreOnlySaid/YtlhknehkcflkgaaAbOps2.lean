/- Operations, further: numbers, comparison, places in slices, built-in functions. -/
import Derived.Test.YtlhknehkcflkgaaAbOps
import Derived.Laws.MakeOwn
import Derived.Laws.OwnMore
import Derived.Laws.Tables
import Derived.Great.BuildSlice
set_option autoImplicit false
set_option linter.unusedVariables false
set_option linter.unusedSimpArgs false
namespace Go.Proofs.Ytlhknehkcflkgaa.Ab
open Go

section
variable {Γ : Reg} {O : ORel Γ} {s : St Γ.α} {w0 : World} {Bp : Nat → Nat → Prop} {F0 : Nat → Prop} {nt : Nat} {a : Act} {w : World} {m : Places} {F : Nat → Prop}
variable {P : Program} {o : Oper} {K : Act → World → Prop} {Q : Exit → Act → World → Prop} {ws : List (Key × Option (Val Γ.α))} {sg : FuncId → Option Sig}

theorem kinds_rel : ∀ {ks : List Z} {ls : List (Lf Γ.α)} {vs : List Value}, kindsOk ks ls = true → RLs m F w ls vs → KVs ks vs
  | [], [], vs, _, h => by rw [h.inv_nil]; trivial
  | [], _ :: _, _, h, _ => by simp [kindsOk] at h
  | z :: ks, [], _, h, _ => by cases z <;> simp [kindsOk] at h
  | z :: ks, l :: ls, vs, h, hr => by
    obtain ⟨v, vs', rfl, h1, h2⟩ := hr.inv
    cases z with
    | int k =>
      cases l with
      | int j n =>
        simp only [kindsOk] at h
        cases hk : decide (k = j) with
        | false => rw [hk] at h; simp at h
        | true =>
          rw [hk] at h
          cases h1
          exact ⟨of_decide_eq_true hk, kinds_rel h h2⟩
      | _ => simp [kindsOk] at h
    | bool =>
      cases l with
      | bool b => simp only [kindsOk] at h; cases h1; show KVs ks vs'; exact kinds_rel h h2
      | _ => simp [kindsOk] at h
    | str =>
      cases l with
      | str b => simp only [kindsOk] at h; cases h1; show KVs ks vs'; exact kinds_rel h h2
      | _ => simp [kindsOk] at h
    | nil => cases l <;> simp [kindsOk] at h
def eqC (ls ms : List (Lf Γ.α)) (q : Bool) : Option Bool :=
  match ls, ms with
  | [], [] => some q
  | _, _ => (eqLf ls ms).map fun r => q && r
theorem eqC_rel {ls ms : List (Lf Γ.α)} {xs ys : List Value} {q r : Bool} (ih : ∀ r', eqLf ls ms = some r' → eqVs xs ys = r') (h : eqC ls ms q = some r) : (q && eqVs xs ys) = r := by
  unfold eqC at h
  split at h
  · rw [ih true rfl]; simpa using h
  · cases he : eqLf ls ms with
    | none => rw [he] at h; cases h
    | some r' => rw [he] at h; rw [ih r' he]; simpa using h
theorem eqLf_int {ls ms : List (Lf Γ.α)} {j k : IntKind} {a b : Int} : eqLf (.int j a :: ls) (.int k b :: ms) = cond (decide (j = k)) (eqC ls ms (a == b)) none := by cases ls <;> cases ms <;> rfl
theorem eqLf_bool {ls ms : List (Lf Γ.α)} {a b : Bool} : eqLf (.bool a :: ls) (.bool b :: ms) = eqC ls ms (a == b) := by cases ls <;> cases ms <;> rfl
theorem eqLf_str {ls ms : List (Lf Γ.α)} {a b : ByteArray} : eqLf (.str a :: ls) (.str b :: ms) = eqC ls ms (a == b) := by cases ls <;> cases ms <;> rfl
theorem eqLf_rel : ∀ {ls ms : List (Lf Γ.α)} {xs ys : List Value} {r : Bool}, eqLf ls ms = some r → RLs m F w ls xs → RLs m F w ms ys → eqVs xs ys = r
  | [], [], xs, ys, r, h, h1, h2 => by rw [h1.inv_nil, h2.inv_nil]; simp [eqLf] at h; rw [h]; rfl
  | [], m :: ms, xs, ys, r, h, h1, h2 => by simp [eqLf] at h
  | l :: ls, [], xs, ys, r, h, h1, h2 => by cases l <;> (try cases ls) <;> simp [eqLf] at h
  | l :: ls, m :: ms, xs, ys, r, h, h1, h2 => by
    obtain ⟨v, vs, rfl, a1, a2⟩ := h1.inv
    obtain ⟨u, us, rfl, b1, b2⟩ := h2.inv
    have ih := fun r' (he : eqLf ls ms = some r') => eqLf_rel (r := r') he a2 b2
    simp only [eqVs]
    cases l with
    | int j x =>
      cases m with
      | int k y =>
        cases a1; cases b1
        rw [eqLf_int] at h
        cases hd : decide (j = k) with
        | false => rw [hd] at h; cases h
        | true => rw [hd] at h; exact eqC_rel ih h
      | _ => cases ls <;> cases ms <;> simp [eqLf] at h
    | bool x =>
      cases m with
      | bool y =>
        cases a1; cases b1
        rw [eqLf_bool] at h
        exact eqC_rel ih h
      | _ => cases ls <;> cases ms <;> simp [eqLf] at h
    | str x =>
      cases m with
      | str y =>
        cases a1; cases b1
        rw [eqLf_str] at h
        exact eqC_rel ih h
      | _ => cases ls <;> cases ms <;> simp [eqLf] at h
    | _ => cases m <;> cases ls <;> cases ms <;> simp [eqLf] at h
theorem intval {v : AV Γ.α} {n : Int} {u : Value} (h : asInt' v = some n) (hr : RAV m F w v u) : ∃ k, u = .int k n := by
  unfold asInt' at h
  split at h
  · cases h; cases hr; exact ⟨_, rfl⟩
  · cases h
theorem equalIn_bool {t : TypeId} {p q : Bool} (d : Nat) (hu : P.underlying t = some .bool) : (Op.equalIn (d + 1) t (.bool p) (.bool q)).run P w = .ok (p == q) w := by
  simp only [Op.equalIn, Sem.run_bind, run_underlying hu, Result.andThen_ok, Sem.run_pure]
theorem sim_binOp (hΓ : Γ.Ok P) (op : BinOp) (t : TypeId) (x y : Operand) (t' : TypeId) (ho : o.op = .binOp op t x y t') (hm : Rm Γ w0 Bp F0 nt s a w m F) (hd : ∀ d, o.dst = some d → d < nt)
    (hps : PS O s (opProg Γ sg o) ws) (hK : ∀ a' w', R Γ w0 Bp F0 nt (wr s ws) a' w' → K a' w') : o.wp P a w K Q := by
  simp only [opProg, ho] at hps
  obtain ⟨v, h1, h2⟩ := ps_opd.1 hps
  obtain ⟨u, h3, h4⟩ := ps_opd.1 h2
  have r1 := hm.opv h1
  have r2 := hm.opv h3
  generalize ev1 : a.eval x = X at r1
  generalize ev2 : a.eval y = Y at r2
  have fin : ∀ (l : Lf Γ.α) (z : Value), RLf m F w l z → (eqGuard op t x y X Y).run P w = .ok () w → (binOp op t X Y).run P w = .ok z w → PS O s (out o.dst (.one l)) ws → o.wp P a w K Q := by
    intro l z hl hg hb hp
    refine wp_val (u := z) (w' := w) ?_ (out_sim hm hd hp hl hK)
    simp [execOp, ho, ev1, ev2, hg, hb]
  unfold binop at h4
  split at h4
  · rename_i j p k q
    cases r1; cases r2
    have hg : (eqGuard op t x y (.int j p) (.int k q)).run P w = .ok () w := by unfold eqGuard; split <;> rfl
    cases hsh : isShift op with
    | true =>
      rw [hsh, cond_true] at h4
      obtain ⟨hq, h5⟩ := ps_ck.1 h4
      have hq := of_decide_eq_true hq
      obtain ⟨n, h6, h7⟩ := ps_need.1 h5
      refine fin _ (.int j n) (.int _ _) hg ?_ h7
      cases op <;> simp [isShift] at hsh <;> simp [shift] at h6 <;> subst h6 <;> simp [binOp, Op.shift, show ¬ q < 0 from by omega]
    | false =>
      rw [hsh, cond_false] at h4
      obtain ⟨hjk, h5⟩ := ps_bif h4
      have hjk := of_decide_eq_true hjk
      subst hjk
      split at h5
      · rename_i r hc
        refine fin _ (.bool r) (.bool _) hg ?_ h5
        cases op <;> simp [cmp] at hc <;> subst hc <;> simp [binOp, Op.intCmp]
      · rename_i hc
        cases hdv : isDiv op with
        | true =>
          rw [hdv, cond_true] at h5
          obtain ⟨hq, h6⟩ := ps_ck.1 h5
          have hq : q ≠ 0 := by simpa using hq
          obtain ⟨n, h7, h8⟩ := ps_need.1 h6
          refine fin _ (.int j n) (.int _ _) hg ?_ h8
          cases op <;> simp [isDiv] at hdv <;> simp [arith] at h7 <;> subst h7 <;> simp [binOp, Op.intDiv, hq]
        | false =>
          rw [hdv, cond_false] at h5
          obtain ⟨n, h7, h8⟩ := ps_need.1 h5
          refine fin _ (.int j n) (.int _ _) hg ?_ h8
          cases op <;> simp [isDiv] at hdv <;> simp [isShift] at hsh <;> simp [arith] at h7 <;> subst h7 <;> simp [binOp, Op.intArith, Op.intBits]
  · rename_i p q
    cases r1; cases r2
    have hg : (eqGuard op t x y (.bool p) (.bool q)).run P w = .ok () w := by unfold eqGuard; split <;> rfl
    obtain ⟨ti, h5, h6⟩ := ps_need.1 h4
    split at h6
    · rename_i hsh
      have hu := (hΓ.ti t ti h5).sh
      rw [hsh] at hu
      have heq : (Op.equal t (.bool p) (.bool q)).run P w = .ok (p == q) w := equalIn_bool 9999 hu
      split at h6
      · exact fin _ (.bool (p == q)) (.bool _) hg (by simp [binOp, heq]) h6
      · exact fin _ (.bool (!(p == q))) (.bool _) hg (by simp [binOp, heq]) h6
      · exact (ps_fail.1 h6).elim
    · exact (ps_fail.1 h6).elim
  · rename_i p q
    cases r1; cases r2
    have hg : (eqGuard op t x y (.string p) (.string q)).run P w = .ok () w := by unfold eqGuard; split <;> rfl
    split at h4
    · exact fin _ (.bool (p.toList == q.toList)) (.bool _) hg (by simp [binOp, Op.stringOp]) h4
    · exact fin _ (.bool (!(p.toList == q.toList))) (.bool _) hg (by simp [binOp, Op.stringOp]) h4
    · exact (ps_fail.1 h4).elim
  · rename_i p q
    obtain ⟨xs, rfl, r1⟩ := r1
    obtain ⟨ys, rfl, r2⟩ := r2
    obtain ⟨ks, h5, h6⟩ := ps_need.1 h4
    obtain ⟨h6, h7⟩ := ps_bif h6
    simp only [Bool.and_eq_true] at h6
    obtain ⟨g1, g2⟩ := hΓ.eq t ks h5
    have heq := g2 xs ys w (kinds_rel h6.1 r1) (kinds_rel h6.2 r2)
    have hg : (eqGuard op t x y (.agg xs.toArray) (.agg ys.toArray)).run P w = .ok () w := by
      cases op <;> simp [eqGuard, program, Sem.run, g1]
    split at h7
    · obtain ⟨r, h8, h9⟩ := ps_need.1 h7
      rw [eqLf_rel h8 r1 r2] at heq
      exact fin _ (.bool r) (.bool _) hg (by simp [binOp, heq]) h9
    · obtain ⟨r, h8, h9⟩ := ps_need.1 h7
      rw [eqLf_rel h8 r1 r2] at heq
      exact fin _ (.bool (!r)) (.bool _) hg (by simp [binOp, heq]) h9
    · exact (ps_fail.1 h7).elim
  · exact (ps_fail.1 h4).elim
end
end Go.Proofs.Ytlhknehkcflkgaa.Ab
