/- Code: what the evaluator comes to, the model does. -/
import Derived.Test.YtlhknehkcflkgaaAbCarry2
import Derived.LoopN
set_option autoImplicit false
set_option linter.unusedVariables false
set_option linter.unusedSimpArgs false
namespace Go.Proofs.Ytlhknehkcflkgaa.Ab
open Go

/-- every operation's place is one of the function's -/
def dstOk (nt : Nat) : Code → Bool
  | .region _ ops _ => ops.toList.all fun o => match o.dst with | some d => Nat.blt d nt | none => true
  | .seq a b => dstOk nt a && dstOk nt b
  | .cond _ a b => dstOk nt a && dstOk nt b
  | .block _ c => dstOk nt c
  | .loop c => dstOk nt c
  | _ => true
section
variable {Γ : Reg} {ρ : Type} {O : Orc Γ ρ} {OR : ORel Γ} {w0 : World} {Bp : Nat → Nat → Prop} {F0 : Nat → Prop} {nt fuel : Nat}
variable {P : Program} {sg : FuncId → Option Sig}

/-- what the continuations ask for -/
structure KontOk (Γ : Reg) (w0 : World) (Bp : Nat → Nat → Prop) (F0 : Nat → Prop) (nt : Nat) {ρ : Type} (K : Kont Γ ρ) (r : ρ) (Q : Exit → Act → World → Prop) : Prop where
  normal : ∀ s a w, K.normal s = some r → R Γ w0 Bp F0 nt s a w → Q .normal a w
  exit : ∀ id s a w, K.exit id s = some r → R Γ w0 Bp F0 nt s a w → Q (.exit id) a w
  ret : ∀ s a w, K.ret s = some r → R Γ w0 Bp F0 nt s a w → Q .ret a w
theorem go_ok (hΓ : Γ.Ok P) {C : Carry} {s : St Γ.α} {k : C.ty Γ → Option ρ} {r : ρ} {a : Act} {w : World} (h : C.go s k = some r) (hr : R Γ w0 Bp F0 nt s a w) : ∃ v, k v = some r ∧ R Γ w0 Bp F0 nt (C.mk Γ v) a w := by
  unfold Carry.go at h
  split at h
  · rename_i v o f hp
    cases hb : C.keysOk && (nodupB o && apartN o f) with
    | false => rw [hb] at h; cases h
    | true =>
      rw [hb] at h
      simp only [Bool.and_eq_true] at hb
      exact ⟨v, h, carry_ok hΓ hr hp hb.1 hb.2.1 hb.2.2⟩
  · cases h
theorem code_ok (hE : FnsOk Γ P sg OR) (hO : OrcOk O OR) (hmix : P.follows .mixedOrders = true) {r : ρ} : ∀ {c : Code} {an : Ann Γ ρ} {s : St Γ.α} {K : Kont Γ ρ} {Q : Exit → Act → World → Prop} {a : Act} {w : World}, dstOk nt c = true → obl sg O fuel c an K →
    ev sg O fuel c an s K = some r → R Γ w0 Bp F0 nt s a w → KontOk Γ w0 Bp F0 nt K r Q → c.wp P Q a w := by
  intro c
  induction c with
  | skip => intro an s K Q a w _ _ hev hr hK; exact wp_skip (hK.normal s a w (by simpa [ev] using hev) hr)
  | region id ops draw =>
    intro an s K Q a w hd _ hev hr hK
    refine region_ok hE hO hmix (fun o ho d hod => ?_) (by simpa [ev] using hev) hr (fun s' a' w' h1 h2 => hK.normal s' a' w' h1 h2)
    simp only [dstOk, List.all_eq_true] at hd
    have := hd o ho
    rw [hod] at this
    simpa using this
  | seq c1 c2 ih1 ih2 =>
    intro an s K Q a w hd hob hev hr hK
    simp only [dstOk, Bool.and_eq_true] at hd
    -- in all arms: the first, and then the second
    have step : ∀ (x y : Ann Γ ρ), obl sg O fuel c1 x { K with normal := fun s' => ev sg O fuel c2 y s' K } → obl sg O fuel c2 y K → ev sg O fuel c1 x s { K with normal := fun s' => ev sg O fuel c2 y s' K } = some r → (Code.seq c1 c2).wp P Q a w := by
      intro x y o1 o2 he
      exact wp_seq (ih1 hd.1 o1 he hr ⟨fun s' a' w' h1 h2 => ih2 hd.2 o2 h1 h2 hK, hK.exit, hK.ret⟩)
    cases an with
    | seq x y => exact step x y hob.1 hob.2 hev
    | join C J x y =>
      obtain ⟨o1, oJ, o2⟩ := hob
      refine wp_seq (ih1 hd.1 o1 hev hr ⟨fun s' a' w' h1 h2 => ?_, hK.exit, hK.ret⟩)
      obtain ⟨v, g1, g2⟩ := go_ok hE.reg h1 h2
      rw [oJ v, forceL_eq] at g1
      exact ih2 hd.2 o2 g1 g2 hK
    | _ => exact step .none .none obl_none obl_none hev
  | cond c x y ih1 ih2 =>
    intro an s K Q a w hd hob hev hr hK
    simp only [dstOk, Bool.and_eq_true] at hd
    have fin : ∀ (b : Bool) (z1 z2 : Ann Γ ρ) (s' : St Γ.α), a.eval c = .bool b → obl sg O fuel x z1 K → obl sg O fuel y z2 K → R Γ w0 Bp F0 nt s' a w → (bif b then ev sg O fuel x z1 s' K else ev sg O fuel y z2 s' K) = some r → (Code.cond c x y).wp P Q a w := by
      intro b z1 z2 s' hb o1 o2 hr' he
      cases b with
      | true => exact wp_cond_true hb (ih1 hd.1 o1 he hr' hK)
      | false => exact wp_cond_false hb (ih2 hd.2 o2 he hr' hK)
    cases c with
    | tmp t =>
      have main : ∀ (z1 z2 : Ann Γ ρ) (b : Bool), obl sg O fuel x z1 K → obl sg O fuel y z2 K → s.get (.tmp t) = some (.av (.one (.bool b))) → sel b (ev sg O fuel x z1 (setB s t true) K) (ev sg O fuel y z2 (setB s t false) K) = some r → (Code.cond (.tmp t) x y).wp P Q a w := by
        intro z1 z2 b o1 o2 hg he
        obtain ⟨m, F, hm⟩ := hr
        have hv : a.eval (.tmp t) = .bool b := by
          have h1 : RLf m F w (.bool b : Lf Γ.α) (a.eval (.tmp t)) := hm.opv (x := .tmp t) (v := .one (.bool b)) hg
          generalize a.eval (.tmp t) = u at h1
          cases h1; rfl
        have hr' : R Γ w0 Bp F0 nt (setB s t b) a w := R.alike ⟨m, F, hm⟩ (fun k => ((setB_alike hg) k).symm)
        refine fin b z1 z2 (setB s t b) hv o1 o2 hr' ?_
        cases b <;> exact he
      cases an with
      | cond z1 z2 =>
        simp only [ev] at hev
        split at hev
        · rename_i b hg; exact main z1 z2 b hob.1 hob.2 hg hev
        · cases hev
      | _ =>
        simp only [ev] at hev
        split at hev
        · rename_i b hg; exact main .none .none b obl_none obl_none hg hev
        · cases hev
    | const v =>
      cases v with
      | bool b =>
        cases b with
        | true =>
          cases an with
          | cond z1 z2 => exact fin true z1 z2 s rfl hob.1 hob.2 hr (by simpa only [ev, cond_true, cond_false] using hev)
          | _ => exact fin true .none .none s rfl obl_none obl_none hr (by simpa only [ev, cond_true, cond_false] using hev)
        | false =>
          cases an with
          | cond z1 z2 => exact fin false z1 z2 s rfl hob.1 hob.2 hr (by simpa only [ev, cond_true, cond_false] using hev)
          | _ => exact fin false .none .none s rfl obl_none obl_none hr (by simpa only [ev, cond_true, cond_false] using hev)
      | _ => simp only [ev] at hev; cases hev
    | _ => simp only [ev] at hev; cases hev
  | block id c ih =>
    intro an s K Q a w hd hob hev hr hK
    simp only [dstOk] at hd
    have main : ∀ z : Ann Γ ρ, obl sg O fuel c z { K with exit := fun i s' => bif Nat.beq i id then K.normal s' else K.exit i s' } → ev sg O fuel c z s { K with exit := fun i s' => bif Nat.beq i id then K.normal s' else K.exit i s' } = some r → (Code.block id c).wp P Q a w := by
      intro z o1 he
      refine wp_block (ih hd o1 he hr ⟨fun s' a' w' h1 h2 => hK.normal s' a' w' h1 h2, fun i s' a' w' h1 h2 => ?_, fun s' a' w' h1 h2 => hK.ret s' a' w' h1 h2⟩)
      show (if i = id then Q .normal a' w' else Q (.exit i) a' w')
      cases hb : Nat.beq i id with
      | true =>
        have h1' : K.normal s' = some r := by simpa [hb] using h1
        rw [if_pos (Nat.eq_of_beq_eq_true hb)]
        exact hK.normal s' a' w' h1' h2
      | false =>
        have h1' : K.exit i s' = some r := by simpa [hb] using h1
        rw [if_neg (fun e => by rw [e, Nat.beq_refl] at hb; cases hb)]
        exact hK.exit i s' a' w' h1' h2
    cases an with
    | block x => exact main x hob (by simpa only [ev] using hev)
    | _ => exact main .none obl_none (by simpa only [ev] using hev)
  | loop c ih =>
    intro an s K Q a w hd hob hev hr hK
    simp only [dstOk] at hd
    cases an with
    | loop C L body =>
      obtain ⟨l0, l1, l2⟩ := hob
      obtain ⟨v, g1, g2⟩ := go_ok hE.reg (show C.go s (L fuel) = some r from hev) hr
      have key : ∀ n v a w, L n v = some r → R Γ w0 Bp F0 nt (C.mk Γ v) a w → Code.rounds P c Q n a w := by
        intro n
        induction n with
        | zero => intro v a w h _; rw [l0] at h; cases h
        | succ n ihn =>
          intro v a w h hr
          rw [l1, forceL_eq] at h
          rw [rounds_succ]
          exact ih hd (l2 n) h hr ⟨fun s' a' w' h1 h2 => by
            obtain ⟨v', q1, q2⟩ := go_ok hE.reg h1 h2
            exact ihn v' a' w' q1 q2, hK.exit, hK.ret⟩
      exact wp_loop_rounds fuel (key fuel v a w g1 g2)
    | _ => cases hev
  | exit id => intro an s K Q a w _ _ hev hr hK; exact wp_exit (hK.exit id s a w (by simpa [ev] using hev) hr)
  | ret => intro an s K Q a w _ _ hev hr hK; exact wp_ret (hK.ret s a w (by simpa [ev] using hev) hr)
  | _ => intros; rename_i hev _ _; cases hev
end
end Go.Proofs.Ytlhknehkcflkgaa.Ab
