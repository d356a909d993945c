/- Every operation: what the abstract machine makes of it, the model does. -/
import Derived.Test.YtlhknehkcflkgaaAbCall4
set_option autoImplicit false
set_option linter.unusedVariables false
set_option linter.unusedSimpArgs false
namespace Go.Proofs.Ytlhknehkcflkgaa.Ab
open Go

/-- what is known of the functions that are called -/
structure FnsOk (Γ : Reg) (P : Program) (sg : FuncId → Option Sig) (O : ORel Γ) : Prop where
  reg : Γ.Ok P
  fns : ∀ f sg' args r, sg f = some sg' → O f args r → FnOk P f sg' args r
  here : ∀ f sg', sg f = some sg' → ∃ fn, P.funcs[f]? = some fn ∧ fn.name ≠ "runtime.NumGoroutine" ∧ fn.body.isSome = true
section
variable {Γ : Reg} {O : ORel Γ} {s : St Γ.α} {w0 : World} {Bp : Nat → Nat → Prop} {F0 : Nat → Prop} {nt : Nat} {a : Act} {w : World} {m : Places} {F : Nat → Prop}
variable {P : Program} {o : Oper} {K : Act → World → Prop} {Q : Exit → Act → World → Prop} {ws : List (Key × Option (Val Γ.α))} {sg : FuncId → Option Sig}
theorem sim_op (hE : FnsOk Γ P sg O) (hr : R Γ w0 Bp F0 nt s a w) (hd : ∀ d, o.dst = some d → d < nt)
    (hps : PS O s (opProg Γ sg o) ws) (hK : ∀ a' w', R Γ w0 Bp F0 nt (wr s ws) a' w' → K a' w') : o.wp P a w K Q := by
  obtain ⟨m, F, hm⟩ := hr
  have hΓ := hE.reg
  cases ho : o.op with
  | move x => exact sim_move x (.inl ho) hm hd (by simpa only [opProg, ho] using hps) hK
  | assign x => exact sim_move x (.inr ho) hm hd (by simpa only [opProg, ho] using hps) hK
  | pick c x y => exact sim_pick c x y ho hm hd hps hK
  | alloc t => exact sim_alloc hΓ t ho hm hd (by simpa only [opProg, ho] using hps) hK
  | box t x => exact sim_box t x ho hm hd (by simpa only [opProg, ho] using hps) hK
  | build t parts => exact sim_build hΓ t parts ho hm hd hps hK
  | buildSlice t len parts => exact sim_buildSlice hΓ t len parts ho hm hd hps hK
  | load t x => exact sim_load hΓ t x ho hm hd hps hK
  | store t x y => exact sim_store hΓ t x y ho hm hd hps hK
  | nilCheck x => exact sim_nilCheck x ho hm hd hps hK
  | binOp op t x y t' => exact sim_binOp hΓ op t x y t' ho hm hd hps hK
  | unOp op t x => exact sim_unOp op t x ho hm hd hps hK
  | convert t t' x => exact sim_convert hΓ t t' x ho hm hd hps hK
  | makeSlice t x y => exact sim_makeSlice hΓ t x y ho hm hd hps hK
  | slice t x lo hi mx =>
    cases mx with
    | none => exact sim_slice hΓ t x lo hi ho hm hd hps hK
    | some _ => simp only [opProg, ho] at hps; exact (ps_fail.1 hps).elim
  | fieldAddr t x f => exact sim_fieldAddr hΓ t x f ho hm hd hps hK
  | field t x f => exact sim_field hΓ t x f ho hm hd hps hK
  | indexAddr t x i => exact sim_indexAddr hΓ t x i ho hm hd hps hK
  | extract x i => exact sim_extract x i ho hm hd hps hK
  | call c =>
    cases hc : c.callee with
    | builtin b =>
      cases b with
      | len => exact sim_len hΓ c hc ho hm hd hps hK
      | append => exact sim_append hΓ c hc ho hm hd hps hK
      | max => exact sim_mm true c hc ho hm hd hps hK
      | min => exact sim_mm false c hc ho hm hd hps hK
      | _ => simp only [opProg, ho, hc] at hps; exact (ps_fail.1 hps).elim
    | value x =>
      cases x with
      | func f => exact sim_call hΓ hE.fns hE.here c f hc ho hm hd hps hK
      | _ => simp only [opProg, ho, hc] at hps; exact (ps_fail.1 hps).elim
    | invoke _ _ => simp only [opProg, ho, hc] at hps; exact (ps_fail.1 hps).elim
  | _ => simp only [opProg, ho] at hps; exact (ps_fail.1 hps).elim
end
end Go.Proofs.Ytlhknehkcflkgaa.Ab
