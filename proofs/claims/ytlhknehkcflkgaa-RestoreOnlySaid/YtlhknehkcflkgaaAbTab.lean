/- Functions that are known: an entry says what a function answers, and that it does. -/
import Derived.Test.YtlhknehkcflkgaaAbFn4
set_option autoImplicit false
set_option linter.unusedVariables false
namespace Go.Proofs.Ytlhknehkcflkgaa.Ab
open Go
section
variable {Γ : Reg} {P : Program}
/-- a function's entry is true of the program -/
structure EntryOk (P : Program) (f : Nat) (sp : Spec Γ) : Prop where
  ok : ∀ x y css, sp.f x = some y → unpkPar Γ sp.sg.ps css = some x → FnOk P f sp.sg css (pkRes Γ (sp.sg.rs ++ sp.sg.bs) y)
  here : ∃ fn, P.funcs[f]? = some fn ∧ fn.name ≠ "runtime.NumGoroutine" ∧ fn.body.isSome = true
theorem find_cons {β : Type} {f g : Nat} {b c : β} {T : List (Nat × β)} (h : find f ((g, b) :: T) = some c) : (f = g ∧ b = c) ∨ find f T = some c := by
  unfold find at h
  cases hb : Nat.beq f g with
  | true => rw [hb, cond_true] at h; cases h; exact .inl ⟨Nat.eq_of_beq_eq_true hb, rfl⟩
  | false => rw [hb, cond_false] at h; exact .inr h
theorem fnsOk_nil (hΓ : Γ.Ok P) : FnsOk Γ P (sigs (Γ := Γ) []) (ORof Γ []) :=
  ⟨hΓ, fun f sg args r h _ => by simp [sigs, find] at h, fun f sg h => by simp [sigs, find] at h⟩
theorem fnsOk_cons {f : Nat} {sp : Spec Γ} {T : List (Nat × Spec Γ)} (h : EntryOk P f sp) (ht : FnsOk Γ P (sigs T) (ORof Γ T)) : FnsOk Γ P (sigs ((f, sp) :: T)) (ORof Γ ((f, sp) :: T)) where
  reg := ht.reg
  fns := by
    intro g sg args r hs ho
    obtain ⟨sp', x, y, h1, h2, h3, rfl⟩ := ho
    simp only [sigs, h1, Option.map_some, Option.some.injEq] at hs
    subst hs
    rcases find_cons h1 with ⟨rfl, rfl⟩ | h1
    · exact h.ok x y args h3 h2
    · exact ht.fns g _ args _ (by simp [sigs, h1]) ⟨sp', x, y, h1, h2, h3, rfl⟩
  here := by
    intro g sg hs
    cases hf : find g ((f, sp) :: T) with
    | none => simp [sigs, hf] at hs
    | some sp' =>
      rcases find_cons hf with ⟨rfl, rfl⟩ | h1
      · exact h.here
      · exact ht.here g sp'.sg (by simp [sigs, h1])
/-- what is looked at in a function and its signature -/
def goodFn (Γ : Reg) (fn : Func) (sg : Sig) : Bool :=
  match fn.body with
  | some c => dstOk fn.ntmps c && (Nat.ble sg.ps.length fn.ntmps && (Nat.ble fn.ntmps 900000 && (Nat.ble sg.ps.length 90 && (sg.ps.all (fun p => Nat.ble (Γ.sz p.2) 100) && ksFine Γ sg.ps sg.ks))))
  | none => false
theorem entry_ok {T : List (Nat × Spec Γ)} (hE : FnsOk Γ P (sigs T) (ORof Γ T)) (hmix : P.follows .mixedOrders = true) {f : FuncId} {fn : Func} {sp : Spec Γ} (hf : P.funcs[f]? = some fn) (hname : fn.name ≠ "runtime.NumGoroutine") (hg : goodFn Γ fn sp.sg = true)
    {k : Nat} {an : Ann Γ (resTy Γ (sp.sg.rs ++ sp.sg.bs))} (hob : obl (sigs T) (orc Γ T _) k (bodyOf fn) an (kont0 Γ sp.sg fn.results.toList)) (hev : ∀ x, evFn Γ (sigs T) sp.sg fn (orc Γ T _) k an x = sp.f x) : EntryOk P f sp := by
  unfold goodFn at hg
  split at hg
  · rename_i c hc
    simp only [Bool.and_eq_true] at hg
    obtain ⟨h1, h2, h3, h4, h5, h6⟩ := hg
    have hb : bodyOf fn = c := by simp [bodyOf, hc]
    rw [hb] at hob
    exact ⟨fun x y css hy hx => fn_ok hE hmix hf hc h1 (Nat.le_of_ble_eq_true h2) (Nat.le_of_ble_eq_true h3) (Nat.le_of_ble_eq_true h4) (fun p hp => Nat.le_of_ble_eq_true (List.all_eq_true.1 h5 p hp)) h6 hob ((hev x).trans hy) hx,
      fn, hf, hname, by rw [hc]; rfl⟩
  · cases hg
/-- a function that calls itself -/
theorem entry_rec {sg : Sig} {f : Nat} (F : Nat → parTy Γ sg.ps → Option (resTy Γ (sg.rs ++ sg.bs))) (h0 : ∀ x, F 0 x = none) (hhere : ∃ fn, P.funcs[f]? = some fn ∧ fn.name ≠ "runtime.NumGoroutine" ∧ fn.body.isSome = true)
    (hs : ∀ n, EntryOk (Γ := Γ) P f ⟨sg, F n⟩ → EntryOk (Γ := Γ) P f ⟨sg, F (n + 1)⟩) : ∀ n, EntryOk (Γ := Γ) P f ⟨sg, F n⟩
  | 0 => ⟨fun x y css h _ => by (rw [show (⟨sg, F 0⟩ : Spec Γ).f x = F 0 x from rfl, h0] at h; cases h), hhere⟩
  | n + 1 => hs n (entry_rec F h0 hhere hs n)
end
end Go.Proofs.Ytlhknehkcflkgaa.Ab
