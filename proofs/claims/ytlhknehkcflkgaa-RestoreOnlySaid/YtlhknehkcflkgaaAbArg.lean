/- From what a statement says of its arguments to what a function's entry asks. -/
import Derived.Test.YtlhknehkcflkgaaRows
import Derived.Test.YtlhknehkcflkgaaAbK
import Derived.ProofKit
import Derived.SizedLaws
import Derived.Deep.Slices
set_option autoImplicit false
set_option maxRecDepth 100000
set_option linter.unusedVariables false
namespace Go.Proofs.Ytlhknehkcflkgaa
open Go Ab Go.ChangeShapes Go.WideShapes Go.ChangeAt Go.RowKit
theorem own : ownKnob Go.Proofs.Try.prog.godebug = none := by kernel_rfl
theorem laidOut : laidOutB Go.Proofs.Try.prog = true := by kernel_rfl
section
variable {H : Type} {enc : TypeId × Value → H} {P : Program} {W : World}
/-- all that lies there when a law is called -/
def Old (W : World) (b : Nat) : Prop := b < W.heap.size
/-- a slice of integers that came in -/
theorem arg_ints {t e : TypeId} {k : IntKind} (ht : P.underlying t = some (.slice e)) (he : P.underlying e = some (.int k)) (hc : P.cellsOf e = 1) {Γ : Reg} (hsz : Γ.sz e = 1) (toα : Int → Γ.α e) (hpk : ∀ z, Γ.pk e (toα z) = [.int k z])
    {a0 : Option Addr} {n0 c0 : Nat} {d : DataW H} {p : List MemPlace} (h : DataW.Trod enc P W 0 (fun _ => true) true t (.slice a0 n0 c0) d p) :
    ∃ zs : List Int, (∀ z ∈ zs, (Lit.int k z).wf = true) ∧ RLf (Γ := Γ) (fun _ => none) (Old W) W (.sl e (zs.map toα)) (.slice a0 n0 c0) := by
  obtain ⟨fuel, hf⟩ := h
  rcases open_ints ht he hc hf with ⟨hcs, hx⟩ | ⟨a, len, cap, zs, hcs, _, hl, hm, hz, hx, hcell, hwz⟩
  · simp [Value.cells] at hcs
    obtain ⟨rfl, rfl, rfl⟩ := hcs
    exact ⟨[], by simp, .sl e [] none 0 [] (by simp) (by simp) (by simp) (by simp [flat])⟩
  · simp [Value.cells] at hcs
    obtain ⟨ea, el, ec⟩ := hcs
    subst ea; subst el; subst ec
    simp only [if_true] at hz
    have hlen : (zs.take n0).length = n0 := by rw [List.length_take]; omega
    refine ⟨zs.take n0, fun z hz' => hwz z (List.mem_of_mem_take hz'), ?_⟩
    have := RLf.sl (Γ := Γ) (m := fun _ => none) (F := Old W) (w := W) e ((zs.take n0).map toα) (some a) c0 ((zs.take n0).map (Value.int k)) (by simp [hsz]) (by simp; omega)
      (fun j u hu => by
        rw [List.getElem?_map] at hu
        cases hq : (zs.take n0)[j]? with
        | none => rw [hq] at hu; cases hu
        | some z =>
          rw [hq] at hu
          simp at hu
          subst hu
          have hj : j < n0 := by rw [← hlen]; exact (List.getElem?_eq_some_iff.1 hq).1
          have hc2 := hcell j (by omega)
          have hz2 : zs.getD j 0 = z := by
            rw [List.getElem?_take_of_lt hj] at hq
            simp [List.getD, hq]
          rw [hz2] at hc2
          refine ⟨a, rfl, ?_, hc2⟩
          have := World.block_lt_of_cell? W _ hc2
          unfold Old
          unfold Addr.add at this
          split at this <;> exact this)
      (fun j l u hl' hu => by
        have hfl : flat Γ e ((zs.take n0).map toα) = (zs.take n0).map (Lf.int k) := by
          unfold flat
          induction zs.take n0 with
          | nil => rfl
          | cons z zs ih => simp [hpk, ih]
        rw [hfl, List.getElem?_map] at hl'
        rw [List.getElem?_map] at hu
        cases hq : (zs.take n0)[j]? with
        | none => rw [hq] at hu; cases hu
        | some z =>
          rw [hq] at hu hl'
          simp at hu hl'
          subst hu; subst hl'
          exact .int _ _)
    rwa [show ((zs.take n0).map toα).length = n0 by rw [List.length_map, hlen]] at this
/-- a law's answer, out of its entry -/
theorem law_calls {f : Nat} {ps : List (Bool × TypeId)} {lk : Bool} {F : parTy reg ps → Option (resTy reg ([(4, [false])] ++ []))} (h : EntryOk (Γ := reg) Go.Proofs.Try.prog f ⟨⟨ps, [(4, [false])], [], lk, false, []⟩, F⟩)
    {x : parTy reg ps} (hx : F x = some true) {css : List (List (Lf reg.α))} (hu : unpkPar reg ps css = some x) {vs : List Value} (hA : ArgsRel (Γ := reg) (Old W) W ps [] css vs [] []) :
    Calls Go.Proofs.Try.prog f vs.toArray W fun e w' => e = .returned (.bool true) ∧ Below W.heap.size W w' := by
  refine (h.ok x true css hx hu W (Old W) vs [] [] (fun b hb => hb) hA (by simp) (by simp)).mono fun e w' => ?_
  rintro ⟨F', us, us2, own, hret, hul, hfr, _, _, _, _, _, hres, hbx⟩
  have hret : e = .returned (retV us) := hret
  cases hbx
  rw [List.append_nil us] at hres
  have hres : ResRel (Γ := reg) F' w' 0 [(4, [false])] [[.bool true]] us own := hres
  cases hres with
  | cons g1 gl gL gt =>
    cases gt
    cases gL with
    | plain hn hv ht =>
      cases ht
      cases hv
      have g1 : some (⟨1, 1, .bool, [.bool]⟩ : TI) = some _ := g1
      cases g1
      exact ⟨hret, hfr.os, hfr.tape, hfr.output, hfr.size, fun k hk => hfr.block k hk (by simp)⟩
end
end Go.Proofs.Ytlhknehkcflkgaa
