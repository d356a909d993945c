/- Choices whose conditions are settled by reckoning. -/
import Derived.Test.YtlhknehkcflkgaaPlBase
set_option autoImplicit false
namespace Go.Proofs.Ytlhknehkcflkgaa
open Go Ab
theorem sel_dt {β : Type} {p : Prop} [Decidable p] {a b : β} (h : p) : sel (decide p) a b = a := by rw [decide_eq_true h]; rfl
theorem sel_df {β : Type} {p : Prop} [Decidable p] {a b : β} (h : ¬ p) : sel (decide p) a b = b := by rw [decide_eq_false h]; rfl
theorem sel_net {β : Type} {x y : Int} {a b : β} (h : x ≠ y) : sel (x != y) a b = a := by rw [show (x != y) = true from by simpa using h]; rfl
theorem sel_nef {β : Type} {x y : Int} {a b : β} (h : x = y) : sel (x != y) a b = b := by subst h; simp [sel_f]
theorem sel_eqt {β : Type} {x y : Int} {a b : β} (h : x = y) : sel (x == y) a b = a := by subst h; simp [sel_t]
theorem sel_eqf {β : Type} {x y : Int} {a b : β} (h : x ≠ y) : sel (x == y) a b = b := by rw [show (x == y) = false from by simpa using h]; rfl
end Go.Proofs.Ytlhknehkcflkgaa
