/- RestoreReady: for every list of codes and all cuts, flows, zones and times the law returns true, and the input reads as before. -/
import Derived.Test.YtlhknehkcflkgaaAbArgS
import Derived.Test.YtlhknehkcflkgaaPlLawReady
set_option autoImplicit false
set_option linter.unusedVariables false
namespace Go.Proofs.Ytlhknehkcflkgaa
open Go Ab Go.ChangeShapes Go.WideShapes Go.ChangeAt Go.RowKit
theorem ready_cells5 : Go.Proofs.Try.prog.cellsOf 5 = 1 := by kernel_rfl
theorem ready_cells3 : Go.Proofs.Try.prog.cellsOf 3 = 1 := by kernel_rfl
theorem ready_cells4 : Go.Proofs.Try.prog.cellsOf 4 = 1 := by kernel_rfl
theorem ready_cells71 : Go.Proofs.Try.prog.cellsOf 71 = Reg.sz reg 71 := by kernel_rfl
theorem ready_cells27 : Go.Proofs.Try.prog.cellsOf 27 = Reg.sz reg 27 := by kernel_rfl
section
variable {H : Type} {enc : TypeId × Value → H} {W : World}
theorem el_cut : ∀ n cs y, DataW.trod enc Go.Proofs.Try.prog W 0 (fun _ => true) true n 71 cs = some y → ∃ x : reg.α 71, ∀ (j : Nat) (l : Lf reg.α) (u : Value), (reg.pk 71 x)[j]? = some l → cs[j]? = some u → RLf (Γ := reg) (fun _ => none) (Old W) W l u := by
  intro n cs y h
  obtain ⟨_, _, g0⟩ := trod_field Go.Proofs.Try.underlying71 h 0 rfl ready_cells4
  obtain ⟨_, _, g1⟩ := trod_field Go.Proofs.Try.underlying71 h 1 rfl ready_cells3
  obtain ⟨_, _, g2⟩ := trod_field Go.Proofs.Try.underlying71 h 2 rfl ready_cells3
  obtain ⟨z0, e0⟩ := cell_bool (o := 0) Go.Proofs.Try.underlying4 g0
  obtain ⟨z1, e1, _⟩ := cell_int (o := 1) Go.Proofs.Try.underlying3 g1
  obtain ⟨z2, e2, _⟩ := cell_int (o := 2) Go.Proofs.Try.underlying3 g2
  refine ⟨({ Off := z0, Clear := z1, Reason := z2 } : T.Cut), fun j l u hl hu => ?_⟩
  match j, hl, hu with
  | 0, hl, hu => rw [e0] at hu; cases hu; cases hl; exact .bool _
  | 1, hl, hu => rw [e1] at hu; cases hu; cases hl; exact .int _ _
  | 2, hl, hu => rw [e2] at hu; cases hu; cases hl; exact .int _ _
  | j + 3, hl, hu => cases hl
theorem el_span : ∀ n cs y, DataW.trod enc Go.Proofs.Try.prog W 0 (fun _ => true) true n 27 cs = some y → ∃ x : reg.α 27, ∀ (j : Nat) (l : Lf reg.α) (u : Value), (reg.pk 27 x)[j]? = some l → cs[j]? = some u → RLf (Γ := reg) (fun _ => none) (Old W) W l u := by
  intro n cs y h
  obtain ⟨_, _, g1⟩ := trod_field Go.Proofs.Try.underlying27 h 0 rfl ready_cells3
  obtain ⟨_, _, g2⟩ := trod_field Go.Proofs.Try.underlying27 h 1 rfl ready_cells3
  obtain ⟨z1, e1, _⟩ := cell_int (o := 0) Go.Proofs.Try.underlying3 g1
  obtain ⟨z2, e2, _⟩ := cell_int (o := 1) Go.Proofs.Try.underlying3 g2
  refine ⟨({ Low := z1, High := z2 } : T.Span), fun j l u hl hu => ?_⟩
  match j, hl, hu with
  | 0, hl, hu => rw [e1] at hu; cases hu; cases hl; exact .int _ _
  | 1, hl, hu => rw [e2] at hu; cases hu; cases hl; exact .int _ _
  | j + 2, hl, hu => cases hl
end
set_option maxRecDepth 100000 in
theorem ready_lifted (os : Os) (started : os.Started) (H : Type) (enc : TypeId × Value → H) :
    ReturnsInHanded {} Go.Proofs.Try.checked os 3 .any (Rows.restoreReadySpec.pre6 enc Go.Proofs.Try.prog Go.Proofs.Try.f3 Rows.restoreReadyRow.domain false) (Rows.restoreReadySpec.post enc Go.Proofs.Try.prog Go.Proofs.Try.f3 false true false false) := by
  refine returnsInHanded_of_change (C := Go.Proofs.Try.checked) own started (by kernel_rfl) Go.Proofs.Try.func3
    (ChangeSpec.witness6 (enc := enc) (C := Go.Proofs.Try.checked) false ⟨#[], #[.slice none 0 0, .slice none 0 0, .slice none 0 0, .int .i64 0, .int .i64 0], []⟩ 8 (by kernel_rfl) (by kernel_rfl) (by kernel_rfl) (by kernel_rfl)) ?_
  intro W base args ds gs before hval0 hW hcnd _
  have hval : ∀ (j : Nat) t v, Go.Proofs.Try.f3.params[j]? = some t → args[j]? = some v → Value.okWide Go.Proofs.Try.prog W .any base t v := hval0
  have hW' := hW
  obtain ⟨p, q, hA0, hV, rfl, _, _⟩ := hW
  have hA : DataW.TrodAll enc Go.Proofs.Try.prog W 0 (fun _ => true) true Go.Proofs.Try.f3.params.toList args.toList ds p := hA0
  rw [Go.Proofs.Try.params3] at hA hval
  obtain ⟨v0, v1, v2, v3, v4, d0, d1, d2, d3, d4, p0, p1, p2, p3, p4, rfl, rfl, rfl, h0, h1, h2, g3, g4⟩ := trodAll_five hA
  obtain ⟨rfl, rfl⟩ := trodVars_none hV
  obtain ⟨a0, n0, c0, rfl⟩ := okWide_slice Go.Proofs.Try.underlying22 (hval 0 22 v0 rfl rfl)
  obtain ⟨a1, n1, c1, rfl⟩ := okWide_slice Go.Proofs.Try.underlying23 (hval 1 23 v1 rfl rfl)
  obtain ⟨a2, n2, c2, rfl⟩ := okWide_slice Go.Proofs.Try.underlying24 (hval 2 24 v2 rfl rfl)
  obtain ⟨x3, rfl, rfl, rfl, hw3⟩ := open_int Go.Proofs.Try.underlying3 (hval 3 3 v3 rfl rfl) g3
  obtain ⟨x4, rfl, rfl, rfl, hw4⟩ := open_int Go.Proofs.Try.underlying3 (hval 4 3 v4 rfl rfl) g4
  have h0k := h0
  have h1k := h1
  have h2k := h2
  clear hA0 hval0
  simp only [List.append_nil] at hW'
  have hlt : ∀ x ∈ p0 ++ p1 ++ p2, x.block < W.heap.size := fun x hx => hW'.lt x (by simp at hx ⊢; rcases hx with hx | hx | hx <;> simp [hx])
  have hargs0 : ∀ (W' : World), Below W.heap.size W W' → DataW.Trod enc Go.Proofs.Try.prog W' 0 (fun b => decide (b < W.heap.size)) true 22 (.slice a0 n0 c0) d0 p0 :=
    fun W' hn => Below.trod laidOut (by kernel_rfl) (of_decide_eq_true (by kernel_rfl)) h0k hn (fun x hx => hlt x (by simp [hx]))
  have hargs1 : ∀ (W' : World), Below W.heap.size W W' → DataW.Trod enc Go.Proofs.Try.prog W' 0 (fun b => decide (b < W.heap.size)) true 23 (.slice a1 n1 c1) d1 p1 :=
    fun W' hn => Below.trod laidOut (by kernel_rfl) (of_decide_eq_true (by kernel_rfl)) h1k hn (fun x hx => hlt x (by simp [hx]))
  have hargs2 : ∀ (W' : World), Below W.heap.size W W' → DataW.Trod enc Go.Proofs.Try.prog W' 0 (fun b => decide (b < W.heap.size)) true 24 (.slice a2 n2 c2) d2 p2 :=
    fun W' hn => Below.trod laidOut (by kernel_rfl) (of_decide_eq_true (by kernel_rfl)) h2k hn (fun x hx => hlt x (by simp [hx]))
  obtain ⟨zs, hz, hr⟩ := arg_ints (Γ := reg) Go.Proofs.Try.underlying22 Go.Proofs.Try.underlying5 ready_cells5 rfl id (fun z => rfl) h0
  have e0 : (List.map (id : Int → reg.α 5) zs : List (reg.α 5)) = zs := List.map_id zs
  have hr : RLf (Γ := reg) (fun _ => none) (Old W) W (.sl 5 zs) (.slice a0 n0 c0) := e0 ▸ hr
  obtain ⟨cu, hr1⟩ := arg_rows (Γ := reg) regOk Go.Proofs.Try.underlying23 ready_cells71 (by decide) el_cut h1
  obtain ⟨fl, hr2⟩ := arg_rows (Γ := reg) regOk Go.Proofs.Try.underlying24 ready_cells27 (by decide) el_span h2
  refine (law_calls (lk := false) ok3 (x := (zs, cu, fl, x3, x4)) (ready_true zs cu fl x3 x4 (fun z hz' => by
      have h5 := hz z hz'
      have e1 : IntKind.u8.min = 0 := rfl
      have e2 : IntKind.u8.max = 255 := rfl
      simpa [Lit.wf, e1, e2] using h5)) (css := [[.sl 5 zs], [.sl 71 cu], [.sl 27 fl], [.int .i64 x3], [.int .i64 x4]]) rfl (vs := [.slice a0 n0 c0, .slice a1 n1 c1, .slice a2 n2 c2, .int .i64 x3, .int .i64 x4])
      (.val (ti := ⟨1, 24, .slice 5, [.nil]⟩) rfl ⟨_, rfl, hr⟩ (.val (ti := ⟨1, 24, .slice 71, [.nil]⟩) rfl ⟨_, rfl, hr1⟩ (.val (ti := ⟨1, 24, .slice 27, [.nil]⟩) rfl ⟨_, rfl, hr2⟩ (.val (ti := ⟨1, 8, .int .i64, [.int .i64]⟩) rfl ⟨_, rfl, .int _ _⟩ (.val (ti := ⟨1, 8, .int .i64, [.int .i64]⟩) rfl ⟨_, rfl, .int _ _⟩ .nil)))))).mono fun e W' ⟨he, hg⟩ => ?_
  subst he
  exact ⟨_, rfl, _, _, _, [], _, [], hW', trodAll_mk1 (shut_bool Go.Proofs.Try.underlying4 _), trodAll_mk5 (hargs0 _ hg) (hargs1 _ hg) (hargs2 _ hg) (shut_int Go.Proofs.Try.underlying3 hw3) (shut_int Go.Proofs.Try.underlying3 hw4), rfl, hg.frame _, fun h => by cases h⟩
theorem ready_holds : Rows.RestoreReadySaid :=
  OpenClaim.holds_of_wide 3 Go.Proofs.Try.f3 rfl rfl rfl rfl rfl rfl rfl ⟨rfl, rfl, rfl, rfl, rfl⟩ rfl rfl rfl rfl rfl (by kernel_rfl) Go.Proofs.Try.func3 (by kernel_rfl)
    (of_decide_eq_true (by kernel_rfl)) (by unfold Func.isWrapper; first | (rw [if_pos (by decide +kernel)]; kernel_rfl) | (rw [if_neg (by decide +kernel)]; exact ⟨rfl, rfl⟩))
    (fun os started H enc _ => ready_lifted os started H enc)
end Go.Proofs.Ytlhknehkcflkgaa
