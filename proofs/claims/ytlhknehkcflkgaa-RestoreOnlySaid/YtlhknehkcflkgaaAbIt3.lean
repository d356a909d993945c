/- The iterator called; slices.AppendSeq and slices.Collect over it. -/
import Derived.Test.YtlhknehkcflkgaaAbIt2
set_option autoImplicit false
set_option linter.unusedVariables false
namespace Go.Proofs.Ytlhknehkcflkgaa.It
open Go Go.RowKit Go.Maps Go.Shelf
/-- a network's switches, as they lie there -/
structure SwAt (Sb Fb : Nat) (fv : Array Value) (b off c : Nat) (sw : List T.Switch) (s : Int) (W : World) : Prop where
  sb : W.heap[Sb]? = some (.cells #[.int .i64 s] 3 (0, 0))
  fb : W.heap[Fb]? = some (.cells fv 45 (0, 0))
  cells : ∀ i, i < sw.length → W.cell? ⟨b, off + i * 5, none⟩ = some (.int .i64 (Ab.rd sw i default).Above)
set_option maxRecDepth 100000 in
set_option maxHeartbeats 2000000 in
theorem up_calls (F : Fence) (hro : F.round = none) (n : Nat) (hn : 1 ≤ n) (h106 : F.fn 106) (n₀ w0 : Nat) (fn : FuncId) (hfn : F.fn fn) (sv : Value) (Bs l D : Nat) (hBl : Bs ≠ l) (hDl : D ≠ l) (hDB : D ≠ Bs) (h0B : w0 ≤ Bs) (h0l : w0 ≤ l) (h0D : w0 ≤ D)
    (Sb Fb : Nat) (fv : Array Value) (b off c : Nat) (sw : List T.Switch) (hfv : fv[0]? = some (.slice (some ⟨b, off, none⟩) sw.length c)) (hSb : Sb < w0) (hFb : Fb < w0) (hb : b < w0) (hbS : b ≠ Sb) (hFS : Fb ≠ Sb) (hnS : n₀ ≤ Sb) (hn0 : n₀ ≤ w0)
    (N : Nat) (hN : N ≤ maxLen) (hNb : N * 8 ≤ 140737488355328) (xs : List Int) (hxs : xs.length ≤ N) (m : Nat) (s : Int) (hp : pathUp sw m s [] = some xs) (W : World) (hA : ApAt w0 fn sv Bs l D [] W) (hS : SwAt Sb Fb fv b off c sw s W) (hw : w0 ≤ W.heap.size) :
    CallsIn F n Go.Proofs.Try.prog 106 #[.func (.yield l) #[] #[], .pointer (some ⟨Sb, 0, none⟩), .pointer (some ⟨Fb, 0, none⟩)] W fun e W' => (∃ v, e = .returned v) ∧ ApAt w0 fn sv Bs l D xs W' ∧ Below n₀ W W' := by
  refine callsIn_of_wp Go.Proofs.Try.func106 rfl h106 ?_ hro
  simp only [Go.Proofs.Try.ntmps106, List.size_toArray, List.length_cons, List.length_nil, Nat.reduceAdd, Nat.reduceSub, Array.replicate_succ, Array.replicate_zero, List.push_toArray, List.append_toArray, List.nil_append, List.cons_append]
  gi_wp2
  refine wpIn_loop_rounds m ?_
  refine up_rounds F hro n hn n₀ w0 fn hfn sv Bs l D hBl hDl hDB h0B h0l h0D Sb Fb fv b off c sw hfv hSb hFb hb hbS hFS hnS hn0 N hN hNb xs hxs _ W ?_ m s [] W _ _ _ _ _ _ _ _ _ _ _ _ _ hp ⟨hA, hS.sb, hS.fb, hS.cells⟩ hw (Below.refl _ _)
  intro a s' W' hU hd hB
  gi_wp2
  obtain ⟨tm, df⟩ := a
  obtain rfl : df = [] := hd
  go_end0
  exact ⟨⟨_, rfl⟩, hU.ap, hB⟩
theorem SwAt.below {Sb Fb : Nat} {fv : Array Value} {b off c : Nat} {sw : List T.Switch} {s : Int} {B : Nat} {W W' : World} (h : SwAt Sb Fb fv b off c sw s W) (hb : Below B W W') (h1 : Sb < B) (h2 : Fb < B) (h3 : b < B) : SwAt Sb Fb fv b off c sw s W' :=
  ⟨(hb.block _ h1).trans h.sb, (hb.block _ h2).trans h.fb, fun i hi => (World.cell?_of_block (hb.block b h3)).trans (h.cells i hi)⟩
set_option maxRecDepth 100000 in
set_option maxHeartbeats 2000000 in
theorem appendSeq_calls (F : Fence) (hro : F.round = none) (n : Nat) (hn : 3 ≤ n) (h105 : F.fn 105) (h106 : F.fn 106) (n₀ : Nat)
    (Sb Fb : Nat) (fv : Array Value) (b off c : Nat) (sw : List T.Switch) (hfv : fv[0]? = some (.slice (some ⟨b, off, none⟩) sw.length c)) (hbS : b ≠ Sb) (hFS : Fb ≠ Sb) (hnS : n₀ ≤ Sb)
    (N : Nat) (hN : N ≤ maxLen) (hNb : N * 8 ≤ 140737488355328) (xs : List Int) (hxs : xs.length ≤ N) (m : Nat) (s : Int) (hp : pathUp sw m s [] = some xs) (w : World) (hS : SwAt Sb Fb fv b off c sw s w) (hSb : Sb < w.heap.size) (hFb : Fb < w.heap.size) (hb : b < w.heap.size) (hn0 : n₀ ≤ w.heap.size) :
    CallsIn F n Go.Proofs.Try.prog 105 #[.slice none 0 0, .func (.func 106) #[] #[.pointer (some ⟨Sb, 0, none⟩), .pointer (some ⟨Fb, 0, none⟩)]] w fun e w' => ∃ v, e = .returned v ∧ w'.ownsRow w.heap.size 3 1 v xs.length (xs.map encI) ∧ Below n₀ w w' := by
  have h1 : 1 ≤ n := by omega
  refine callsIn_of_wp_marks Go.Proofs.Try.func105 rfl h105 ?_ hro
  simp only [Go.Proofs.Try.ntmps105, List.size_toArray, List.length_cons, List.length_nil, Nat.reduceAdd, Nat.reduceSub, Array.replicate_succ, Array.replicate_zero, List.push_toArray, List.append_toArray, List.nil_append, List.cons_append]
  gi_wp2
  refine wpIn_rangeFunc ?_
  intro fn hfn
  rw [hro]
  obtain ⟨sv, hsv⟩ : ∃ sv : Value, Value.func (.func 106) #[] #[.pointer (some ⟨Sb, 0, none⟩), .pointer (some ⟨Fb, 0, none⟩)] = sv := ⟨_, rfl⟩
  obtain ⟨W0, hW0⟩ : ∃ W0, w.alloc (.cells #[.slice none 0 0] 43) = W0 := ⟨_, rfl⟩
  have hs0 : W0.heap.size = w.heap.size + 1 := by rw [← hW0]; simp
  have hv0 : W0.heap[w.heap.size]? = some (.cells #[.slice none 0 0] 43 (0, 0)) := by rw [← hW0]; exact World.alloc_heap_new w _
  have hb0 : Below w.heap.size w W0 := by rw [← hW0]; exact (Below.refl _ w).alloc (Nat.le_refl _) _
  rw [hW0]
  obtain ⟨W1, hW1⟩ : ∃ W1, (W0.alloc (.deferred (some []))).alloc (.loop (apRec fn (.func (.func 106) #[] #[.pointer (some ⟨Sb, 0, none⟩), .pointer (some ⟨Fb, 0, none⟩)]) w.heap.size W0.heap.size .ready none)) = W1 := ⟨_, rfl⟩
  have hold : ∀ k, k < W0.heap.size → W1.heap[k]? = W0.heap[k]? := fun k hk => by
    rw [← hW1]; exact (Below.heap_alloc _ _ k (by simp; omega)).trans (Below.heap_alloc _ _ k hk)
  have hb1 : Below w.heap.size w W1 := by rw [← hW1]; exact (hb0.alloc hb0.size _).alloc (by have := hb0.size; simp; omega) _
  have hs1 : W1.heap.size = W0.heap.size + 2 := by rw [← hW1]; simp
  have hM : ApAt w.heap.size fn (.func (.func 106) #[] #[.pointer (some ⟨Sb, 0, none⟩), .pointer (some ⟨Fb, 0, none⟩)]) w.heap.size (W0.heap.size + 1) W0.heap.size [] W1 :=
    ⟨⟨_, (hold w.heap.size (by omega)).trans hv0, ⟨rfl, .inl ⟨rfl, rfl⟩⟩⟩,
     by rw [← hW1]; have := World.alloc_heap_new (W0.alloc (.deferred (some []))) (.loop (apRec fn (.func (.func 106) #[] #[.pointer (some ⟨Sb, 0, none⟩), .pointer (some ⟨Fb, 0, none⟩)]) w.heap.size W0.heap.size .ready none)); rwa [World.size_alloc] at this,
     by rw [← hW1]; exact (Below.heap_alloc _ _ _ (by simp)).trans (World.alloc_heap_new W0 _)⟩
  refine ⟨W0.heap.size + 1, [{ target := .collected W0.heap.size, args := #[] }], W1, { target := .fn (.func 106) #[.pointer (some ⟨Sb, 0, none⟩), .pointer (some ⟨Fb, 0, none⟩)], args := #[.func (.yield (W0.heap.size + 1)) #[] #[]] }, W1, 106,
    #[.func (.yield (W0.heap.size + 1)) #[] #[]] ++ #[.pointer (some ⟨Sb, 0, none⟩), .pointer (some ⟨Fb, 0, none⟩)], W1, ?_, ?_, ?_, ?_, fun _ => h1, ?_⟩
  · rw [← hW1]; exact run_enterLoop_outer _ _ _ _ _
  · simp [resolve, go_sem]
  · intro f' hf'; simp [Target.leads] at hf'; subst hf'; exact h106
  · have e106 : ∀ args w, (callFunc 106 args).run Go.Proofs.Try.prog w = .ok (.enter 106 args) w := enters_of Go.Proofs.Try.func106 (by kernel_rfl) rfl
    simp [invoke, go_sem, e106]
  · have hS1 := hS.below hb1 hSb hFb hb
    refine (up_calls F hro (n - 1) (by omega) h106 n₀ w.heap.size fn hfn _ w.heap.size (W0.heap.size + 1) W0.heap.size (by omega) (by omega) (by omega) (Nat.le_refl _) (by omega) (by omega) Sb Fb fv b off c sw hfv hSb hFb hb hbS hFS hnS hn0 N hN hNb xs hxs m s hp W1 hM hS1 (by omega)).mono ?_
    rintro e W2 ⟨⟨v0, rfl⟩, h2, hB2⟩
    obtain ⟨v, hv, hrow⟩ := h2.box
    have hend := run_endLoop (P := Go.Proofs.Try.prog) h2.L (by simp [apRec])
    obtain ⟨W3, hW3⟩ : ∃ W3, W2.putObj (W0.heap.size + 1) (.loop { apRec fn (.func (.func 106) #[] #[.pointer (some ⟨Sb, 0, none⟩), .pointer (some ⟨Fb, 0, none⟩)]) w.heap.size W0.heap.size .ready none with state := .exhausted }) = W3 := ⟨_, rfl⟩
    rw [hW3] at hend
    have hg3 : W2.grownBy W3 (some (W0.heap.size + 1)) := by rw [← hW3]; exact grownBy_putObj_a _ _ _
    have hv3 : W3.heap[w.heap.size]? = some (.cells #[v] 43 (0, 0)) := by rw [← hW3]; exact (World.putObj_heap_other (by omega)).trans hv
    have hK3 : W3.heap[W0.heap.size]? = some (.deferred (some [])) := by rw [← hW3]; exact (World.putObj_heap_other (by omega)).trans h2.K
    have hrow3 := hrow.kept hg3 (ownsRow_ne_a hrow h2.L (fun cur e => by cases e))
    have hB : Below n₀ w W2 := (hb1.mono hn0).trans hB2
    have hb3 : Below n₀ w W3 := hB.grown hg3 (Nat.le_trans hn0 hB.size) (fun k e => by cases e; omega)
    obtain ⟨hc3, hf3⟩ := cell_of_box_a hv3
    clear hW3
    refine ⟨none, W3, hend, ?_⟩
    gi_wp2
    rw [← hs0]
    refine ⟨by simp, .inl ⟨_, _, rfl, run_takeDeferred hK3, ?_⟩⟩
    exact ⟨_, results_tmp rfl _ _ _, v, rfl, hrow3.kept (grownBy_putObj_a _ _ _) (ownsRow_ne_a hrow3 hK3 (fun cur e => by cases e)), hb3.grown (grownBy_putObj_a _ _ _) (Nat.le_trans hn0 hb3.size) (fun k e => by cases e; omega)⟩
set_option maxHeartbeats 1000000 in
theorem collect_calls (F : Fence) (hro : F.round = none) (n : Nat) (hn : 4 ≤ n) (h94 : F.fn 94) (h105 : F.fn 105) (h106 : F.fn 106) (n₀ : Nat)
    (Sb Fb : Nat) (fv : Array Value) (b off c : Nat) (sw : List T.Switch) (hfv : fv[0]? = some (.slice (some ⟨b, off, none⟩) sw.length c)) (hbS : b ≠ Sb) (hFS : Fb ≠ Sb) (hnS : n₀ ≤ Sb)
    (N : Nat) (hN : N ≤ maxLen) (hNb : N * 8 ≤ 140737488355328) (xs : List Int) (hxs : xs.length ≤ N) (m : Nat) (s : Int) (hp : pathUp sw m s [] = some xs) (w : World) (hS : SwAt Sb Fb fv b off c sw s w) (hSb : Sb < w.heap.size) (hFb : Fb < w.heap.size) (hb : b < w.heap.size) (hn0 : n₀ ≤ w.heap.size) :
    CallsIn F n Go.Proofs.Try.prog 94 #[.func (.func 106) #[] #[.pointer (some ⟨Sb, 0, none⟩), .pointer (some ⟨Fb, 0, none⟩)]] w fun e w' => ∃ v, e = .returned v ∧ w'.ownsRow w.heap.size 3 1 v xs.length (xs.map encI) ∧ Below n₀ w w' := by
  have h1 : 1 ≤ n := by omega
  have e105 : ∀ args w, (callFunc 105 args).run Go.Proofs.Try.prog w = .ok (.enter 105 args) w := enters_of Go.Proofs.Try.func105 (by kernel_rfl) rfl
  refine callsIn_of_wp Go.Proofs.Try.func94 rfl h94 ?_ hro
  simp only [Go.Proofs.Try.ntmps94, List.size_toArray, List.length_cons, List.length_nil, Nat.reduceAdd, Nat.reduceSub, Array.replicate_succ, Array.replicate_zero, List.push_toArray, List.append_toArray, List.nil_append, List.cons_append]
  gi_wp2_with (gi_at_call 105; refine (appendSeq_calls F hro (n - 1) (by omega) h105 h106 n₀ Sb Fb fv b off c sw hfv hbS hFS hnS N hN hNb xs hxs m s hp _ hS hSb hFb hb hn0).mono ?_; rintro e w' ⟨v, rfl, hrow, hb⟩)
  go_ret
  exact ⟨v, rfl, hrow, hb⟩
end Go.Proofs.Ytlhknehkcflkgaa.It
