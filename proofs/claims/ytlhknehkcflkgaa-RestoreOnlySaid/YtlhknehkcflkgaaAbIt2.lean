/- The iterator feeder.up hands back: switch after switch, upwards. -/
import Derived.Test.YtlhknehkcflkgaaAbIt
set_option autoImplicit false
set_option linter.unusedVariables false
namespace Go.Proofs.Ytlhknehkcflkgaa.It
open Go Go.RowKit Go.Maps Go.Shelf
def findLoop : Code → Option Code
  | .loop c => some c
  | .seq a b => match findLoop a with | some x => some x | none => findLoop b
  | .block _ c => findLoop c
  | _ => none
noncomputable def lp106 : Code := match Go.Proofs.Try.f106.body with | some c => (match findLoop c with | some x => x | none => .skip) | none => .skip
/-- what stands while the switches are gone through -/
structure UpAt (n₀ w0 : Nat) (fn : FuncId) (sv : Value) (Bs l D Sb Fb : Nat) (fv : Array Value) (b off c : Nat) (sw : List T.Switch) (s : Int) (pre : List Int) (W : World) : Prop where
  ap : ApAt w0 fn sv Bs l D pre W
  sb : W.heap[Sb]? = some (.cells #[.int .i64 s] 3 (0, 0))
  fb : W.heap[Fb]? = some (.cells fv 45 (0, 0))
  cells : ∀ i, i < sw.length → W.cell? ⟨b, off + i * 5, none⟩ = some (.int .i64 (Ab.rd sw i default).Above)
theorem cells76 : Go.Proofs.Try.prog.cellsOf 76 = 5 := by kernel_rfl
theorem pathUp_pre {sw : List T.Switch} : ∀ {m : Nat} {s : Int} {pre xs : List Int}, pathUp sw m s pre = some xs → ∃ k, xs = pre ++ k
  | 0, _, _, _, h => by cases h
  | m + 1, s, pre, xs, h => by
    unfold pathUp at h
    cases h1 : decide (s ≥ 0) with
    | false => rw [h1] at h; exact ⟨[], by cases h; simp⟩
    | true =>
      rw [h1] at h
      cases h2 : decide (s < (sw.length : Int)) with
      | false => rw [h2] at h; cases h
      | true =>
        rw [h2] at h
        obtain ⟨k, rfl⟩ := pathUp_pre (show pathUp sw m (Ab.rd sw s.toNat default).Above (pre ++ [s]) = some xs from h)
        exact ⟨[s] ++ k, by simp⟩
set_option maxRecDepth 100000 in
set_option maxHeartbeats 2000000 in
theorem up_rounds (F : Fence) (hro : F.round = none) (n : Nat) (hn : 1 ≤ n) (n₀ w0 : Nat) (fn : FuncId) (hfn : F.fn fn) (sv : Value) (Bs l D : Nat) (hBl : Bs ≠ l) (hDl : D ≠ l) (hDB : D ≠ Bs) (h0B : w0 ≤ Bs) (h0l : w0 ≤ l) (h0D : w0 ≤ D)
    (Sb Fb : Nat) (fv : Array Value) (b off c : Nat) (sw : List T.Switch) (hfv : fv[0]? = some (.slice (some ⟨b, off, none⟩) sw.length c)) (hSb : Sb < w0) (hFb : Fb < w0) (hb : b < w0) (hbS : b ≠ Sb) (hFS : Fb ≠ Sb) (hnS : n₀ ≤ Sb) (hn0 : n₀ ≤ w0)
    (N : Nat) (hN : N ≤ maxLen) (hNb : N * 8 ≤ 140737488355328) (xs : List Int) (hxs : xs.length ≤ N) (Q : Exit → Act → World → Prop) (W0 : World)
    (hQ : ∀ a s W', UpAt n₀ w0 fn sv Bs l D Sb Fb fv b off c sw s xs W' → a.defers = [] → Below n₀ W0 W' → Q (.exit 0) a W') :
    ∀ (m : Nat) (s : Int) (pre : List Int) (W : World) (t3 t4 t5 t6 t7 t8 t9 t10 t11 t12 t13 t14 t15 : Value), pathUp sw m s pre = some xs → UpAt n₀ w0 fn sv Bs l D Sb Fb fv b off c sw s pre W → w0 ≤ W.heap.size → Below n₀ W0 W →
    Code.roundsIn F n Go.Proofs.Try.prog lp106 Q m { tmps := #[.func (.yield l) #[] #[], .pointer (some ⟨Sb, 0, none⟩), .pointer (some ⟨Fb, 0, none⟩), t3, t4, t5, t6, t7, t8, t9, t10, t11, t12, t13, t14, t15], defers := [] } W := by
  intro m
  induction m with
  | zero => intro s pre W t3 t4 t5 t6 t7 t8 t9 t10 t11 t12 t13 t14 t15 h; cases h
  | succ m ih =>
    intro s pre W t3 t4 t5 t6 t7 t8 t9 t10 t11 t12 t13 t14 t15 h hU hw hB
    obtain ⟨hs1, hs2⟩ := cell_of_box_a hU.sb
    rw [roundsIn_succ]
    generalize hrest : Code.roundsIn F n Go.Proofs.Try.prog lp106 Q m = rest at ih ⊢
    dsimp only [lp106, findLoop, Go.Proofs.Try.f106]
    by_cases hs : s ≥ 0
    · have hp : pathUp sw (m + 1) s pre = some xs := h
      unfold pathUp at hp
      rw [show Ab.sel (decide (s ≥ 0)) = fun a _ => a from by funext a b; rw [decide_eq_true hs]; rfl] at hp
      dsimp only at hp
      have hlt' : s < (sw.length : Int) := by
        by_cases hc : s < (sw.length : Int)
        · exact hc
        · rw [decide_eq_false hc] at hp; cases hp
      rw [decide_eq_true hlt'] at hp
      have hp : pathUp sw m (Ab.rd sw s.toNat default).Above (pre ++ [s]) = some xs := hp
      have hpre' := pathUp_pre hp
      have hlt : pre.length < N := by
        obtain ⟨k, rfl⟩ := hpre'
        simp only [List.length_append, List.length_cons, List.length_nil] at hxs
        omega
      obtain ⟨fn', tmps, assign, body, hy, hR⟩ := apYield F (n - 1) w0 fn hfn sv Bs l D hBl hDl hDB h0B h0l N hN hNb pre s W hU.ap hw hlt
      gi_wp2
      refine hR.mono ?_
      rintro e W' ⟨rfl, hA, hBW⟩
      have hsb : W'.heap[Sb]? = some (.cells #[.int .i64 s] 3 (0, 0)) := (hBW.block Sb hSb).trans hU.sb
      have hfb : W'.heap[Fb]? = some (.cells fv 45 (0, 0)) := (hBW.block Fb hFb).trans hU.fb
      have hcs : ∀ i, i < sw.length → W'.cell? ⟨b, off + i * 5, none⟩ = some (.int .i64 (Ab.rd sw i default).Above) := fun i hi => (World.cell?_of_block (hBW.block b hb)).trans (hU.cells i hi)
      obtain ⟨hs1', hs2'⟩ := cell_of_box_a hsb
      have hf1 : W'.cell? ⟨Fb, 0, none⟩ = some (.slice (some ⟨b, off, none⟩) sw.length c) := by simp [World.cell?, hfb, hfv]
      have hc1 := hcs s.toNat (by omega)
      have hlt2 : s.toNat < sw.length := by omega
      gi_wp2
      obtain ⟨W4, hW4⟩ : ∃ W4, W'.setCell ⟨Sb, 0, none⟩ (.int .i64 (Ab.rd sw s.toNat default).Above) = W4 := ⟨_, rfl⟩
      rw [hW4]
      have hg4 : W'.grownBy W4 (some Sb) := by rw [← hW4]; exact grownBy_setCell0_a _ _ _
      have hsb4 : W4.heap[Sb]? = some (.cells #[.int .i64 (Ab.rd sw s.toNat default).Above] 3 (0, 0)) := by rw [← hW4]; exact heap_setCell_box_a _ hsb
      have hk4 : ∀ k o, W'.heap[k]? = some o → k ≠ Sb → W4.heap[k]? = some o := fun k o hk hne => (hg4.block k (Array.getElem?_eq_some_iff.1 hk).1 (fun e => hne (by cases e; rfl))).trans hk
      obtain ⟨v, hv, hrow⟩ := hA.box
      have hwW : w0 ≤ W'.heap.size := Nat.le_trans hw hBW.size
      have hrow4 := hrow.kept hg4 (by
        rcases hrow.2 with ⟨rfl, _⟩ | ⟨g, cap, cur, rfl, hg0, hgb, _⟩
        · exact .inl rfl
        · refine .inr fun e' => ?_
          have : g = Sb := by simpa [Value.ownBlock] using e'
          omega)
      have hB4 : Below n₀ W0 W4 := (hB.trans (hBW.mono hn0)).grown hg4 (by have := hB.size; have := hBW.size; exact Nat.le_trans hn0 hwW) (fun k e => by cases e; exact hnS)
      refine ih _ _ W4 _ _ _ _ _ _ _ _ _ _ _ _ _ hp ⟨⟨⟨v, hk4 _ _ hv (by omega), hrow4⟩, hk4 _ _ hA.L (by omega), hk4 _ _ hA.K (by omega)⟩, hsb4, hk4 _ _ hfb hFS, fun i hi => ?_⟩ (Nat.le_trans hwW hg4.size) hB4
      exact (World.cell?_of_block (hg4.block b (by have := World.block_lt_of_cell? W' _ (hcs i hi); exact this) (fun e => hbS (by cases e; rfl)))).trans (hcs i hi)
    · gi_wp2
      have hp : pathUp sw (m + 1) s pre = some xs := h
      unfold pathUp at hp
      rw [decide_eq_false (by omega : ¬ s ≥ 0)] at hp
      have hp : some pre = some xs := hp
      cases hp
      exact hQ _ s W hU rfl hB
end Go.Proofs.Ytlhknehkcflkgaa.It
