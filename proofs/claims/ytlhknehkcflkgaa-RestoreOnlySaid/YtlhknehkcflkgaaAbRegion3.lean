/- A region, run in any order that its edges leave open. -/
import Derived.Test.YtlhknehkcflkgaaAbRegion2
set_option autoImplicit false
set_option linter.unusedVariables false
set_option linter.unusedSimpArgs false
namespace Go.Proofs.Ytlhknehkcflkgaa.Ab
open Go

section
variable {Γ : Reg} {ρ : Type} {O : Orc Γ ρ} {OR : ORel Γ} {w0 : World} {Bp : Nat → Nat → Prop} {F0 : Nat → Prop} {nt : Nat}
variable {P : Program} {sg : FuncId → Option Sig} {Q : Exit → Act → World → Prop}

/-! ### what comes ahead of what -/
def pred1 (acc : List Nat) (o : Oper) : Nat := o.after.toList.foldl (fun s e => bif Region.binds .any e then s ||| 2 ^ e.on ||| acc.getD e.on 0 else s) 0
theorem pred1_bit {acc : List Nat} {o : Oper} {j : Nat} : (pred1 acc o).testBit j = true → ∃ e ∈ o.after.toList, Region.binds .any e = true ∧ (e.on = j ∨ (acc.getD e.on 0).testBit j = true) := by
  unfold pred1
  have gen : ∀ (l : List Edge) (s0 : Nat), (l.foldl (fun s e => bif Region.binds .any e then s ||| 2 ^ e.on ||| acc.getD e.on 0 else s) s0).testBit j = true → s0.testBit j = true ∨ ∃ e ∈ l, Region.binds .any e = true ∧ (e.on = j ∨ (acc.getD e.on 0).testBit j = true) := by
    intro l
    induction l with
    | nil => intro s0 h; exact .inl h
    | cons e l ih =>
      intro s0 h
      simp only [List.foldl_cons] at h
      rcases ih _ h with h1 | ⟨e', h1, h2⟩
      · cases hb : Region.binds .any e with
        | false => rw [hb] at h1; exact .inl h1
        | true =>
          rw [hb, cond_true, Nat.testBit_or, Nat.testBit_or, Bool.or_eq_true, Bool.or_eq_true] at h1
          rcases h1 with (h1 | h1) | h1
          · exact .inl h1
          · rw [Nat.testBit_two_pow] at h1
            exact .inr ⟨e, List.mem_cons_self, hb, .inl (of_decide_eq_true h1)⟩
          · exact .inr ⟨e, List.mem_cons_self, hb, .inr h1⟩
      · exact .inr ⟨e', List.mem_cons_of_mem _ h1, h2⟩
  intro h
  rcases gen _ 0 h with h | h
  · simp at h
  · exact h
theorem preds_go : ∀ (ops : List Oper) (acc : List Nat), (ops.foldl (fun acc o => acc ++ [pred1 acc o]) acc).length = acc.length + ops.length ∧ (∀ i, i < acc.length → (ops.foldl (fun acc o => acc ++ [pred1 acc o]) acc)[i]? = acc[i]?) ∧
    ∀ i o, ops[i]? = some o → ∃ acc', (∀ k, k < acc.length + i → acc'[k]? = (ops.foldl (fun acc o => acc ++ [pred1 acc o]) acc)[k]?) ∧ acc'.length = acc.length + i ∧ (ops.foldl (fun acc o => acc ++ [pred1 acc o]) acc)[acc.length + i]? = some (pred1 acc' o)
  | [], acc => ⟨by simp, fun _ _ => rfl, by simp⟩
  | x :: ops, acc => by
    obtain ⟨h1, h2, h3⟩ := preds_go ops (acc ++ [pred1 acc x])
    simp only [List.foldl_cons]
    refine ⟨by rw [h1]; simp; omega, fun i hi => ?_, fun i o ho => ?_⟩
    · rw [h2 i (by simp; omega), List.getElem?_append_left hi]
    · cases i with
      | zero =>
        simp at ho
        subst ho
        refine ⟨acc, fun k hk => ?_, rfl, ?_⟩
        · rw [h2 k (by simp; omega), List.getElem?_append_left (by omega)]
        · rw [Nat.add_zero, h2 _ (by simp), List.getElem?_append_right (by omega)]; simp
      | succ i =>
        obtain ⟨acc', g1, g2, g3⟩ := h3 i o (by simpa using ho)
        simp only [List.length_append, List.length_singleton] at g1 g2 g3
        refine ⟨acc', fun k hk => g1 k (by omega), by omega, ?_⟩
        rw [show acc.length + (i + 1) = acc.length + 1 + i by omega]; exact g3
theorem preds_bit {ops : List Oper} {i j p : Nat} {o : Oper} (ho : ops[i]? = some o) (hp : (preds ops)[i]? = some p) (hb : p.testBit j = true) :
    ∃ e ∈ o.after.toList, Region.binds .any e = true ∧ (e.on = j ∨ (e.on < i ∧ ∃ p', (preds ops)[e.on]? = some p' ∧ p'.testBit j = true)) := by
  obtain ⟨_, _, h3⟩ := preds_go ops []
  obtain ⟨acc', g1, g2, g3⟩ := h3 i o ho
  simp only [List.length_nil, Nat.zero_add] at g1 g2 g3
  change (preds ops)[i]? = _ at g3
  rw [hp] at g3
  cases g3
  obtain ⟨e, e1, e2, e3⟩ := pred1_bit hb
  refine ⟨e, e1, e2, e3.imp id fun h => ?_⟩
  rw [List.getD_eq_getElem?_getD] at h
  cases hq : acc'[e.on]? with
  | none => rw [hq] at h; simp at h
  | some p' =>
    rw [hq] at h
    have hlt : e.on < i := by
      have := (List.getElem?_eq_some_iff.1 hq).1
      omega
    exact ⟨hlt, p', by rw [← hq]; exact (g1 _ hlt).symm, h⟩
/-- what is listed holds all that comes ahead of it -/
def Closed (ops : List Oper) (L : Nat → Bool) : Prop := ∀ i o, ops[i]? = some o → L i = true → ∀ e ∈ o.after.toList, Region.binds .any e = true → L e.on = true
theorem closed_preds {ops : List Oper} {L : Nat → Bool} (hL : Closed ops L) : ∀ (n i : Nat), i < n → ∀ o p j, ops[i]? = some o → (preds ops)[i]? = some p → (∀ e ∈ o.after.toList, Region.binds .any e = true → L e.on = true) → p.testBit j = true → L j = true
  | 0, _, h => by omega
  | n + 1, i, h => by
    intro o p j ho hp he hb
    obtain ⟨e, e1, e2, e3⟩ := preds_bit ho hp hb
    rcases e3 with rfl | ⟨hlt, p', hp', hb'⟩
    · exact he e e1 e2
    · have hon := he e e1 e2
      cases ho' : ops[e.on]? with
      | none =>
        have h1 := (List.getElem?_eq_some_iff.1 ho).1
        rw [List.getElem?_eq_none_iff] at ho'
        omega
      | some o' => exact closed_preds hL n e.on (by omega) o' p' j ho' hp' (fun e' h1 h2 => hL e.on o' ho' hon e' h1 h2) hb'

/-! ### footprints that do not meet -/
theorem keyIn_iff {k : Key} : ∀ {l : List Key}, keyIn k l = true ↔ k ∈ l
  | [] => by simp [keyIn]
  | k' :: r => by
    simp only [keyIn, List.mem_cons]
    cases h : k'.same k with
    | true => simp [(Key.same_iff.1 h).symm]
    | false =>
      have : ¬ k = k' := fun e => by rw [Key.same_iff.2 e.symm] at h; cases h
      simp [this, keyIn_iff (l := r)]
theorem apartK_spec : ∀ {l r : List Key}, apartK l r = true → ∀ k ∈ l, k ∉ r
  | [], _, _ => by simp
  | k' :: l, r, h => by
    simp only [apartK] at h
    cases hk : keyIn k' r with
    | true => rw [hk] at h; cases h
    | false =>
      rw [hk] at h
      intro k hkm
      rcases List.mem_cons.1 hkm with rfl | hkm
      · intro hm; rw [keyIn_iff.2 hm] at hk; cases hk
      · exact apartK_spec h k hkm
theorem pairOk_spec {p : Nat} {b : FP} : ∀ {l : List FP} {i : Nat}, pairOk p b i l = true → ∀ j a, l[j]? = some a → p.testBit (i + j) = true ∨ FP.indep a b = true
  | [], i, _ => by simp
  | a' :: l, i, h => by
    simp only [pairOk] at h
    cases hc : p.testBit i || FP.indep a' b with
    | false => rw [hc] at h; cases h
    | true =>
      rw [hc] at h
      intro j a hj
      cases j with
      | zero => simp at hj; subst hj; simpa using hc
      | succ j =>
        have := pairOk_spec (i := i + 1) h j a (by simpa using hj)
        rwa [show i + 1 + j = i + (j + 1) by omega] at this
theorem allOk_spec : ∀ {fps : List FP} {ps : List Nat} {seen : List FP}, allOk ps seen fps = true → ∀ (i j : Nat) (a b : FP), fps[i]? = some b → (seen ++ fps)[j]? = some a → j < seen.length + i → ∃ p, ps[i]? = some p ∧ (p.testBit j = true ∨ FP.indep a b = true)
  | [], ps, seen, h => by simp
  | b' :: fps, [], seen, h => by simp [allOk] at h
  | b' :: fps, p :: ps, seen, h => by
    simp only [allOk] at h
    cases hc : pairOk p b' 0 seen with
    | false => rw [hc] at h; cases h
    | true =>
      rw [hc] at h
      intro i j a b hi hj hlt
      cases i with
      | zero =>
        simp at hi
        subst hi
        rw [List.getElem?_append_left (by omega)] at hj
        have := pairOk_spec hc j a hj
        rw [Nat.zero_add] at this
        exact ⟨p, rfl, this⟩
      | succ i =>
        have := allOk_spec (seen := seen ++ [b']) h i j a b (by simpa using hi) (by simpa using hj) (by simp; omega)
        simpa using this

/-! ### the state when some are done -/
def subW (L : Nat → Bool) : Nat → List (Foot Γ) → List (Key × Option (Val Γ.α))
  | _, [] => []
  | i, f :: fs => (bif L i then f.ws else []) ++ subW L (i + 1) fs
theorem get_skip {k : Key} {ws : List (Key × Option (Val Γ.α))} (s : St Γ.α) (h : k ∉ ws.map (·.1)) : (wr s ws).get k = s.get k :=
  get_wr_notin ws s (by cases hq : keyIn k (ws.map (·.1)) with
    | false => rfl
    | true => exact absurd (keyIn_iff.1 hq) h)
theorem sub_get {k : Key} {L L' : Nat → Bool} : ∀ (fs : List (Foot Γ)) (i : Nat) (s s' : St Γ.α), s.get k = s'.get k → (∀ j f, fs[j]? = some f → L (i + j) ≠ L' (i + j) → k ∉ f.ws.map (·.1)) → (wr s (subW L i fs)).get k = (wr s' (subW L' i fs)).get k
  | [], i, s, s', hs, _ => hs
  | f :: fs, i, s, s', hs, h => by
    simp only [subW, wr_append]
    refine sub_get fs (i + 1) _ _ ?_ (fun j g hj hne => h (j + 1) g (by simpa using hj) (by rwa [show i + 1 + j = i + (j + 1) by omega] at hne))
    have h0 := h 0 f rfl
    rw [Nat.add_zero] at h0
    cases h1 : L i with
    | true =>
      cases h2 : L' i with
      | true => exact get_wr_mem f.ws s s' (.inr hs)
      | false =>
        rw [cond_true, cond_false]
        rw [get_skip s (h0 (by rw [h1, h2]; simp))]; exact hs
    | false =>
      cases h2 : L' i with
      | true =>
        rw [cond_true, cond_false]
        rw [get_skip s' (h0 (by rw [h1, h2]; simp))]; exact hs
      | false => exact hs
theorem sub_lt (L : Nat → Bool) : ∀ (fs : List (Foot Γ)) (i n : Nat), (∀ j, L j = decide (j < n)) → subW L i fs = (fs.take (n - i)).flatMap (·.ws)
  | [], i, n, _ => by simp [subW]
  | f :: fs, i, n, h => by
    simp only [subW, sub_lt L fs (i + 1) n h, h i]
    by_cases hi : i < n
    · rw [decide_eq_true hi, cond_true, show n - i = (n - (i + 1)) + 1 by omega, List.take_succ_cons, List.flatMap_cons]
    · rw [decide_eq_false hi, cond_false, show n - i = 0 by omega, show n - (i + 1) = 0 by omega]; simp
theorem sub_append (L : Nat → Bool) : ∀ (fs gs : List (Foot Γ)) (i : Nat), subW L i (fs ++ gs) = subW L i fs ++ subW L (i + fs.length) gs
  | [], gs, i => by simp [subW]
  | f :: fs, gs, i => by
    simp only [List.cons_append, subW, sub_append L fs gs (i + 1), List.append_assoc, List.length_cons]
    rw [show i + 1 + fs.length = i + (fs.length + 1) by omega]
theorem sub_congr {L L' : Nat → Bool} : ∀ (fs : List (Foot Γ)) (i : Nat), (∀ j, i ≤ j → j < i + fs.length → L j = L' j) → subW L i fs = subW L' i fs
  | [], i, _ => rfl
  | f :: fs, i, h => by
    simp only [List.length_cons] at h
    simp only [subW, h i (Nat.le_refl _) (by omega), sub_congr fs (i + 1) (fun j h1 h2 => h j (by omega) (by omega))]
theorem wr_swap {s : St Γ.α} {A B : List (Key × Option (Val Γ.α))} (h : ∀ k ∈ A.map (·.1), k ∉ B.map (·.1)) : Alike (wr (wr s A) B) (wr (wr s B) A) := by
  intro k
  by_cases hA : k ∈ A.map (·.1)
  · rw [get_skip (wr s A) (h k hA)]
    exact get_wr_mem A _ _ (.inl hA)
  · rw [get_skip (wr s B) hA]
    exact get_wr_mem B _ _ (.inr (get_skip s hA).symm)
theorem sub_keys {L : Nat → Bool} {k : Key} : ∀ (fs : List (Foot Γ)) (i : Nat), k ∈ (subW L i fs).map (·.1) → ∃ j f, fs[j]? = some f ∧ L (i + j) = true ∧ k ∈ f.ws.map (·.1)
  | [], i, h => by simp [subW] at h
  | f :: fs, i, h => by
    simp only [subW, List.map_append, List.mem_append] at h
    rcases h with h | h
    · cases h1 : L i with
      | false => rw [h1] at h; simp at h
      | true => rw [h1] at h; exact ⟨0, f, rfl, by simpa using h1, h⟩
    · obtain ⟨j, g, h1, h2, h3⟩ := sub_keys fs (i + 1) h
      exact ⟨j + 1, g, by simpa using h1, by rwa [show i + (j + 1) = i + 1 + j by omega], h3⟩
theorem Chain.get {all : List Oper} {rest : List Oper} {s : St Γ.α} {fs : List (Foot Γ)} (h : Chain OR sg all s rest fs) : fs.length = rest.length ∧ ∀ i f o, fs[i]? = some f → rest[i]? = some o → OStep OR sg all (endSt s (fs.take i)) o f.rs f.ws := by
  induction h with
  | nil => exact ⟨rfl, by simp⟩
  | cons f h t ih =>
    rename_i s o rest fs
    refine ⟨by simp [ih.1], fun i g o' h1 h2 => ?_⟩
    cases i with
    | zero => simp at h1 h2; subst h1; subst h2; simpa [endSt, wr] using h
    | succ i =>
      have := ih.2 i g o' (by simpa using h1) (by simpa using h2)
      simpa [endSt, wr_append] using this
theorem countP_lt {β : Type} {p q : β → Bool} {x : β} : ∀ {l : List β}, (∀ y, q y = true → p y = true) → p x = true → q x = false → x ∈ l → l.countP q < l.countP p
  | [], _, _, _, h => by simp at h
  | y :: l, h1, h2, h3, h => by
    have hle : l.countP q ≤ l.countP p := List.countP_mono_left fun z _ hz => h1 z hz
    rcases List.mem_cons.1 h with rfl | h
    · rw [List.countP_cons_of_pos h2, List.countP_cons_of_neg (by simp [h3])]; omega
    · have := countP_lt h1 h2 h3 h
      simp only [List.countP_cons]
      cases hq : q y with
      | true => simp [h1 y hq]; omega
      | false => simp; omega
theorem edgesOk_spec : ∀ {ops : List Oper} {i : Nat}, edgesOk i ops = true → ∀ j o, ops[j]? = some o → ∀ e ∈ o.after.toList, Region.binds .any e = true → e.on < i + j
  | [], _, _ => by simp
  | o' :: ops, i, h => by
    simp only [edgesOk] at h
    cases hc : o'.after.toList.all (fun e => bif Region.binds .any e then Nat.blt e.on i else true) with
    | false => rw [hc] at h; cases h
    | true =>
      rw [hc] at h
      intro j o hj e he hb
      cases j with
      | zero =>
        simp at hj
        subst hj
        have := List.all_eq_true.1 hc e he
        rw [hb] at this
        simpa using this
      | succ j =>
        have := edgesOk_spec h j o (by simpa using hj) e he hb
        omega
end
end Go.Proofs.Ytlhknehkcflkgaa.Ab
