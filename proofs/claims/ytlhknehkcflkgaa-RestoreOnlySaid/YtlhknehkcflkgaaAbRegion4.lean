/- A region, whole. -/
import Derived.Test.YtlhknehkcflkgaaAbRegion3
set_option autoImplicit false
set_option linter.unusedVariables false
set_option linter.unusedSimpArgs false
namespace Go.Proofs.Ytlhknehkcflkgaa.Ab
open Go

section
variable {Γ : Reg} {ρ : Type} {O : Orc Γ ρ} {OR : ORel Γ} {w0 : World} {Bp : Nat → Nat → Prop} {F0 : Nat → Prop} {nt : Nat}
variable {P : Program} {sg : FuncId → Option Sig} {Q : Exit → Act → World → Prop}

/-- two operations, neither of which has to wait for the other -/
structure Free2 (f g : Foot Γ) : Prop where
  wr : ∀ k ∈ f.ws.map (·.1), k ∉ g.rs
  ww : ∀ k ∈ f.ws.map (·.1), k ∉ g.ws.map (·.1)
  rw : ∀ k ∈ f.rs, k ∉ g.ws.map (·.1)
theorem any_ok (hE : FnsOk Γ P sg OR) {ops : Array Oper} (hd : ∀ o ∈ ops.toList, ∀ d, o.dst = some d → d < nt) {s : St Γ.α} {fs : List (Foot Γ)} (hc : Chain OR sg ops.toList s ops.toList fs)
    (hed : ∀ (j : Nat) (o : Oper), ops.toList[j]? = some o → ∀ e ∈ o.after.toList, Region.binds .any e = true → e.on < j)
    (hfr : ∀ (L : Nat → Bool), Closed ops.toList L → ∀ (i j : Nat) f g, fs[j]? = some f → fs[i]? = some g → j < i → L j = false → (∀ (o : Oper), ops.toList[i]? = some o → ∀ e ∈ o.after.toList, Region.binds .any e = true → L e.on = true) → Free2 f g)
    (hQ : ∀ a' w', R Γ w0 Bp F0 nt (endSt s fs) a' w' → Q .normal a' w') :
    ∀ (fuel : Nat) (L : Array Bool) (a : Act) (w : World), L.size = ops.size → (List.range ops.size).countP (fun j => !(L.getD j false)) ≤ fuel → Closed ops.toList (fun j => L.getD j false) → R Γ w0 Bp F0 nt (wr s (subW (fun j => L.getD j false) 0 fs)) a w → wpAny P .any ops Q fuel L a w := by
  have hlen := hc.get.1
  have hgetD : ∀ (L : Array Bool) (i : Nat), L.size = ops.size → i < ops.size → L.getD i true = L.getD i false := by
    intro L i h1 h2
    rw [Array.getD_eq_getD_getElem?, Array.getD_eq_getD_getElem?]
    have : i < L.size := by omega
    simp [this]
  -- all listed: it is the end
  have hend : ∀ (L : Array Bool) (a : Act) (w : World), L.size = ops.size → (∀ i, i < ops.size → L.getD i false = true) → R Γ w0 Bp F0 nt (wr s (subW (fun j => L.getD j false) 0 fs)) a w → Q .normal a w := by
    intro L a w hs hall hr
    refine hQ a w ?_
    have : subW (fun j => L.getD j false) 0 fs = fs.flatMap (·.ws) := by
      rw [sub_congr (L' := fun j => decide (j < ops.size)) fs 0 (fun j _ hj => by
        have hj' : j < ops.size := by rw [hlen] at hj; simpa using hj
        rw [hall j hj', decide_eq_true hj']), sub_lt _ fs 0 ops.size (fun _ => rfl), List.take_of_length_le (by rw [hlen]; simp)]
    unfold endSt
    rw [← this]; exact hr
  -- nothing ready: all listed
  have hready : ∀ (L : Array Bool), L.size = ops.size → Region.ready .any ops L = [] → ∀ n i, i < n → i < ops.size → L.getD i false = true := by
    intro L hs hr n
    induction n with
    | zero => intro i h; omega
    | succ n ih =>
      intro i hi hlt
      cases hb : L.getD i false with
      | true => rfl
      | false =>
        exfalso
        have hi' : ops[i]? = some ops[i] := Array.getElem?_eq_getElem hlt
        have hmem : i ∈ Region.ready .any ops L := by
          unfold Region.ready
          rw [List.mem_filter]
          refine ⟨List.mem_range.2 hlt, ?_⟩
          rw [hgetD L i hs hlt, hb, hi']
          simp only [Bool.not_false, Bool.true_and, Option.map_some, Option.getD_some, Array.all_eq_true_iff_forall_mem]
          intro e he
          cases hb : Region.binds .any e with
          | false => rfl
          | true =>
            have hon := hed i ops[i] (by simp) e (by simpa using he) hb
            rw [ih e.on (by omega) (by omega)]
            simp
        rw [hr] at hmem
        cases hmem
  intro fuel
  induction fuel with
  | zero =>
    intro L a w hs hcnt hcl hr
    have hall : ∀ i, i < ops.size → L.getD i false = true := by
      intro i hi
      have h0 : (List.range ops.size).countP (fun j => !(L.getD j false)) = 0 := by omega
      have := List.countP_eq_zero.1 h0 i (List.mem_range.2 hi)
      simpa using this
    refine ⟨?_, hend L a w hs hall hr⟩
    unfold Region.ready
    rw [List.filter_eq_nil_iff]
    intro i hi
    have hi := List.mem_range.1 hi
    rw [hgetD L i hs hi, hall i hi]
    simp
  | succ fuel ih =>
    intro L a w hs hcnt hcl hr
    refine ⟨fun h => hend L a w hs (fun i hi => hready L hs h (i + 1) i (by omega) hi) hr, fun i hi => ?_⟩
    unfold Region.ready at hi
    rw [List.mem_filter] at hi
    obtain ⟨hi, hrd⟩ := hi
    have hi := List.mem_range.1 hi
    have hi' : ops[i]? = some ops[i] := Array.getElem?_eq_getElem hi
    have hil : ops.toList[i]? = some ops[i] := by simp
    rw [hgetD L i hs hi, hi'] at hrd
    simp only [Option.map_some, Option.getD_some, Bool.and_eq_true, Bool.not_eq_true', Array.all_eq_true_iff_forall_mem] at hrd
    obtain ⟨hnl, haft⟩ := hrd
    have haft' : ∀ e ∈ ops[i].after.toList, Region.binds .any e = true → L.getD e.on false = true := by
      intro e he hb
      have := haft e (by simpa using he)
      rw [hb] at this
      simpa using this
    have hif : i < fs.length := by rw [hlen]; simpa using hi
    have hfi : fs[i]? = some fs[i] := List.getElem?_eq_getElem hif
    have hst := hc.get.2 i fs[i] ops[i] hfi hil
    -- neither waits for the other
    have hbefore : ∀ j f, fs[j]? = some f → j < i → L.getD j false = false → Free2 f fs[i] := fun j f hj hlt hL => hfr _ hcl i j f fs[i] hj hfi hlt hL (fun o ho e he hb => by rw [hil] at ho; cases ho; exact haft' e he hb)
    have hafter : ∀ j f, fs[j]? = some f → i < j → L.getD j false = true → Free2 fs[i] f := fun j f hj hlt hL => by
      have hjl : j < ops.size := by have := (List.getElem?_eq_some_iff.1 hj).1; rw [hlen] at this; simpa using this
      exact hfr _ hcl j i fs[i] f hfi hj hlt hnl (fun o ho e he hb => hcl j o ho hL e he hb)
    refine op_ok (s := wr s (subW (fun j => L.getD j false) 0 fs)) (rs := fs[i].rs) (ws := fs[i].ws) hE hi' (hd _ (List.mem_of_getElem? hil)) hr (hst.alike fun k hk => ?_) fun a' w' hr' => ?_
    · have e1 : endSt s (fs.take i) = wr s (subW (fun j => decide (j < i)) 0 fs) := by rw [sub_lt _ fs 0 i (fun _ => rfl)]; rfl
      rw [e1]
      refine sub_get fs 0 s s rfl fun j f hj hne => ?_
      rw [Nat.zero_add] at hne
      by_cases h1 : j < i
      · rw [decide_eq_true h1] at hne
        intro hk'
        exact (hbefore j f hj h1 (by simpa using hne)).wr k hk' hk
      · rw [decide_eq_false h1] at hne
        have hL : L.getD j false = true := by simpa using hne
        have h2 : i < j := by
          rcases Nat.lt_or_ge i j with h | h
          · exact h
          · have : j = i := by omega
            subst this; rw [hnl] at hL; cases hL
        exact (hafter j f hj h2 hL).rw k hk
    · have hset : ∀ j, (L.setIfInBounds i true).getD j false = if j = i then true else L.getD j false := by
        intro j
        rw [Array.getD_eq_getD_getElem?, Array.getD_eq_getD_getElem?, Array.getElem?_setIfInBounds]
        by_cases e : i = j
        · subst e; simp [hs, hi]
        · rw [if_neg e, if_neg (fun x => e x.symm)]
      refine ih (L.setIfInBounds i true) a' w' (by simp [hs]) ?_ ?_ (hr'.alike ?_)
      · have := countP_lt (p := fun j => !(L.getD j false)) (q := fun j => !((L.setIfInBounds i true).getD j false)) (x := i) (l := List.range ops.size) (fun j hj => by
          simp only [hset] at hj
          by_cases e : j = i
          · rw [if_pos e] at hj; simp at hj
          · rw [if_neg e] at hj; exact hj) (by simp [hnl]) (by simp only [hset]; simp) (List.mem_range.2 hi)
        omega
      · intro j o ho hj e he hb
        simp only [hset] at hj ⊢
        split
        · rfl
        · by_cases e' : j = i
          · subst e'; rw [hil] at ho; cases ho; exact haft' e he hb
          · rw [if_neg e'] at hj; exact hcl j o ho hj e he hb
      · -- the same writes, in the text's order
        have hsplit : fs = fs.take i ++ fs[i] :: fs.drop (i + 1) := by
          rw [← List.drop_eq_getElem_cons hif, List.take_append_drop]
        have ht : (fs.take i).length = i := by simp; omega
        have e1 : subW (fun j => (L.setIfInBounds i true).getD j false) 0 fs = subW (fun j => L.getD j false) 0 (fs.take i) ++ (fs[i].ws ++ subW (fun j => L.getD j false) (i + 1) (fs.drop (i + 1))) := by
          conv => lhs; rw [hsplit, sub_append]
          simp only [subW, ht, Nat.zero_add, hset, if_true, cond_true]
          rw [sub_congr (L' := fun j => L.getD j false) (fs.take i) 0 (fun j _ hj => by rw [if_neg (by omega)]), sub_congr (L' := fun j => L.getD j false) (fs.drop (i + 1)) (i + 1) (fun j hj _ => by rw [if_neg (by omega)])]
        have e2 : subW (fun j => L.getD j false) 0 fs = subW (fun j => L.getD j false) 0 (fs.take i) ++ subW (fun j => L.getD j false) (i + 1) (fs.drop (i + 1)) := by
          conv => lhs; rw [hsplit, sub_append]
          simp only [subW, ht, Nat.zero_add, hnl, cond_false, List.nil_append]
        rw [e1, e2, wr_append, wr_append, wr_append]
        refine wr_swap fun k hk' hk => ?_
        obtain ⟨j, g, g1, g2, g3⟩ := sub_keys _ _ hk'
        rw [List.getElem?_drop] at g1
        exact (hafter (i + 1 + j) g g1 (by omega) g2).ww k hk g3
theorem R.drawn {s : St Γ.α} {a : Act} {w : World} (h : R Γ w0 Bp F0 nt s a w) (d : Nat) : R Γ w0 Bp F0 nt s a { w with drawn := d } := by
  obtain ⟨m, F, hm⟩ := h
  exact ⟨m, F, hm.world (X := fun _ => False) ⟨rfl, rfl, rfl, Nat.le_refl _, fun _ _ _ => rfl⟩ (by simp) (by simp) (by simp) (by simp) (by simp)⟩
theorem region_ok (hE : FnsOk Γ P sg OR) (hO : OrcOk O OR) (hmix : P.follows .mixedOrders = true) {id : Nat} {ops : Array Oper} {draw : Bool} (hd : ∀ o ∈ ops.toList, ∀ d, o.dst = some d → d < nt) {s : St Γ.α} {k : St Γ.α → Option ρ} {r : ρ} {a : Act} {w : World}
    (hev : evRegion sg O ops.toList draw s k = some r) (hr : R Γ w0 Bp F0 nt s a w) (hQ : ∀ s' a' w', k s' = some r → R Γ w0 Bp F0 nt s' a' w' → Q .normal a' w') : (Code.region id ops draw).wp P Q a w := by
  unfold evRegion at hev
  obtain ⟨fs, s', hc, hal, fps, h1, h2, h3⟩ := evOps_chain hO ops.toList hev
  simp only [List.nil_append] at h1
  cases draw with
  | false =>
    rw [cond_false] at h1
    have := text_ok (Q := Q) (K := fun _ _ => True) hE hd 0 hc (by simp) hr (fun a' w' hr' => hQ s' a' w' h1 (hr'.alike hal))
    rw [← List.range_eq_range'] at this
    exact wp_region (by simpa using this)
  | true =>
    rw [cond_true] at h1
    cases hk : edgesOk 0 ops.toList && allOk (preds ops.toList) [] fps with
    | false => rw [hk] at h1; cases h1
    | true =>
      rw [hk, cond_true] at h1
      simp only [Bool.and_eq_true] at hk
      obtain ⟨hk1, hk2⟩ := hk
      refine wp_region_any hmix ?_
      refine any_ok hE hd hc (fun j o ho e he hb => by have := edgesOk_spec hk1 j o ho e he hb; omega) ?_ (fun a' w' hr' => hQ s' a' w' h1 (hr'.alike hal)) ops.size _ _ _ (by simp) ?_ ?_ ?_
      · intro L hL i j f g hf hg hlt hLj haft
        have hi : i < fps.length := by rw [h2]; exact (List.getElem?_eq_some_iff.1 hg).1
        have hj : j < fps.length := by omega
        obtain ⟨p, hp, hor⟩ := allOk_spec hk2 i j fps[j] fps[i] (List.getElem?_eq_getElem hi) (by simp) (by simpa using hlt)
        have hio : i < ops.toList.length := by rw [← hc.get.1, ← h2]; exact hi
        rcases hor with hb | hb
        · have := closed_preds hL (i + 1) i (by omega) _ p j (List.getElem?_eq_getElem hio) hp (fun e he hb => haft _ (List.getElem?_eq_getElem hio) e he hb) hb
          rw [hLj] at this; cases this
        · simp only [FP.indep, Bool.and_eq_true] at hb
          obtain ⟨⟨b1, b2⟩, b3⟩ := hb
          obtain ⟨f1, f2⟩ := h3 j f fps[j] hf (List.getElem?_eq_getElem hj)
          obtain ⟨g1, g2⟩ := h3 i g fps[i] hg (List.getElem?_eq_getElem hi)
          refine ⟨fun k hk hk' => ?_, fun k hk hk' => ?_, fun k hk hk' => ?_⟩
          · exact apartK_spec b1 k (by rw [f1]; exact hk) (g2 k hk')
          · exact apartK_spec b2 k (by rw [f1]; exact hk) (by rw [g1]; exact hk')
          · exact apartK_spec b3 k (f2 k hk) (by rw [g1]; exact hk')
      · have := List.countP_le_length (p := fun j => !((Array.replicate ops.size false).getD j false)) (l := List.range ops.size)
        simpa using this
      · intro i o ho hLi
        simp only [Array.getD_eq_getD_getElem?, Array.getElem?_replicate] at hLi
        split at hLi <;> simp at hLi
      · have : subW (fun j => (Array.replicate ops.size false).getD j false) 0 fs = [] := by
          rw [sub_congr (L' := fun j => decide (j < 0)) fs 0 (fun j _ _ => by
            simp only [Array.getD_eq_getD_getElem?, Array.getElem?_replicate]
            split <;> simp), sub_lt _ fs 0 0 (fun _ => rfl)]
          simp
        rw [this]
        exact hr.drawn _
end
end Go.Proofs.Ytlhknehkcflkgaa.Ab
