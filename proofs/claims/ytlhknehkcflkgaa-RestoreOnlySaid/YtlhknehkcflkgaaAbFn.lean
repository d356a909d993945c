/- A function: the state that its arguments make. -/
import Derived.Test.YtlhknehkcflkgaaAbCode
set_option autoImplicit false
set_option linter.unusedVariables false
set_option linter.unusedSimpArgs false
namespace Go.Proofs.Ytlhknehkcflkgaa.Ab
open Go

section
variable {Γ : Reg} {w0 : World} {Bp : Nat → Nat → Prop} {F0 : Nat → Prop} {nt : Nat} {P : Program} {s : St Γ.α} {a : Act} {w : World} {m : Places} {F : Nat → Prop}

/-- what a temporary holds, told -/
theorem Rm.tell {t : Tmp} {v : AV Γ.α} (h : Rm Γ w0 Bp F0 nt s a w m F) (hv : RAV m F w v (a.tmps.getD t undef)) : Rm Γ w0 Bp F0 nt ((.tmp t, some (.av v)) :: s) a w m F := by
  have he : ∀ k, (∀ t, k ≠ .tmp t) → St.get ((.tmp t, some (.av v)) :: s) k = s.get k := fun k hk => by rw [St.get_cons, if_neg (fun e => hk t e.symm)]
  refine ⟨h.fr, h.f0, h.f1, h.f2, h.bp, fun t' v' ht => ?_, fun id off l => by rw [he _ (by simp)]; exact h.cell id off l, fun id e xs => by rw [he _ (by simp), he _ (by simp)]; exact h.row id e xs,
    fun id n => by rw [he _ (by simp)]; exact h.used id n, fun id => by rw [he _ (by simp)]; exact h.free id, h.box,
    fun id b hb => h.ours id b (by simpa [Owns, he] using hb), fun id id' b h1 h2 => h.dist id id' b (by simpa [Owns, he] using h1) (by simpa [Owns, he] using h2), h.nodef, h.size, h.fix, fun id => by rw [he _ (by simp), he _ (by simp)]; exact h.mu id, h.cst.1, fun id b hb => h.cst.2.1 id b (by simpa [Owns, he] using hb), h.cst.2.2⟩
  rw [St.get_cons] at ht
  by_cases e : t = t'
  · subst e
    simp at ht
    subst ht
    exact hv
  · rw [if_neg (by simpa using e)] at ht
    exact h.tmp t' v' ht
theorem boxId_inj {i j k k' : Nat} (hi : i < 90) (hj : j < 90) (h : boxId i k = boxId j k') : i = j := by unfold boxId at h; omega
theorem parSt_cons {b : Bool} {t : TypeId} {ps : List (Bool × TypeId)} (x : parTy Γ ((b, t) :: ps)) : ∃ (x1 : Γ.α t) (x2 : parTy Γ ps), ∀ i bs ks, parSt Γ i ((b, t) :: ps) bs ks x = wr (parSt Γ (i + 1) ps (bsTail b bs) (ksTail b ks) x2) (par1 Γ i (ksHead b ks) b t (bsHead b bs) x1) := by
  cases ps with
  | nil => exact ⟨x, (), fun i bs ks => by simp [parSt]⟩
  | cons p2 r => exact ⟨x.1, x.2, fun i bs ks => rfl⟩
theorem parCells_keys {i id : Nat} : ∀ (cs : List (Lf Γ.α)) (off : Nat) (fs : List Bool), ∀ k ∈ (parCells i id off fs cs).map (·.1), (∃ j, k = .cell id j) ∨ ∃ j, off ≤ j ∧ j < off + cs.length ∧ (k = .used (rowId i j) ∨ k = .row (rowId i j) ∨ k = .mut (rowId i j))
  | [], off, fs => by cases fs with
    | nil => simp [parCells]
    | cons f fs => cases f <;> simp [parCells]
  | l :: cs, off, fs => by
    have plainC : parCells i id off fs (l :: cs) = (.cell id off, some (.lf l)) :: parCells i id (off + 1) fs.tail cs → ∀ k ∈ (parCells i id off fs (l :: cs)).map (·.1), (∃ j, k = .cell id j) ∨ ∃ j, off ≤ j ∧ j < off + (l :: cs).length ∧ (k = .used (rowId i j) ∨ k = .row (rowId i j) ∨ k = .mut (rowId i j)) := fun h k hk => by
      rw [h] at hk
      simp only [List.map_cons, List.mem_cons] at hk
      rcases hk with rfl | hk
      · exact .inl ⟨off, rfl⟩
      · rcases parCells_keys cs (off + 1) fs.tail k hk with h | ⟨j, h1, h2, h3⟩
        · exact .inl h
        · exact .inr ⟨j, by omega, by simp only [List.length_cons]; omega, h3⟩
    cases fs with
    | nil => exact plainC (by cases l <;> rfl)
    | cons f fs =>
      cases f with
      | false => exact plainC (by cases l <;> rfl)
      | true =>
        cases l with
        | sl e xs =>
          intro k hk
          simp only [parCells, List.map_cons, List.mem_cons] at hk
          rcases hk with rfl | rfl | rfl | rfl | hk
          · exact .inr ⟨off, Nat.le_refl _, by simp only [List.length_cons]; omega, .inl rfl⟩
          · exact .inr ⟨off, Nat.le_refl _, by simp only [List.length_cons]; omega, .inr (.inl rfl)⟩
          · exact .inr ⟨off, Nat.le_refl _, by simp only [List.length_cons]; omega, .inr (.inr rfl)⟩
          · exact .inl ⟨off, rfl⟩
          · rcases parCells_keys cs (off + 1) fs k hk with h | ⟨j, h1, h2, h3⟩
            · exact .inl h
            · exact .inr ⟨j, by omega, by simp only [List.length_cons]; omega, h3⟩
        | _ => exact plainC rfl
/-- names that no parameter from the i-th on has -/
def FreshP (i id : Nat) : Prop := ∀ j, i ≤ j → j < 90 → (∀ k, id ≠ boxId j k) ∧ ∀ off, off < 100 → id ≠ rowId j off
theorem par_get_used {id : Nat} : ∀ {ps : List (Bool × TypeId)} {bs : List (TypeId × List Bool)} {ks : List Nat} {i : Nat} (x : parTy Γ ps), (∀ t y, (Γ.pk t y).length = Γ.sz t) → (∀ p ∈ ps, Γ.sz p.2 ≤ 100) → i + ps.length ≤ 90 → FreshP i id → (parSt Γ i ps bs ks x).get (.used id) = none
  | [], _, _, _, _, _, _, _, _ => rfl
  | (b, t) :: ps, bs, ks, i, x, hl, hs, hi, h => by
    simp only [List.length_cons] at hi
    obtain ⟨x1, x2, e⟩ := parSt_cons x
    have ih := par_get_used (id := id) (i := i + 1) (ps := ps) (bs := bsTail b bs) (ks := ksTail b ks) x2 hl (fun p hp => hs p (List.mem_cons_of_mem _ hp)) (by omega) (fun j hj => h j (by omega))
    have h0 := h i (Nat.le_refl _) (by omega)
    have hsz : Γ.sz t ≤ 100 := hs _ List.mem_cons_self
    rw [e, wr_get_not _ _ ?_]
    · exact ih
    · cases b with
      | false => simp [par1]
      | true =>
        simp only [par1, cond_true, List.map_cons, List.map_append, List.mem_cons, List.mem_append, not_or]
        refine ⟨by simpa using h0.1 _, fun hk => ?_, by simp⟩
        rcases parCells_keys _ _ _ _ hk with ⟨j, hj⟩ | ⟨j, _, h2, h3⟩
        · cases hj
        · rw [hl] at h2
          rcases h3 with h3 | h3 | h3 <;> cases h3
          exact h0.2 j (by omega) rfl
theorem unpkPar_cons {b : Bool} {t : TypeId} {ps : List (Bool × TypeId)} {cs : List (Lf Γ.α)} {css : List (List (Lf Γ.α))} {x : parTy Γ ((b, t) :: ps)} (h : unpkPar Γ ((b, t) :: ps) (cs :: css) = some x) :
    ∃ (x1 : Γ.α t) (x2 : parTy Γ ps), Γ.unpk t cs = some x1 ∧ unpkPar Γ ps css = some x2 ∧ ∀ i bs ks, parSt Γ i ((b, t) :: ps) bs ks x = wr (parSt Γ (i + 1) ps (bsTail b bs) (ksTail b ks) x2) (par1 Γ i (ksHead b ks) b t (bsHead b bs) x1) := by
  cases ps with
  | nil =>
    cases css with
    | nil => exact ⟨x, (), h, rfl, fun i bs ks => by simp [parSt]⟩
    | cons _ _ => exact absurd (show (none : Option (parTy Γ [(b, t)])) = some x from h) (by simp)
  | cons p2 r =>
    have h : opt2 (Γ.unpk t cs) (unpkPar Γ (p2 :: r) css) = some x := h
    cases h1 : Γ.unpk t cs with
    | none => rw [h1] at h; cases h
    | some x1 =>
      cases h2 : unpkPar Γ (p2 :: r) css with
      | none => rw [h1, h2] at h; cases h
      | some x2 =>
        rw [h1, h2] at h
        have h := Option.some.inj h
        subst h
        exact ⟨x1, x2, rfl, rfl, fun i bs ks => rfl⟩
def pairsOf : Nat → List (Bool × TypeId) → List Nat → List Nat → List (Nat × Nat)
  | _, [], _, _ => []
  | i, (false, _) :: ps, ks, bb => pairsOf (i + 1) ps ks bb
  | i, (true, _) :: ps, ks, b :: bb => (boxId i (ksHead true ks), b) :: pairsOf (i + 1) ps ks.tail bb
  | _, (true, _) :: _, _, [] => []
theorem RC.le {agg : Bool} {cs cs' : List (Lf Γ.α)} {v : Value} (h : RC m F w agg cs v) (hl : cs.length = cs'.length) (hle : ∀ (k : Nat) l l', cs[k]? = some l → cs'[k]? = some l' → Lf.le l l') : RC m F w agg cs' v := by
  cases agg with
  | true => obtain ⟨vs, rfl, h2⟩ := h; exact ⟨vs, rfl, h2.le hl hle⟩
  | false =>
    obtain ⟨l, rfl, h2⟩ := h
    obtain ⟨l', rfl⟩ := List.length_eq_one_iff.1 hl.symm
    exact ⟨l', rfl, h2.le (hle 0 l l' rfl rfl)⟩
/-- one row that came in -/
theorem own_step {id b n i off : Nat} {e : TypeId} {xs : List (Γ.α e)} {o : Option Nat} {cap : Nat} {vals : List Value} (hm : Rm Γ w0 Bp F0 nt s a w m F) (hid : m id = some (.box b n)) (hoff : off < n) (hc : w.cell? ⟨b, off, none⟩ = some (sliceV o xs.length cap))
    (hown : w.ownsRow 0 e (Γ.sz e) (sliceV o xs.length cap) xs.length vals) (hrel : RLs (fun _ => none) F w (flat Γ e xs) vals) (hnew : ∀ b ∈ o.toList, ¬ F b ∧ (w0.heap.size ≤ b ∨ BB Bp b) ∧ (∀ id, ¬ Owns s m id b) ∧ ¬ CB Bp b)
    (hu : s.get (.used (rowId i off)) = none) (h9 : rowId i off < 900000) :
    ∃ m', Rm Γ w0 Bp F0 nt ((.cell id off, some (.lf (.own (rowId i off)))) :: (.mut (rowId i off), some (.num 0)) :: (.row (rowId i off), some (.row e xs)) :: (.used (rowId i off), some (.num (xs.length + 1))) :: s) a w m' F ∧ (∀ id p, m id = some p → m' id = some p) ∧
      (∀ id' b, Owns ((.cell id off, some (.lf (.own (rowId i off)))) :: (.mut (rowId i off), some (.num 0)) :: (.row (rowId i off), some (.row e xs)) :: (.used (rowId i off), some (.num (xs.length + 1))) :: s) m' id' b → Owns s m id' b ∨ b ∈ o.toList) := by
  have hfree := hm.free _ hu
  have hmut := hm.mu _ hu
  have hm1 := hm.name (d := rowId i off) (k := xs.length + 1) (p := .row o xs.length cap (Γ.sz e)) hu h9 (fun b n hp => by cases hp) (fun b n hp => by cases hp) (fun _ _ _ _ h => by cases h; rfl)
  have hmono := setPl_mono (p := .row o xs.length cap (Γ.sz e)) hfree
  have hO1 : ∀ id b, Owns ((.used (rowId i off), some (.num (xs.length + 1))) :: s) (setPl m (rowId i off) (.row o xs.length cap (Γ.sz e))) id b → Owns s m id b := by
    intro id b hb
    rcases hb with ⟨n, hb⟩ | ⟨n, cap', sz, hb, hmm⟩
    · by_cases e' : id = rowId i off
      · subst e'; rw [setPl_same] at hb; cases hb
      · rw [setPl_other e'] at hb; exact .inl ⟨n, hb⟩
    · rw [St.get_cons, if_neg (by simp)] at hmm
      by_cases e' : id = rowId i off
      · subst e'; rw [hmut] at hmm; cases hmm
      · rw [setPl_other e'] at hb; exact .inr ⟨n, cap', sz, hb, hmm⟩
  have hm2 := hm1.row1 (d := rowId i off) (xs := xs) (o := o) (cap := cap) (vals := vals) (setPl_same _ _ _) hown (hrel.mono (fun _ _ e => by cases e) (fun _ x => x) (fun _ _ => rfl))
    (fun b hb => by
      have hbo : b ∈ o.toList := by subst hb; simp
      exact ⟨(hnew b hbo).1, (hnew b hbo).2.1, fun id hi => (hnew b hbo).2.2.1 id (hO1 id b hi)⟩) (fun b hb => (hnew b (by subst hb; simp)).2.2.2)
  have hm3 := hm2.cell1 (id := id) (off := off) (l := .own (rowId i off)) (v := sliceV o xs.length cap) (hmono _ _ hid) hoff hc (.own _ _ _ _ _ (setPl_same _ _ _))
  refine ⟨_, hm3, hmono, fun id' b hb => ?_⟩
  rcases hb with ⟨n, hb⟩ | ⟨n, cap', sz, hb, hmm⟩
  · exact .inl (hO1 id' b (.inl ⟨n, hb⟩))
  · by_cases e' : id' = rowId i off
    · subst e'
      rw [setPl_same] at hb
      simp only [Option.some.injEq, Place.row.injEq] at hb
      exact .inr (by rw [hb.1]; simp)
    · rw [St.get_cons, if_neg (by simp), St.get_cons, if_neg (by simpa using fun x => e' x.symm), St.get_cons, if_neg (by simp)] at hmm
      exact .inl (hO1 id' b (.inr ⟨n, cap', sz, hb, hmm⟩))
theorem par_cells {i id b n : Nat} (hn : n ≤ 100) (h9 : ∀ j, j < 100 → rowId i j < 900000) {fs : List Bool} {cs : List (Lf Γ.α)} {vals : List Value} {own : List Nat} (h : Leafs F w 0 fs cs vals own) :
    ∀ (cs' : List (Lf Γ.α)) (off : Nat) (s : St Γ.α) (m : Places), cs.length = cs'.length → (∀ (k : Nat) l l', cs[k]? = some l → cs'[k]? = some l' → Lf.le l l') → Rm Γ w0 Bp F0 nt s a w m F → m id = some (.box b n) → off + cs.length ≤ n → (∀ k v, vals[k]? = some v → w.cell? ⟨b, off + k, none⟩ = some v) → own.Nodup →
    (∀ b ∈ own, ¬ F b ∧ (w0.heap.size ≤ b ∨ BB Bp b) ∧ (∀ id, ¬ Owns s m id b) ∧ ¬ CB Bp b) → (∀ j, off ≤ j → j < n → s.get (.used (rowId i j)) = none) →
    ∃ m', Rm Γ w0 Bp F0 nt (wr s (parCells i id off fs cs')) a w m' F ∧ (∀ id p, m id = some p → m' id = some p) ∧ (∀ id' b, Owns (wr s (parCells i id off fs cs')) m' id' b → Owns s m id' b ∨ b ∈ own) := by
  induction h with
  | nil =>
    rename_i fs
    intro cs' off s m hl _ hm _ _ _ _ _ _
    have : cs' = [] := List.eq_nil_of_length_eq_zero hl.symm
    subst this
    have h0 : parCells i id off fs ([] : List (Lf Γ.α)) = [] := by cases fs with
      | nil => rfl
      | cons f fs => cases f <;> rfl
    rw [h0]
    exact ⟨m, hm, fun _ _ e => e, fun _ _ => .inl⟩
  | @own fs e ls vs own' xs o cap vals' hown hr ht ih =>
    intro cs' off s m hl hle hm hid hoff hc hnd hO hfr
    cases cs' with
    | nil => simp at hl
    | cons l' ls' =>
      have hl0 : l' = .sl e xs := by
        rcases hle 0 _ _ rfl rfl with h | ⟨h, _⟩
        · exact h.symm
        · cases h
      subst hl0
      simp only [List.length_cons] at hoff
      rw [List.nodup_append] at hnd
      obtain ⟨m1, g1, g2, g3⟩ := own_step (i := i) (off := off) hm hid (by omega) (by have := hc 0 _ rfl; simpa using this) hown hr (fun b hb => hO b (List.mem_append_left _ hb)) (hfr off (Nat.le_refl _) (by omega)) (h9 off (by omega))
      obtain ⟨m2, q1, q2, q3⟩ := ih ls' (off + 1) _ m1 (by simpa using hl) (fun k l l' h1 h2 => hle (k + 1) l l' (by simpa using h1) (by simpa using h2)) g1 (g2 _ _ hid) (by omega) (fun k v hk => by have := hc (k + 1) v (by simpa using hk); rwa [show off + (k + 1) = off + 1 + k by omega] at this) hnd.2.1
        (fun b hb => by
          have hb2 := hO b (List.mem_append_right _ hb)
          refine ⟨hb2.1, hb2.2.1, fun id' hi => ?_, hb2.2.2.2⟩
          rcases g3 id' b hi with h1 | h1
          · exact hb2.2.2.1 id' h1
          · exact hnd.2.2 b h1 b hb rfl)
        (fun j hj hjn => by
          rw [St.get_cons, if_neg (by simp), St.get_cons, if_neg (by simp), St.get_cons, if_neg (by simp), St.get_cons, if_neg (by unfold rowId; simp; omega)]
          exact hfr j (by omega) hjn)
      refine ⟨m2, q1, fun id p hp => q2 _ _ (g2 _ _ hp), fun id' b hb => ?_⟩
      rcases q3 id' b hb with h1 | h1
      · rcases g3 id' b h1 with h1 | h1
        · exact .inl h1
        · exact .inr (List.mem_append_left _ h1)
      · exact .inr (List.mem_append_right _ h1)
  | @plain fs l ls v vs own' hn' hlv ht ih =>
    intro cs' off s m hl hle hm hid hoff hc hnd hO hfr
    cases cs' with
    | nil => simp at hl
    | cons l' ls' =>
      simp only [List.length_cons] at hoff
      have h0 := hle 0 _ _ rfl rfl
      have hl' := hlv.le h0
      have plainC : parCells i id off fs (l' :: ls') = (.cell id off, some (.lf l')) :: parCells i id (off + 1) fs.tail ls' → ∃ m', Rm Γ w0 Bp F0 nt (wr s (parCells i id off fs (l' :: ls'))) a w m' F ∧ (∀ id p, m id = some p → m' id = some p) ∧ (∀ id' b, Owns (wr s (parCells i id off fs (l' :: ls'))) m' id' b → Owns s m id' b ∨ b ∈ own') := fun he => by
        have hm1 := hm.cell1 (id := id) (off := off) (l := l') (v := v) hid (by omega) (by have := hc 0 _ rfl; simpa using this) (hl'.mono (fun _ _ e => by cases e) (fun _ x => x) (fun _ _ => rfl))
        have hOw : ∀ id' b, Owns ((.cell id off, some (.lf l')) :: s) m id' b → Owns s m id' b := fun id' b hb => by
          rcases hb with hb | ⟨n, cap, sz, hb, hmm⟩
          · exact .inl hb
          · exact .inr ⟨n, cap, sz, hb, by rwa [St.get_cons, if_neg (by simp)] at hmm⟩
        obtain ⟨m2, q1, q2, q3⟩ := ih ls' (off + 1) _ m (by simpa using hl) (fun k l l' h1 h2 => hle (k + 1) l l' (by simpa using h1) (by simpa using h2)) hm1 hid (by omega) (fun k v hk => by have := hc (k + 1) v (by simpa using hk); rwa [show off + (k + 1) = off + 1 + k by omega] at this) hnd
          (fun b hb => ⟨(hO b hb).1, (hO b hb).2.1, fun id' hi => (hO b hb).2.2.1 id' (hOw id' b hi), (hO b hb).2.2.2⟩)
          (fun j hj hjn => by rw [St.get_cons, if_neg (by simp)]; exact hfr j (by omega) hjn)
        rw [he]
        exact ⟨m2, q1, q2, fun id' b hb => (q3 id' b hb).imp (hOw id' b) fun x => x⟩
      cases fs with
      | nil => exact plainC (by cases l' <;> rfl)
      | cons f fs =>
        cases f with
        | false => exact plainC (by cases l' <;> rfl)
        | true =>
          cases l' with
          | sl e xs =>
            -- a nil that is told as a row of none
            rcases h0 with h0 | ⟨h0, e', h1⟩
            · exact absurd h0 (hn' rfl e xs)
            · cases h1
              subst h0
              have hv : v = .slice none 0 0 := by cases hlv; rfl
              subst hv
              obtain ⟨m1, g1, g2, g3⟩ := own_step (i := i) (off := off) (e := e) (xs := []) (o := none) (cap := 0) (vals := []) hm hid (by omega) (by have := hc 0 _ rfl; simpa [sliceV] using this) (World.ownsRow_nil w 0 e (Γ.sz e)) .nil (fun b hb => by cases hb) (hfr off (Nat.le_refl _) (by omega)) (h9 off (by omega))
              obtain ⟨m2, q1, q2, q3⟩ := ih ls' (off + 1) _ m1 (by simpa using hl) (fun k l l' h1 h2 => hle (k + 1) l l' (by simpa using h1) (by simpa using h2)) g1 (g2 _ _ hid) (by omega) (fun k v hk => by have := hc (k + 1) v (by simpa using hk); rwa [show off + (k + 1) = off + 1 + k by omega] at this) hnd
                (fun b hb => by
                  have hb2 := hO b hb
                  refine ⟨hb2.1, hb2.2.1, fun id' hi => ?_, hb2.2.2.2⟩
                  rcases g3 id' b hi with h1 | h1
                  · exact hb2.2.2.1 id' h1
                  · cases h1)
                (fun j hj hjn => by
                  rw [St.get_cons, if_neg (by simp), St.get_cons, if_neg (by simp), St.get_cons, if_neg (by simp), St.get_cons, if_neg (by unfold rowId; simp; omega)]
                  exact hfr j (by omega) hjn)
              refine ⟨m2, q1, fun id p hp => q2 _ _ (g2 _ _ hp), fun id' b hb => ?_⟩
              rcases q3 id' b hb with h1 | h1
              · rcases g3 id' b h1 with h1 | h1
                · exact .inl h1
                · cases h1
              · exact .inr h1
          | _ => exact plainC rfl
/-- the state at a function's beginning -/
theorem par_ok (hΓ : Γ.Ok P) (hF0 : ∀ b, F0 b → b < w.heap.size) (hnt : a.tmps.size = nt) (hn9 : nt ≤ 900000) (hdef : a.defers = []) (hBp : ∀ id b, Bp id b → 900000 ≤ id ∧ b < w.heap.size ∧ ¬ F0 b) (hBf : ∀ id b b', Bp id b → Bp id b' → b = b') (hBi : ∀ id id' b, Bp id b → Bp id' b → id = id') :
    ∀ {ps : List (Bool × TypeId)} {bs : List (TypeId × List Bool)} {ks : List Nat} {css : List (List (Lf Γ.α))} {vs : List Value} {bb wb : List Nat} {x : parTy Γ ps} (i : Nat), ArgsRel F0 w ps bs css vs bb wb → unpkPar Γ ps css = some x → (bb ++ wb).Nodup → (∀ q ∈ pairsOf i ps ks bb, Bp q.1 q.2) → (∀ b ∈ wb, BB Bp b ∧ ¬ CB Bp b) → (∀ p ∈ ps, Γ.sz p.2 ≤ 100) → i + ps.length ≤ 90 →
    (∀ (j : Nat) v, vs[j]? = some v → a.tmps.getD (i + j) undef = v) →
    ∃ m, Rm Γ w Bp F0 nt (parSt Γ i ps bs ks x) a w m F0 ∧ (∀ id b, Owns (parSt Γ i ps bs ks x) m id b → b ∈ bb ∨ b ∈ wb) := by
  intro ps
  induction ps with
  | nil =>
    intro bs ks css vs bb wb x i hA hx _ _ _ _ _ _
    cases hA
    refine ⟨fun _ => none, ⟨Fr.refl _ _, fun _ h => h, fun _ => .inl, hF0, fun b ⟨id, hb⟩ => (hBp id b hb).2, fun t v h => ?_, fun id off l h => ?_, fun id e xs h => ?_, fun id n h => ?_, fun _ _ => rfl, fun id b n h => ?_, fun id b h => ?_, fun id id' b h _ => ?_, hdef, hnt, ⟨hn9, fun id b hb => (hBp id b hb).1, fun id b _ p h => ?_⟩, fun _ _ => rfl, hBi, fun id b h => ?_, fun _ _ _ _ _ => rfl⟩, fun id b h => ?_⟩
    all_goals first | (cases h; done) | (rcases h with ⟨n, h⟩ | ⟨_, _, _, h, _⟩ <;> cases h)
  | cons p ps ih =>
    intro bs ks css vs bb wb x i hA hx hnd hpairs hwb hsz hi htm
    obtain ⟨bx, t⟩ := p
    simp only [List.length_cons] at hi
    have hsz' : ∀ p ∈ ps, Γ.sz p.2 ≤ 100 := fun p hp => hsz p (List.mem_cons_of_mem _ hp)
    cases hA with
    | val h hr ht =>
      rename_i ti cs css v vs
      obtain ⟨x1, x2, hx1, hx2, hst⟩ := unpkPar_cons hx
      obtain ⟨m, hm, hm2⟩ := ih (i + 1) ht hx2 hnd hpairs hwb hsz' (by omega) (fun j v hj => by have := htm (j + 1) v (by simpa using hj); rwa [show i + 1 + j = i + (j + 1) by omega])
      obtain ⟨u1, u2⟩ := hΓ.unpk t cs x1 hx1
      refine ⟨m, ?_, fun id b hb => hm2 id b ?_⟩
      · rw [hst]
        simp only [par1, cond_false, wr, h]
        refine hm.tell ?_
        have hv := htm 0 v rfl
        rw [Nat.add_zero] at hv
        rw [hv]
        exact RC.mk ((hr.mono (fun _ _ e => by cases e) (fun _ x => x) (fun _ _ => rfl)).le u1 u2)
      · rw [hst] at hb
        rcases hb with hb | ⟨n, cap, sz, hb, hmm⟩
        · exact .inl hb
        · simp only [par1, cond_false, wr] at hmm
          rw [St.get_cons, if_neg (by simp)] at hmm
          exact .inr ⟨n, cap, sz, hb, hmm⟩
    | box h hg hC hr ht =>
      rename_i t2 fs ti bs cs css vs bb b C ty own wb
      obtain ⟨x1, x2, hx1, hx2, hst⟩ := unpkPar_cons hx
      rw [List.cons_append, List.nodup_cons, List.nodup_append, List.nodup_append] at hnd
      obtain ⟨hnd1, hnd2, ⟨hnd3, hnd4, hnd5⟩, hnd6⟩ := hnd
      obtain ⟨m, hm, hm2⟩ := ih (i + 1) ht hx2 (List.nodup_append.2 ⟨hnd2, hnd4, fun x hx y hy => hnd6 x hx y (List.mem_append_right _ hy)⟩) (fun q hq => hpairs q (List.mem_cons_of_mem _ hq)) (fun b hb => hwb b (List.mem_append_right _ hb)) hsz' (by omega) (fun j v hj => by have := htm (j + 1) v (by simpa using hj); rwa [show i + 1 + j = i + (j + 1) by omega])
      obtain ⟨u1, u2⟩ := hΓ.unpk t cs x1 hx1
      have hbp : Bp (boxId i (ksHead true ks)) b := hpairs (boxId i (ksHead true ks), b) List.mem_cons_self
      obtain ⟨_, hb1, hb2⟩ := hBp _ _ hbp
      have hlen : (Γ.pk t x1).length = ti.size := by rw [hΓ.len, sz_ti h]
      have h100 : ti.size ≤ 100 := by rw [← sz_ti h]; exact hsz (true, t) List.mem_cons_self
      have hu := par_get_used (Γ := Γ) (id := boxId i (ksHead true ks)) (i := i + 1) (bs := bs) (ks := ks.tail) x2 hΓ.len hsz' (by omega) (fun j hj hj9 => ⟨fun k e => by have := boxId_inj (by omega) hj9 e; omega, fun off ho e => by unfold boxId rowId at e; omega⟩) 
      have hno : ∀ id, ¬ Owns (parSt Γ (i + 1) ps bs ks.tail x2) m id b := fun id ho => by
        rcases hm2 id b ho with h | h
        · exact hnd1 (List.mem_append_left _ h)
        · exact hnd1 (List.mem_append_right _ (List.mem_append_right _ h))
      have hm1 := hm.nameG (hq := fun _ _ _ _ h => by cases h) (d := boxId i (ksHead true ks)) (k := (Γ.pk t x1).length) (p := .box b ti.size) hu (fun b' hb' => ⟨ti.size, by rw [hBf _ _ _ hbp hb'], C, ty, by rw [← hBf _ _ _ hbp hb']; exact hg, hC⟩) (fun b' n hp => by
        cases hp
        exact ⟨hlen, hb2, .inr ⟨_, hbp⟩, ⟨C, ty, hg, hC⟩, hno⟩) (fun b' n hp _ => by cases hp; exact hbp)
      have hfree := hm.free _ hu
      have hmono := setPl_mono (p := .box b ti.size) hfree
      have hO1 : ∀ id b', Owns ((.used (boxId i (ksHead true ks)), some (.num (Γ.pk t x1).length)) :: parSt Γ (i + 1) ps bs ks.tail x2) (setPl m (boxId i (ksHead true ks)) (.box b ti.size)) id b' → b' = b ∨ b' ∈ bb ∨ b' ∈ wb := fun id b' ho => by
        rcases ho with ⟨n, ho⟩ | ⟨n, cap, sz, ho, hmm⟩
        · by_cases e : id = boxId i (ksHead true ks)
          · subst e; rw [setPl_same] at ho; cases ho; exact .inl rfl
          · rw [setPl_other e] at ho; exact .inr (hm2 id b' (.inl ⟨n, ho⟩))
        · by_cases e : id = boxId i (ksHead true ks)
          · subst e; rw [setPl_same] at ho; cases ho
          · rw [setPl_other e] at ho
            rw [St.get_cons, if_neg (by simp)] at hmm
            exact .inr (hm2 id b' (.inr ⟨n, cap, sz, ho, hmm⟩))
      obtain ⟨m2, g1, g2, g3⟩ := par_cells (i := i) (id := boxId i (ksHead true ks)) (b := b) (n := ti.size) h100 (fun j hj => by unfold rowId; omega) hr (Γ.pk t x1) 0 _ _ u1 u2 hm1 (setPl_same m (boxId i (ksHead true ks)) (.box b ti.size)) (by rw [u1, hlen]; omega) (fun k v hk => by
          simp only [World.cell?, hg]; simpa using hk) hnd3
        (fun b' hb' => ⟨fun hf => by
            obtain ⟨id, hid⟩ := (hwb b' (List.mem_append_left _ hb')).1
            exact (hBp id b' hid).2.2 hf, .inr (hwb b' (List.mem_append_left _ hb')).1, fun id ho => by
          rcases hO1 id b' ho with h | h | h
          · subst h; exact hnd1 (List.mem_append_right _ (List.mem_append_left _ hb'))
          · exact hnd6 b' h b' (List.mem_append_left _ hb') rfl
          · exact hnd5 b' hb' b' h rfl, (hwb b' (List.mem_append_left _ hb')).2⟩)
        (fun j _ hj => by
          rw [St.get_cons, if_neg (by simp; unfold boxId rowId; omega)]
          exact par_get_used x2 hΓ.len hsz' (by omega) (fun j' hj' hj9 => ⟨fun k e => by unfold boxId rowId at e; omega, fun off ho e => by unfold rowId at e; omega⟩))
      have hv := htm 0 _ rfl
      rw [Nat.add_zero] at hv
      have hm5 := g1.tell (t := i) (v := .one (.ptr (boxId i (ksHead true ks)) 0)) (by rw [hv]; exact RLf.ptr _ 0 b _ (g2 _ _ (setPl_same _ _ _)))
      have hse : parSt Γ i ((true, t) :: ps) ((t2, fs) :: bs) ks x = (.tmp i, some (.av (.one (.ptr (boxId i (ksHead true ks)) 0)))) :: wr ((.used (boxId i (ksHead true ks)), some (.num (Γ.pk t x1).length)) :: parSt Γ (i + 1) ps bs ks.tail x2) (parCells i (boxId i (ksHead true ks)) 0 fs (Γ.pk t x1)) := by
        rw [hst]
        simp only [par1, cond_true, bsHead, bsTail, ksTail, List.tail_cons, wr, wr_append]
      rw [hse]
      refine ⟨m2, hm5, fun id b' ho => ?_⟩
      have ho' : Owns (wr ((.used (boxId i (ksHead true ks)), some (.num (Γ.pk t x1).length)) :: parSt Γ (i + 1) ps bs ks.tail x2) (parCells i (boxId i (ksHead true ks)) 0 fs (Γ.pk t x1))) m2 id b' := by
        rcases ho with ho | ⟨n, cap, sz, ho, hmm⟩
        · exact .inl ho
        · exact .inr ⟨n, cap, sz, ho, by rwa [St.get_cons, if_neg (by simp)] at hmm⟩
      rcases g3 id b' ho' with h | h
      · rcases hO1 id b' h with h | h | h
        · exact .inl (h ▸ List.mem_cons_self)
        · exact .inl (List.mem_cons_of_mem _ h)
        · exact .inr (List.mem_append_right _ h)
      · exact .inr (List.mem_append_left _ h)
end
end Go.Proofs.Ytlhknehkcflkgaa.Ab
