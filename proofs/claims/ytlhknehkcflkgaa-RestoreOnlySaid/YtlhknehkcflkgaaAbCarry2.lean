/- A cut, whole. -/
import Derived.Test.YtlhknehkcflkgaaAbCarry
set_option autoImplicit false
set_option linter.unusedVariables false
set_option linter.unusedSimpArgs false
namespace Go.Proofs.Ytlhknehkcflkgaa.Ab
open Go

section
variable {Γ : Reg} {w0 : World} {Bp : Nat → Nat → Prop} {F0 : Nat → Prop} {nt : Nat} {P : Program} {s : St Γ.α} {a : Act} {w : World} {m : Places} {F : Nat → Prop}

def leafOf : (c : CK) → c.ty Γ → Option (Lf Γ.α)
  | .int j, x => some (.int j x)
  | .bool, x => some (.bool x)
  | .str, x => some (.str x)
  | .sl e, x => some (.sl e x)
  | .own e id, _ => some (.own id)
  | .st _, _ => none
  | .ptr id off _, _ => some (.ptr id off)
  | .eptr _ id off, x => some (.eptr id x off)
  | .fptr e off, x => some (.fptr e x.1 x.2 off)
theorem mk1_leaf {k : Key} {c : CK} {x : c.ty Γ} {l : Lf Γ.α} (h : leafOf c x = some l) : mkLeaf k l ∈ mk1 Γ k c x := by
  cases c <;> simp only [leafOf, Option.some.injEq] at h <;> first | (subst h; simp [mk1]) | cases h
/-- what the entries are -/
theorem mk1_inv {k : Key} {c : CK} {x : c.ty Γ} {y : Key × Option (Val Γ.α)} (h : y ∈ mk1 Γ k c x) : (∃ l, leafOf c x = some l ∧ y = mkLeaf k l) ∨ (∃ t cs, c = .st t ∧ y = (k, some (.av (.st cs)))) ∨
    (∃ e id, c = .own e id ∧ ((∃ xs, y = (.row id, some (.row e xs))) ∨ y = (.mut id, some (.num 0)) ∨ ∃ n, y = (.used id, some (.num n)) ∧ ∀ xs, (.row id, some (.row e xs)) ∈ mk1 Γ k c x → n = xs.length + 1)) ∨ ∃ id off n, c = .ptr id off n ∧ y = (.used id, some (.num n)) := by
  cases c with
  | int j => simp [mk1, mkMark] at h; exact .inl ⟨_, rfl, h⟩
  | bool => simp [mk1, mkMark] at h; exact .inl ⟨_, rfl, h⟩
  | str => simp [mk1, mkMark] at h; exact .inl ⟨_, rfl, h⟩
  | sl e => simp [mk1, mkMark] at h; exact .inl ⟨_, rfl, h⟩
  | eptr k' id off => simp [mk1, mkMark] at h; exact .inl ⟨_, rfl, h⟩
  | fptr e off => simp [mk1, mkMark] at h; exact .inl ⟨_, rfl, h⟩
  | st t => simp [mk1, mkMark] at h; exact .inr (.inl ⟨t, _, rfl, h⟩)
  | own e id =>
    simp [mk1, mkMark] at h
    rcases h with h | h | h | h
    · exact .inl ⟨_, rfl, h⟩
    · exact .inr (.inr (.inl ⟨e, id, rfl, .inl ⟨x, h⟩⟩))
    · exact .inr (.inr (.inl ⟨e, id, rfl, .inr (.inl h)⟩))
    · refine .inr (.inr (.inl ⟨e, id, rfl, .inr (.inr ⟨_, h, fun xs hxs => ?_⟩)⟩))
      have hkl : (Key.row id, some (Val.row e xs)) ≠ mkLeaf k (Lf.own id : Lf Γ.α) := by cases k <;> simp [mkLeaf]
      simp only [mk1, mkMark, List.mem_cons, hkl, false_or, Prod.mk.injEq, Key.row.injEq, Option.some.injEq, Val.row.injEq] at hxs
      simp at hxs
      cases hxs
      rfl
  | ptr id off n =>
    simp [mk1, mkMark] at h
    rcases h with h | h
    · exact .inl ⟨_, rfl, h⟩
    · exact .inr (.inr (.inr ⟨id, off, n, rfl, h⟩))
theorem closedL_rel (hΓ : Γ.Ok P) (hm : Rm Γ w0 Bp F0 nt s a w m F) {F' : Nat → Prop} (hF : ∀ b, F b → F' b) : ∀ {cs cs' : List (Lf Γ.α)} {fr : List Nat} {vs : List Value}, closedL s cs = some (cs', fr) → RLs m F w cs vs →
    (∀ id ∈ fr, (∃ e xs, s.get (.row id) = some (.row e xs)) → ∀ b n cap sz, m id = some (.row (some b) n cap sz) → F' b) → RLs m F' w cs' vs ∧ ∀ l ∈ cs', plain' l
  | [], cs', fr, vs, h, hr, _ => by
    simp [closedL] at h
    obtain ⟨rfl, rfl⟩ := h
    rw [hr.inv_nil]
    exact ⟨.nil, by simp⟩
  | l :: cs, cs', fr, vs, h, hr, hf => by
    obtain ⟨v, vs', rfl, h1, h2⟩ := hr.inv
    unfold closedL at h
    split at h
    · rename_i c i cs2 is hc hcs
      simp only [Option.some.injEq, Prod.mk.injEq] at h
      obtain ⟨rfl, rfl⟩ := h
      obtain ⟨r1, r2⟩ := closedL_rel hΓ hm hF hcs h2 (fun id hid => hf id (List.mem_append_right _ hid))
      have h1' := h1.mono (m' := m) (F' := F') (w' := w) (fun _ _ e => e) hF (fun _ _ => rfl)
      have hc' : RLf m F' w c v ∧ plain' c := by
        unfold closed at hc
        split at hc
        · rename_i id
          split at hc
          · rename_i e xs hrow
            simp only [Option.some.injEq, Prod.mk.injEq] at hc
            obtain ⟨rfl, rfl⟩ := hc
            exact ⟨own_to_sl hΓ hm hrow h1 hF (fun b n cap sz hb => hf id (by simp) ⟨e, xs, hrow⟩ b n cap sz hb), trivial⟩
          · cases hc
        all_goals first | (simp only [Option.some.injEq, Prod.mk.injEq] at hc; obtain ⟨rfl, rfl⟩ := hc; exact ⟨h1', trivial⟩) | cases hc
      exact ⟨.cons hc'.1 r1, plain'_cons hc'.2 r2⟩
    · cases h
theorem carry_ok (hΓ : Γ.Ok P) {C : Carry} {v : C.ty Γ} {o f : List Nat} (hr : R Γ w0 Bp F0 nt s a w) (hp : C.proj s = some (v, o, f)) (hk : C.keysOk = true) (ho : nodupB o = true) (hf : apartN o f = true) : R Γ w0 Bp F0 nt (C.mk Γ v) a w := by
  obtain ⟨m, F, hm⟩ := hr
  simp only [Carry.keysOk, Bool.and_eq_true] at hk
  obtain ⟨hk1, hk2, hk3, hk4, hk5⟩ := hk
  have hnd := nodupB_iff hk1
  have hap := apartN_spec hk2
  have hcell := cellsOk_spec hk3
  have hond := nodupB_iff ho
  have hof := apartN_spec hf
  have hkey : ∀ k c, (k, c) ∈ C → (∃ t, k = .tmp t) ∨ ∃ id off, k = .cell id off := fun k c h => (hcell k c h).imp id fun ⟨i, j, h1, _⟩ => ⟨i, j, h1⟩
  let m' : Places := plc Γ m s C
  let F' : Nat → Prop := fun b => F b ∨ ∃ id ∈ f, (∃ e xs, s.get (.row id) = some (.row e xs)) ∧ ∃ n cap sz, m id = some (.row (some b) n cap sz)
  have hFF : ∀ b, F b → F' b := fun _ => .inl
  have hmp : ∀ id, id ∈ C.ptrs → m' id = m id := fun id h => plc_ptr h hap
  -- places of rows that are the function's own
  have hmo : ∀ k e id x o1 f1, (k, .own e id) ∈ C → proj1 s k (.own e id) = some (x, o1, f1) → (∀ i ∈ o1, i ∈ o) → (keyLf s k = some .nil ∧ x = [] ∧ m' id = some (.row none 0 0 (Γ.sz e))) ∨
      ∃ src, keyLf s k = some (.own src) ∧ m' id = m src ∧ src ∈ o ∧ (s.get (.mut src)).isSome = true ∧ s.get (.row src) = some (.row e x) := by
    intro k e id x o1 f1 hC hx ho1
    have hpl := plc_own (Γ := Γ) (m := m) (s := s) hC hnd hap
    rcases own_kind hx with ⟨h1, h2, _⟩ | ⟨src, h1⟩
    · rw [h1] at hpl; exact .inl ⟨h1, h2, hpl⟩
    · rw [h1] at hpl
      obtain ⟨q1, _, q3, q4⟩ := own_src hx h1
      exact .inr ⟨src, h1, hpl, ho1 src (by rw [q1]; simp), q3, q4⟩
  have hmn : ∀ id, id ∉ C.names → id ∉ C.ptrs → m' id = none := fun id h1 h2 => plc_none h1 h2
  -- leaves
  have hleaf : ∀ k c x o1 f1 l, (k, c) ∈ C → proj1 s k c = some (x, o1, f1) → leafOf c x = some l → (∀ i ∈ o1, i ∈ o) → (∀ i ∈ f1, i ∈ f) → ∃ v, KeyV w a m k v ∧ RLf m' F' w l v := by
    intro k c x o1 f1 l hC hx hl ho1 hf1
    have hkk := hkey k c hC
    cases c with
    | int j =>
      simp only [leafOf, Option.some.injEq] at hl; subst hl
      simp only [proj1] at hx
      split at hx
      · rename_i j' n hkl
        cases hj : decide (j' = j) with
        | false => rw [hj] at hx; cases hx
        | true =>
          rw [hj] at hx
          have := of_decide_eq_true hj
          subst this
          cases hx
          obtain ⟨v, v1, v2⟩ := keyLf_rel hm hkk hkl
          cases v2
          exact ⟨_, v1, .int _ _⟩
      · cases hx
    | bool =>
      simp only [leafOf, Option.some.injEq] at hl; subst hl
      simp only [proj1] at hx
      split at hx
      · rename_i n hkl
        cases hx
        obtain ⟨v, v1, v2⟩ := keyLf_rel hm hkk hkl
        cases v2
        exact ⟨_, v1, .bool _⟩
      · cases hx
    | str =>
      simp only [leafOf, Option.some.injEq] at hl; subst hl
      simp only [proj1] at hx
      split at hx
      · rename_i n hkl
        cases hx
        obtain ⟨v, v1, v2⟩ := keyLf_rel hm hkk hkl
        cases v2
        exact ⟨_, v1, .str _⟩
      · cases hx
    | sl e =>
      simp only [leafOf, Option.some.injEq] at hl; subst hl
      simp only [proj1] at hx
      split at hx
      · rename_i hkl
        cases hx
        obtain ⟨v, v1, v2⟩ := keyLf_rel hm hkk hkl
        refine ⟨v, v1, RLf.le ?_ (.inr ⟨rfl, e, rfl⟩)⟩
        exact (v2.mono (m' := m) (F' := F') (w' := w) (fun _ _ e => e) hFF (fun _ _ => rfl)).free hΓ trivial
      · rename_i e' xs hkl
        split at hx
        · rename_i he
          subst he
          cases hx
          obtain ⟨v, v1, v2⟩ := keyLf_rel hm hkk hkl
          exact ⟨v, v1, (v2.mono (m' := m) (F' := F') (w' := w) (fun _ _ e => e) hFF (fun _ _ => rfl)).free hΓ trivial⟩
        · cases hx
      · rename_i id hkl
        split at hx
        · rename_i e' xs hrow
          split at hx
          · rename_i he
            subst he
            cases hx
            obtain ⟨v, v1, v2⟩ := keyLf_rel hm hkk hkl
            refine ⟨v, v1, (own_to_sl hΓ hm hrow v2 hFF (fun b n cap sz hb => .inr ⟨id, hf1 id (by simp), ⟨_, _, hrow⟩, n, cap, sz, hb⟩)).free hΓ trivial⟩
          · cases hx
        · cases hx
      · cases hx
    | own e id =>
      simp only [leafOf, Option.some.injEq] at hl; subst hl
      rcases hmo k e id x o1 f1 hC hx ho1 with ⟨h1, h2, h3⟩ | ⟨src, h1, h2, h3, h4, h5⟩
      · obtain ⟨v, v1, v2⟩ := keyLf_rel hm hkk h1
        cases v2
        exact ⟨_, v1, .own id none 0 0 _ h3⟩
      · obtain ⟨v, v1, v2⟩ := keyLf_rel hm hkk h1
        cases v2 with
        | own _ o2 n cap sz h => exact ⟨_, v1, .own id o2 n cap sz (h2.trans h)⟩
    | st t => simp [leafOf] at hl
    | eptr k' id off =>
      simp only [leafOf, Option.some.injEq] at hl; subst hl
      simp only [proj1] at hx
      split at hx
      · rename_i src i off' src' hkl hkl'
        cases hb : Nat.beq src src' && Nat.beq off' off with
        | false => rw [hb] at hx; cases hx
        | true =>
          rw [hb] at hx
          simp only [Bool.and_eq_true] at hb
          have e1 := Nat.eq_of_beq_eq_true hb.1
          have e2 := Nat.eq_of_beq_eq_true hb.2
          subst e1; subst e2
          cases hx
          obtain ⟨e, hC'⟩ := eptrsOk_spec hk5 hC
          have hpl := plc_own (Γ := Γ) (m := m) (s := s) hC' hnd hap
          rw [hkl'] at hpl
          obtain ⟨v, v1, v2⟩ := keyLf_rel hm hkk hkl
          cases v2 with
          | eptr _ _ _ b n cap sz h hi => exact ⟨_, v1, .eptr id _ _ b n cap sz (hpl.trans h) hi⟩
      · cases hx
    | fptr e off =>
      simp only [leafOf, Option.some.injEq] at hl; subst hl
      simp only [proj1] at hx
      split at hx
      · rename_i e' xs i off' hkl
        split at hx
        · rename_i he
          subst he
          cases hb : Nat.beq off' off with
          | false => rw [hb] at hx; cases hx
          | true =>
            rw [hb] at hx
            have e2 := Nat.eq_of_beq_eq_true hb
            subst e2
            cases hx
            obtain ⟨v, v1, v2⟩ := keyLf_rel hm hkk hkl
            cases v2 with
            | fptr _ _ _ _ ad vals hl hi hF hcell hrel =>
              refine ⟨_, v1, .fptr _ _ _ _ ad vals hl hi (hFF _ hF) hcell (fun k l u hk hu => ?_)⟩
              refine ((hrel k l u hk hu).mono (m' := m) (F' := F') (w' := w) (fun _ _ e => e) hFF (fun _ _ => rfl)).free hΓ ?_
              have hmem := List.mem_of_getElem? hk
              simp only [flat, List.mem_flatMap] at hmem
              obtain ⟨y, _, hy⟩ := hmem
              have := hΓ.plain _ y l hy
              cases l <;> first | trivial | exact this.elim
        · cases hx
      · cases hx
    | ptr id off n =>
      simp only [leafOf, Option.some.injEq] at hl; subst hl
      simp only [proj1] at hx
      split at hx
      · rename_i id' off' n' hkl hu
        cases hb : Nat.beq id' id && (Nat.beq off' off && Nat.beq n' n) with
        | false => rw [hb] at hx; cases hx
        | true =>
          simp only [Bool.and_eq_true] at hb
          have e1 := Nat.eq_of_beq_eq_true hb.1
          have e2 := Nat.eq_of_beq_eq_true hb.2.1
          subst e1; subst e2
          obtain ⟨v, v1, v2⟩ := keyLf_rel hm hkk hkl
          cases v2 with
          | ptr _ _ b N h => exact ⟨_, v1, .ptr _ _ b N ((hmp _ (ptrs_mem hC)).trans h)⟩
      · cases hx
  -- who owns what
  have hmutinv : ∀ id, ((C.mk Γ v).get (.mut id)).isSome = true → ∃ k e, (k, .own e id) ∈ C := by
    intro id h
    cases hg : (C.mk Γ v).get (.mut id) with
    | none => rw [hg] at h; cases h
    | some val =>
      obtain ⟨k, c, x, o1, f1, g1, g2, g3, g4, g5⟩ := mk_inv hp (get_mem hg)
      rcases mk1_inv g3 with ⟨l, _, q⟩ | ⟨t, cs, _, q⟩ | ⟨e, i, rfl, q⟩ | ⟨i, off, n, _, q⟩
      · exfalso
        rcases hkey k c g1 with ⟨t, rfl⟩ | ⟨i, j, rfl⟩ <;> simp [mkLeaf] at q
      · exfalso
        rcases hkey k c g1 with ⟨t, rfl⟩ | ⟨i, j, rfl⟩ <;> simp at q
      · rcases q with ⟨xs, q⟩ | q | q
        · simp at q
        · simp at q; obtain ⟨rfl, _⟩ := q; exact ⟨k, e, g1⟩
        · simp at q
      · simp at q
  have hOw : ∀ id b, Owns (C.mk Γ v) m' id b → (id ∈ C.ptrs ∧ ∃ n, m id = some (.box b n)) ∨ ∃ k e src x, (k, .own e id) ∈ C ∧ keyLf s k = some (.own src) ∧ src ∈ o ∧ (s.get (.mut src)).isSome = true ∧ s.get (.row src) = some (.row e x) ∧ ∃ n cap sz, m src = some (.row (some b) n cap sz) := by
    intro id b hb
    have hown : ∀ k e, (k, .own e id) ∈ C → ∀ p, m' id = some p → (∃ n, p = .box b n) ∨ (∃ n cap sz, p = .row (some b) n cap sz) → ∃ k e src x, (k, .own e id) ∈ C ∧ keyLf s k = some (.own src) ∧ src ∈ o ∧ (s.get (.mut src)).isSome = true ∧ s.get (.row src) = some (.row e x) ∧ ∃ n cap sz, m src = some (.row (some b) n cap sz) := by
      intro k e hC p hpp hor
      obtain ⟨x, o1, f1, g1, _, g3, _⟩ := mk_of hp hC
      rcases hmo k e id x o1 f1 hC g1 g3 with ⟨_, _, h3⟩ | ⟨src, h1, h2, h3, h4, h5⟩
      · rw [h3] at hpp; cases hpp
        rcases hor with ⟨n, hh⟩ | ⟨n, cap, sz, hh⟩ <;> cases hh
      · refine ⟨k, e, src, x, hC, h1, h3, h4, h5, ?_⟩
        obtain ⟨o2, cap, vals, q1, _⟩ := hm.row src e x h5
        rw [h2, q1] at hpp
        cases hpp
        rcases hor with ⟨n, hh⟩ | ⟨n, cap', sz, hh⟩
        · cases hh
        · simp only [Place.row.injEq] at hh
          obtain ⟨rfl, _⟩ := hh
          exact ⟨_, _, _, q1⟩
    rcases hb with ⟨n, hb⟩ | ⟨n, cap, sz, hb, hmm⟩
    · by_cases hin : id ∈ C.ptrs
      · exact .inl ⟨hin, n, by rw [← hmp id hin]; exact hb⟩
      · by_cases hnm : id ∈ C.names
        · obtain ⟨k, e, hC⟩ := names_inv hnm
          exact .inr (hown k e hC _ hb (.inl ⟨n, rfl⟩))
        · rw [hmn id hnm hin] at hb; cases hb
    · obtain ⟨k, e, hC⟩ := hmutinv id hmm
      exact .inr (hown k e hC _ hb (.inr ⟨n, cap, sz, rfl⟩))
  -- a block that is owned is not frozen
  have hnf : ∀ b, ((∃ id n, m id = some (.box b n)) ∨ ∃ src, src ∈ o ∧ (s.get (.mut src)).isSome = true ∧ ∃ n cap sz, m src = some (.row (some b) n cap sz)) → ¬ F' b := by
    intro b hb hF'
    have hown : ∃ src, Owns s m src b ∧ (src ∈ o ∨ ∃ n, m src = some (.box b n)) := by
      rcases hb with ⟨id, n, h⟩ | ⟨src, h1, h2, n, cap, sz, h3⟩
      · exact ⟨id, .inl ⟨n, h⟩, .inr ⟨n, h⟩⟩
      · exact ⟨src, .inr ⟨n, cap, sz, h3, h2⟩, .inl h1⟩
    obtain ⟨src, h1, h2⟩ := hown
    rcases hF' with hF' | ⟨id, h3, ⟨e, xs, h4⟩, n, cap, sz, h5⟩
    · exact (hm.ours src b h1).1 hF'
    · rcases h2 with h2 | ⟨n', h2⟩
      · by_cases hmut : (s.get (.mut id)).isSome = true
        · have := hm.dist id src b (.inr ⟨n, cap, sz, h5, hmut⟩) h1
          subst this
          exact hof id h2 h3
        · obtain ⟨o3, cap3, vals3, f1, _, _, f4⟩ := hm.row id e xs h4
          rw [h5] at f1
          simp only [Option.some.injEq, Place.row.injEq] at f1
          exact (hm.ours src b h1).1 (f4 (by cases hq : s.get (.mut id) with
            | none => rfl
            | some x => rw [hq] at hmut; simp at hmut) b f1.1.symm)
      · exact hm.rowBox h4 h5 h2
  refine ⟨m', F', hm.fr, fun b hb => .inl (hm.f0 b hb), fun b hb => ?_, fun b hb => ?_, hm.bp, fun t v' ht => ?_, fun id off l hl => ?_, fun id e xs hx => ?_, fun id n hn => ?_, fun id hn => ?_, fun id b n hb => ?_, fun id b hb => ?_, fun i j b h1 h2 => ?_, hm.nodef, hm.size, ⟨hm.fix.1, hm.fix.2.1, fun id b hb p hpp => ?_⟩, fun id hn => ?_, hm.cst.1, fun id b hb hc => ?_, hm.cst.2.2⟩
  · rcases hb with hb | ⟨id, _, ⟨e, xs, h4⟩, n, cap, sz, h5⟩
    · exact hm.f1 b hb
    · exact hm.rowBlk h4 h5
  · rcases hb with hb | ⟨id, _, ⟨e, xs, h4⟩, n, cap, sz, h5⟩
    · exact hm.f2 b hb
    · obtain ⟨o3, cap3, vals3, f1, f2, _⟩ := hm.row id e xs h4
      rw [h5] at f1
      simp only [Option.some.injEq, Place.row.injEq] at f1
      rw [← f1.1] at f2
      exact (f2.lt b rfl).2
  · obtain ⟨k, c, x, o1, f1, g1, g2, g3, g4, g5⟩ := mk_inv hp (get_mem ht)
    rcases mk1_inv g3 with ⟨l, hl, q⟩ | ⟨t', cs, rfl, q⟩ | ⟨e, i, rfl, q⟩ | ⟨i, off, n, _, q⟩
    · obtain ⟨u, u1, u2⟩ := hleaf k c x o1 f1 l g1 g2 hl g4 g5
      rcases hkey k c g1 with ⟨t2, rfl⟩ | ⟨i, j, rfl⟩
      · simp [mkLeaf] at q
        obtain ⟨rfl, rfl⟩ := q
        rw [← (show u = _ from u1)]; exact u2
      · simp [mkLeaf] at q
    · rcases hkey k _ g1 with ⟨t2, rfl⟩ | ⟨i, j, rfl⟩
      · -- a struct
        simp only [proj1] at g2
        split at g2
        · rename_i cs0 hg
          split at g2
          · rename_i cs1 fr hcl
            cases hx : Γ.unpk t' cs1 with
            | none => rw [hx] at g2; cases g2
            | some x' =>
              rw [hx] at g2
              cases g2
              have g3' : (Key.tmp t, some (Val.av v')) ∈ mk1 Γ (.tmp t2) (.st t') x := g3
              simp [mk1, mkMark] at g3'
              obtain ⟨rfl, rfl⟩ := g3'
              obtain ⟨vs, e1, e2⟩ := hm.tmp t _ hg
              obtain ⟨r1, r2⟩ := closedL_rel hΓ hm hFF hcl e2 (fun id hid hrow b n cap sz hb => .inr ⟨id, g5 id hid, hrow, n, cap, sz, hb⟩)
              obtain ⟨u1, u2⟩ := hΓ.unpk t' cs1 x hx
              exact ⟨vs, e1, (r1.free hΓ r2).le u1 u2⟩
          · cases g2
        · cases g2
      · simp at q
    · rcases q with ⟨xs, q⟩ | q | q <;> simp at q
    · simp at q
  · obtain ⟨k, c, x, o1, f1, g1, g2, g3, g4, g5⟩ := mk_inv hp (get_mem hl)
    rcases mk1_inv g3 with ⟨l', hl', q⟩ | ⟨t', cs, _, q⟩ | ⟨e, i, _, q⟩ | ⟨i, off', n, _, q⟩
    · obtain ⟨u, u1, u2⟩ := hleaf k c x o1 f1 l' g1 g2 hl' g4 g5
      rcases hcell k c g1 with ⟨t2, rfl⟩ | ⟨i, j, rfl, hin⟩
      · simp [mkLeaf] at q
      · simp [mkLeaf] at q
        obtain ⟨⟨rfl, rfl⟩, rfl⟩ := q
        obtain ⟨b, n, h1, h2, h3⟩ := u1
        exact ⟨b, n, u, (hmp _ hin).trans h1, h2, h3, u2⟩
    · simp at q
    · rcases q with ⟨xs, q⟩ | q | q <;> simp at q
    · simp at q
  · obtain ⟨k, c, x, o1, f1, g1, g2, g3, g4, g5⟩ := mk_inv hp (get_mem hx)
    rcases mk1_inv g3 with ⟨l', hl', q⟩ | ⟨t', cs, _, q⟩ | ⟨e', i, rfl, q⟩ | ⟨i, off', n, _, q⟩
    · rcases hkey k c g1 with ⟨t2, rfl⟩ | ⟨i, j, rfl⟩ <;> simp [mkLeaf] at q
    · simp at q
    · have g3' : (Key.row id, some (Val.row e xs)) ∈ mk1 Γ k (.own e' i) x := g3
      have hkl : (Key.row id, some (Val.row e xs)) ≠ mkLeaf k (Lf.own i : Lf Γ.α) := by rcases hkey k _ g1 with ⟨t2, rfl⟩ | ⟨i, j, rfl⟩ <;> simp [mkLeaf]
      simp only [mk1, mkMark, List.mem_cons, hkl, false_or, Prod.mk.injEq, Key.row.injEq, Option.some.injEq, Val.row.injEq] at g3'
      simp at g3'
      obtain ⟨e1, e2⟩ := g3'
      subst e1
      cases e2
      have hmutp : (C.mk Γ v).get (.mut id) ≠ none := fun hnn => by
        obtain ⟨_, _, _, _, hin, _, _⟩ := mk_of hp g1
        exact get_none (mk_some C v) hnn (.mut id, some (.num 0)) (hin _ (by simp [mk1])) rfl
      rcases hmo k e id xs o1 f1 g1 g2 g4 with ⟨h1, h2, h3⟩ | ⟨src, h1, h2, h3, h4, h5⟩
      · subst h2
        exact ⟨none, 0, [], h3, World.ownsRow_nil w _ _ _, .nil, fun h => absurd h hmutp⟩
      · obtain ⟨o2, cap, vals, q1, q2, q3, _⟩ := hm.row src e xs h5
        refine ⟨o2, cap, vals, h2.trans q1, q2, ?_, fun h => absurd h hmutp⟩
        refine (q3.mono (m' := m) (F' := F') (w' := w) (fun _ _ e => e) hFF (fun _ _ => rfl)).free hΓ (fun l hl => ?_)
        simp only [flat, List.mem_flatMap] at hl
        obtain ⟨y, _, hy⟩ := hl
        have := hΓ.plain e y l hy
        cases l <;> first | trivial | exact this.elim
    · simp at q
  · obtain ⟨k, c, x, o1, f1, g1, g2, g3, g4, g5⟩ := mk_inv hp (get_mem hn)
    rcases mk1_inv g3 with ⟨l', hl', q⟩ | ⟨t', cs, _, q⟩ | ⟨e', i, rfl, q⟩ | ⟨i, off', n', rfl, q⟩
    · rcases hkey k c g1 with ⟨t2, rfl⟩ | ⟨i, j, rfl⟩ <;> simp [mkLeaf] at q
    · simp at q
    · rcases q with ⟨xs, q⟩ | q | q
      · simp at q
      · simp at q
      · obtain ⟨n', q, q'⟩ := q
        have q2 := q' x (by simp [mk1])
        simp at q
        obtain ⟨rfl, rfl⟩ := q
        rcases hmo k e' id x o1 f1 g1 g2 g4 with ⟨_, hx, h3⟩ | ⟨src, _, h2, _, _, h5⟩
        · subst hx
          exact ⟨_, h3, (fun b n' h => by cases h), (fun _ _ _ _ h => by cases h; exact q2)⟩
        · obtain ⟨o2, cap, vals, q1, _⟩ := hm.row src e' x h5
          exact ⟨_, h2.trans q1, (fun b n' h => by cases h), (fun _ _ _ _ h => by cases h; exact q2)⟩
    · simp at q
      obtain ⟨rfl, rfl⟩ := q
      simp only [proj1] at g2
      split at g2
      · rename_i id' off2 n2 hkl hu
        cases hb : Nat.beq id' id && (Nat.beq off2 off' && Nat.beq n2 n) with
        | false => rw [hb] at g2; cases g2
        | true =>
          simp only [Bool.and_eq_true] at hb
          have e1 := Nat.eq_of_beq_eq_true hb.2.2
          subst e1
          obtain ⟨p, p1, p2⟩ := hm.used id n2 hu
          exact ⟨p, (hmp _ (ptrs_mem g1)).trans p1, p2⟩
      · cases g2
  · have hno := get_none (mk_some C v) hn
    refine hmn id (fun h => ?_) (fun h => ?_)
    · obtain ⟨k, e, hC⟩ := names_inv h
      obtain ⟨_, _, _, _, hin, _, _⟩ := mk_of hp hC
      exact hno _ (hin _ (List.mem_cons_of_mem _ (List.mem_cons_of_mem _ (List.mem_cons_of_mem _ List.mem_cons_self)))) rfl
    · obtain ⟨k, off, n, hC⟩ := ptrs_inv h
      obtain ⟨_, _, _, _, hin, _, _⟩ := mk_of hp hC
      exact hno (.used id, some (.num n)) (hin _ (by simp [mk1])) rfl
  · rcases hOw id b (.inl ⟨n, hb⟩) with ⟨hin, _⟩ | ⟨k, e, src, x, hC, h1, h3, h4, h5, n', cap, sz, h6⟩
    · rw [hmp id hin] at hb; exact hm.box id b n hb
    · exfalso
      obtain ⟨x', o1, f1, g1, _, g3, _⟩ := mk_of hp hC
      rcases hmo k e id x' o1 f1 hC g1 g3 with ⟨q1, _, _⟩ | ⟨src', q1, q2, _⟩
      · rw [h1] at q1; cases q1
      · rw [h1] at q1
        cases q1
        rw [q2, h6] at hb; cases hb
  · rcases hOw id b hb with ⟨hin, n, h⟩ | ⟨k, e, src, x, hC, h1, h3, h4, h5, n', cap, sz, h6⟩
    · obtain ⟨_, q2, q3⟩ := hm.ours id b (.inl ⟨n, h⟩)
      exact ⟨hnf b (.inl ⟨id, n, h⟩), q2, q3⟩
    · obtain ⟨_, q2, q3⟩ := hm.ours src b (.inr ⟨n', cap, sz, h6, h4⟩)
      exact ⟨hnf b (.inr ⟨src, h3, h4, n', cap, sz, h6⟩), q2, q3⟩
  · rcases hOw i b h1 with ⟨_, n, g1⟩ | ⟨k, e, src, x, hC, a1, a3, a4, a5, n', cap, sz, a6⟩
    · rcases hOw j b h2 with ⟨_, n2, g2⟩ | ⟨k2, e2, src2, x2, hC2, b1, b3, b4, b5, n2, cap2, sz2, b6⟩
      · exact hm.dist i j b (.inl ⟨n, g1⟩) (.inl ⟨n2, g2⟩)
      · exact (hm.rowBox b5 b6 g1).elim
    · rcases hOw j b h2 with ⟨_, n2, g2⟩ | ⟨k2, e2, src2, x2, hC2, b1, b3, b4, b5, n2, cap2, sz2, b6⟩
      · exact (hm.rowBox a5 a6 g2).elim
      · have := hm.dist src src2 b (.inr ⟨_, _, _, a6, a4⟩) (.inr ⟨_, _, _, b6, b4⟩)
        subst this
        exact own_dist hp hond hC hC2 a1 b1
  · by_cases hin : id ∈ C.ptrs
    · rw [hmp id hin] at hpp; exact hm.fix.2.2 id b hb p hpp
    · by_cases hnm : id ∈ C.names
      · have h1 := hm.fix.2.1 id b hb
        have h2 : id < 900000 := by simpa using List.all_eq_true.1 hk4 id hnm
        omega
      · rw [hmn id hnm hin] at hpp; cases hpp
  · cases hg : (C.mk Γ v).get (.mut id) with
    | none => rfl
    | some val =>
      obtain ⟨k, e, hC⟩ := hmutinv id (by rw [hg]; rfl)
      obtain ⟨_, _, _, _, hin, _, _⟩ := mk_of hp hC
      exact absurd rfl (get_none (mk_some C v) hn _ (hin _ (List.mem_cons_of_mem _ (List.mem_cons_of_mem _ (List.mem_cons_of_mem _ List.mem_cons_self)))))
  · rcases hOw id b hb with ⟨hin, n, h⟩ | ⟨k, e, src, x, hC, h1, h3, h4, h5, n', cap, sz, h6⟩
    · exact ⟨(hm.cst.2.1 id b (.inl ⟨n, h⟩) hc).1, n, (hmp id hin).trans h⟩
    · exact absurd hc (hm.rowCB h6 h4)
end
end Go.Proofs.Ytlhknehkcflkgaa.Ab
