/- A cut: the state that is told anew out of what is carried over. -/
import Derived.Test.YtlhknehkcflkgaaAbRegion4
set_option autoImplicit false
set_option linter.unusedVariables false
set_option linter.unusedSimpArgs false
namespace Go.Proofs.Ytlhknehkcflkgaa.Ab
open Go

section
variable {Γ : Reg} {w0 : World} {Bp : Nat → Nat → Prop} {F0 : Nat → Prop} {nt : Nat} {P : Program} {s : St Γ.α} {a : Act} {w : World} {m : Places} {F : Nat → Prop}

theorem get_mem {k : Key} {v : Val Γ.α} : ∀ {s : St Γ.α}, s.get k = some v → (k, some v) ∈ s
  | [], h => by cases h
  | (k', v') :: s, h => by
    rw [St.get_cons] at h
    split at h
    · rename_i e; subst e; subst h; exact List.mem_cons_self
    · exact List.mem_cons_of_mem _ (get_mem h)
theorem get_none {k : Key} : ∀ {s : St Γ.α}, (∀ x ∈ s, x.2 ≠ none) → s.get k = none → ∀ x ∈ s, x.1 ≠ k
  | [], _, _ => by simp
  | (k', v') :: s, hs, h => by
    rw [St.get_cons] at h
    intro x hx
    split at h
    · rename_i e; subst h; exact absurd rfl (hs _ List.mem_cons_self)
    · rename_i e
      rcases List.mem_cons.1 hx with rfl | hx
      · exact e
      · exact get_none (fun y hy => hs y (List.mem_cons_of_mem _ hy)) h x hx
theorem mk1_some (k : Key) (c : CK) (x : c.ty Γ) : ∀ y ∈ mk1 Γ k c x, y.2 ≠ none := by
  have hl : ∀ l : Lf Γ.α, (mkLeaf k l).2 ≠ none := fun l => by cases k <;> simp [mkLeaf]
  cases c <;> simp [mk1, mkMark, hl]
theorem mk_some : ∀ (C : Carry) (v : C.ty Γ), ∀ y ∈ C.mk Γ v, y.2 ≠ none
  | [], _ => by simp [Carry.mk]
  | [(k, c)], v => mk1_some k c v
  | (k, c) :: c2 :: r, v => by
    intro y hy
    rcases List.mem_append.1 hy with hy | hy
    · exact mk1_some k c v.1 y hy
    · exact mk_some (c2 :: r) v.2 y hy
/-- an entry of the state that is told anew comes of one thing that is carried -/
theorem mk_inv : ∀ {C : Carry} {v : C.ty Γ} {o f : List Nat} {y : Key × Option (Val Γ.α)}, C.proj s = some (v, o, f) → y ∈ C.mk Γ v → ∃ k c x o1 f1, (k, c) ∈ C ∧ proj1 s k c = some (x, o1, f1) ∧ y ∈ mk1 Γ k c x ∧ (∀ i ∈ o1, i ∈ o) ∧ ∀ i ∈ f1, i ∈ f
  | [], v, o, f, y, _, h => by simp [Carry.mk] at h
  | [(k, c)], v, o, f, y, hp, h => ⟨k, c, v, o, f, by simp, hp, h, fun _ x => x, fun _ x => x⟩
  | (k, c) :: c2 :: r, v, o, f, y, hp, h => by
    unfold Carry.proj at hp
    split at hp
    · rename_i x o1 f1 y' o2 f2 h1 h2
      simp only [Option.some.injEq, Prod.mk.injEq] at hp
      obtain ⟨rfl, rfl, rfl⟩ := hp
      rcases List.mem_append.1 h with h | h
      · exact ⟨k, c, _, o1, f1, List.mem_cons_self, h1, h, fun i hi => List.mem_append_left _ hi, fun i hi => List.mem_append_left _ hi⟩
      · obtain ⟨k', c', x', o', f', g1, g2, g3, g4, g5⟩ := mk_inv (C := c2 :: r) h2 h
        exact ⟨k', c', x', o', f', List.mem_cons_of_mem _ g1, g2, g3, fun i hi => List.mem_append_right _ (g4 i hi), fun i hi => List.mem_append_right _ (g5 i hi)⟩
    · cases hp
/-- what is carried is told -/
theorem mk_of : ∀ {C : Carry} {v : C.ty Γ} {o f : List Nat} {k : Key} {c : CK}, C.proj s = some (v, o, f) → (k, c) ∈ C → ∃ x o1 f1, proj1 s k c = some (x, o1, f1) ∧ (∀ y ∈ mk1 Γ k c x, y ∈ C.mk Γ v) ∧ (∀ i ∈ o1, i ∈ o) ∧ ∀ i ∈ f1, i ∈ f
  | [], v, o, f, k, c, _, h => by simp at h
  | [(k', c')], v, o, f, k, c, hp, h => by
    simp at h
    obtain ⟨rfl, rfl⟩ := h
    exact ⟨v, o, f, hp, fun y hy => hy, fun _ x => x, fun _ x => x⟩
  | (k', c') :: c2 :: r, v, o, f, k, c, hp, h => by
    unfold Carry.proj at hp
    split at hp
    · rename_i x o1 f1 y' o2 f2 h1 h2
      simp only [Option.some.injEq, Prod.mk.injEq] at hp
      obtain ⟨rfl, rfl, rfl⟩ := hp
      rcases List.mem_cons.1 h with h | h
      · cases h
        exact ⟨x, o1, f1, h1, fun y hy => List.mem_append_left _ hy, fun i hi => List.mem_append_left _ hi, fun i hi => List.mem_append_left _ hi⟩
      · obtain ⟨x', o', f', g1, g2, g3, g4⟩ := mk_of (C := c2 :: r) h2 h
        exact ⟨x', o', f', g1, fun y hy => List.mem_append_right _ (g2 y hy), fun i hi => List.mem_append_right _ (g3 i hi), fun i hi => List.mem_append_right _ (g4 i hi)⟩
    · cases hp
theorem names_mem {k : Key} {e : TypeId} {id : Nat} : ∀ {C : Carry}, (k, .own e id) ∈ C → id ∈ C.names
  | [], h => by simp at h
  | (k', c') :: r, h => by
    rcases List.mem_cons.1 h with h | h
    · cases h; simp [Carry.names]
    · have := names_mem h
      cases c' <;> simp [Carry.names, this]
theorem ptrs_mem {k : Key} {id off n : Nat} : ∀ {C : Carry}, (k, .ptr id off n) ∈ C → id ∈ C.ptrs
  | [], h => by simp at h
  | (k', c') :: r, h => by
    rcases List.mem_cons.1 h with h | h
    · cases h; simp [Carry.ptrs]
    · have := ptrs_mem h
      cases c' <;> simp [Carry.ptrs, this]
theorem ptrs_inv {id : Nat} : ∀ {C : Carry}, id ∈ C.ptrs → ∃ k off n, (k, .ptr id off n) ∈ C
  | [], h => by simp [Carry.ptrs] at h
  | (k', c') :: r, h => by
    have step : id ∈ Carry.ptrs r → ∃ k off n, (k, .ptr id off n) ∈ (k', c') :: r := fun h => by
      obtain ⟨k, off, n, g⟩ := ptrs_inv h
      exact ⟨k, off, n, List.mem_cons_of_mem _ g⟩
    cases c' with
    | ptr i off n =>
      simp only [Carry.ptrs, List.mem_cons] at h
      rcases h with rfl | h
      · exact ⟨k', off, n, List.mem_cons_self⟩
      · exact step h
    | _ => exact step (by simpa [Carry.ptrs] using h)
/-- where a name points from now on -/
def plc (Γ : Reg) (m : Places) (s : St Γ.α) : Carry → Nat → Option Place
  | [], _ => none
  | (k, .own e i) :: r, id => if i = id then (match keyLf s k with | some (.own src) => m src | _ => some (.row none 0 0 (Γ.sz e))) else plc Γ m s r id
  | (_, .ptr i _ _) :: r, id => if i = id then m i else plc Γ m s r id
  | _ :: r, id => plc Γ m s r id
theorem plc_ptr {id : Nat} : ∀ {C : Carry}, id ∈ C.ptrs → (∀ n ∈ C.names, n ∉ C.ptrs) → plc Γ m s C id = m id
  | [], h, _ => by simp [Carry.ptrs] at h
  | (k', c') :: r, h, hd => by
    cases c' with
    | ptr i off n =>
      simp only [plc]
      by_cases e : i = id
      · rw [if_pos e, e]
      · rw [if_neg e]
        simp only [Carry.ptrs, List.mem_cons] at h
        rcases h with h | h
        · exact absurd h.symm e
        · exact plc_ptr h (fun n hn hp => hd n (by simpa [Carry.names] using hn) (by simp [Carry.ptrs, hp]))
    | own e' i =>
      simp only [plc]
      have hne : i ≠ id := fun e => hd i (by simp [Carry.names]) (by rw [e]; exact h)
      rw [if_neg hne]
      exact plc_ptr (by simpa [Carry.ptrs] using h) (fun n hn hp => hd n (by simp [Carry.names, hn]) (by simpa [Carry.ptrs] using hp))
    | _ => exact plc_ptr (C := r) (by simpa [Carry.ptrs] using h) (fun n hn hp => hd n (by simpa [Carry.names] using hn) (by simpa [Carry.ptrs] using hp))
theorem plc_own {id : Nat} {k : Key} {e : TypeId} : ∀ {C : Carry}, (k, .own e id) ∈ C → C.names.Nodup → (∀ n ∈ C.names, n ∉ C.ptrs) → plc Γ m s C id = (match keyLf s k with | some (.own src) => m src | _ => some (.row none 0 0 (Γ.sz e)))
  | [], h, _, _ => by simp at h
  | (k', c') :: r, h, hn, hd => by
    rcases List.mem_cons.1 h with h1 | h1
    · cases h1
      simp only [plc, if_true]
    · have hid := names_mem h1
      cases c' with
      | ptr i off n =>
        simp only [plc]
        have hne : i ≠ id := fun e => hd id (by simpa [Carry.names] using hid) (by simp [Carry.ptrs, e])
        rw [if_neg hne]
        exact plc_own h1 (by simpa [Carry.names] using hn) (fun n hn' hp => hd n (by simpa [Carry.names] using hn') (by simp [Carry.ptrs, hp]))
      | own e' i =>
        simp only [Carry.names, List.nodup_cons] at hn
        simp only [plc]
        have hne : i ≠ id := fun e => hn.1 (by rw [e]; exact hid)
        rw [if_neg hne]
        exact plc_own h1 hn.2 (fun n hn' hp => hd n (by simp [Carry.names, hn']) (by simpa [Carry.ptrs] using hp))
      | _ => exact plc_own (C := r) h1 (by simpa [Carry.names] using hn) (fun n hn' hp => hd n (by simpa [Carry.names] using hn') (by simpa [Carry.ptrs] using hp))
theorem plc_none {id : Nat} : ∀ {C : Carry}, id ∉ C.names → id ∉ C.ptrs → plc Γ m s C id = none
  | [], _, _ => rfl
  | (k', c') :: r, h1, h2 => by
    cases c' with
    | ptr i off n =>
      simp only [Carry.ptrs, List.mem_cons, not_or] at h2
      simp only [plc]
      rw [if_neg (fun e => h2.1 e.symm)]
      exact plc_none (by simpa [Carry.names] using h1) h2.2
    | own e' i =>
      simp only [Carry.names, List.mem_cons, not_or] at h1
      simp only [plc]
      rw [if_neg (fun e => h1.1 e.symm)]
      exact plc_none h1.2 (by simpa [Carry.ptrs] using h2)
    | _ => exact plc_none (C := r) (by simpa [Carry.names] using h1) (by simpa [Carry.ptrs] using h2)
theorem names_inv {id : Nat} : ∀ {C : Carry}, id ∈ C.names → ∃ k e, (k, .own e id) ∈ C
  | [], h => by simp [Carry.names] at h
  | (k', c') :: r, h => by
    have step : id ∈ Carry.names r → ∃ k e, (k, .own e id) ∈ (k', c') :: r := fun h => by
      obtain ⟨k, e, g⟩ := names_inv h
      exact ⟨k, e, List.mem_cons_of_mem _ g⟩
    cases c' with
    | own e i =>
      simp only [Carry.names, List.mem_cons] at h
      rcases h with rfl | h
      · exact ⟨k', e, List.mem_cons_self⟩
      · exact step h
    | _ => exact step (by simpa [Carry.names] using h)
theorem own_src {k : Key} {e : TypeId} {id src : Nat} {x : List (Γ.α e)} {o f : List Nat} (h : proj1 s k (.own e id) = some (x, o, f)) (hk : keyLf s k = some (.own src)) :
    o = [src] ∧ f = [] ∧ (s.get (.mut src)).isSome = true ∧ s.get (.row src) = some (.row e x) := by
  unfold proj1 at h
  rw [hk] at h
  simp only at h
  split at h
  · rename_i e' xs h1 h2
    split at h
    · rename_i he
      subst he
      simp only [Option.some.injEq, Prod.mk.injEq] at h
      obtain ⟨rfl, rfl, rfl⟩ := h
      exact ⟨rfl, rfl, by rw [h1]; rfl, h2⟩
    · cases h
  · cases h
theorem own_kind {k : Key} {e : TypeId} {id : Nat} {x : List (Γ.α e)} {o f : List Nat} (h : proj1 s k (.own e id) = some (x, o, f)) : (keyLf s k = some .nil ∧ x = [] ∧ o = [] ∧ f = []) ∨ ∃ src, keyLf s k = some (.own src) := by
  unfold proj1 at h
  simp only at h
  split at h
  · rename_i hk
    cases h
    exact .inl ⟨hk, rfl, rfl, rfl⟩
  · rename_i src hk
    exact .inr ⟨src, hk⟩
  · cases h
theorem own_dist {src : Nat} {k k' : Key} {e e' : TypeId} {id id' : Nat} : ∀ {C : Carry} {v : C.ty Γ} {o f : List Nat}, C.proj s = some (v, o, f) → o.Nodup → (k, .own e id) ∈ C → (k', .own e' id') ∈ C → keyLf s k = some (.own src) → keyLf s k' = some (.own src) → id = id'
  | [], v, o, f, _, _, h, _, _, _ => by simp at h
  | [(k1, c1)], v, o, f, hp, hn, h, h', hk, hk' => by
    simp at h h'
    obtain ⟨_, h⟩ := h
    obtain ⟨_, h'⟩ := h'
    rw [← h] at h'
    cases h'
    rfl
  | (k1, c1) :: c2 :: r, v, o, f, hp, hn, h, h', hk, hk' => by
    unfold Carry.proj at hp
    split at hp
    · rename_i x o1 f1 y' o2 f2 h1 h2
      simp only [Option.some.injEq, Prod.mk.injEq] at hp
      obtain ⟨rfl, rfl, rfl⟩ := hp
      rw [List.nodup_append] at hn
      rcases List.mem_cons.1 h with j1 | j1 <;> rcases List.mem_cons.1 h' with j2 | j2
      · cases j1; cases j2; rfl
      · cases j1
        obtain ⟨q1, _⟩ := own_src h1 hk
        obtain ⟨x', o', f', g1, _, g3, _⟩ := mk_of (C := c2 :: r) h2 j2
        obtain ⟨q2, _⟩ := own_src g1 hk'
        exact absurd rfl (hn.2.2 src (by rw [q1]; simp) src (g3 src (by rw [q2]; simp)))
      · cases j2
        obtain ⟨q1, _⟩ := own_src h1 hk'
        obtain ⟨x', o', f', g1, _, g3, _⟩ := mk_of (C := c2 :: r) h2 j1
        obtain ⟨q2, _⟩ := own_src g1 hk
        exact absurd rfl (hn.2.2 src (by rw [q1]; simp) src (g3 src (by rw [q2]; simp)))
      · exact own_dist (C := c2 :: r) h2 hn.2.1 j1 j2 hk hk'
    · cases hp
theorem cellsOk_spec {ps : List Nat} : ∀ {C : Carry}, C.cellsOk ps = true → ∀ k c, (k, c) ∈ C → (∃ t, k = .tmp t) ∨ ∃ id off, k = .cell id off ∧ id ∈ ps
  | [], _ => by simp
  | (k', c') :: r, h => by
    intro k c hm
    cases k' with
    | tmp t =>
      rcases List.mem_cons.1 hm with hm | hm
      · cases hm; exact .inl ⟨t, rfl⟩
      · exact cellsOk_spec (by simpa [Carry.cellsOk] using h) k c hm
    | cell id off =>
      simp only [Carry.cellsOk] at h
      cases hn : natIn id ps with
      | false => rw [hn] at h; cases h
      | true =>
        rw [hn] at h
        rcases List.mem_cons.1 hm with hm | hm
        · cases hm; exact .inr ⟨id, off, rfl, natIn_iff.1 hn⟩
        · exact cellsOk_spec h k c hm
    | _ => simp [Carry.cellsOk] at h
/-- the leaf that stands at a key, as the model has it -/
def KeyV (w : World) (a : Act) (m : Places) : Key → Value → Prop
  | .tmp t, v => v = a.tmps.getD t undef
  | .cell id off, v => ∃ b n, m id = some (.box b n) ∧ off < n ∧ w.cell? ⟨b, off, none⟩ = some v
  | _, _ => False
theorem keyLf_rel (hm : Rm Γ w0 Bp F0 nt s a w m F) {k : Key} {l : Lf Γ.α} (hk : (∃ t, k = .tmp t) ∨ ∃ id off, k = .cell id off) (h : keyLf s k = some l) : ∃ v, KeyV w a m k v ∧ RLf m F w l v := by
  unfold keyLf at h
  rcases hk with ⟨t, rfl⟩ | ⟨id, off, rfl⟩
  · simp only at h
    split at h
    · rename_i l' hg
      cases h
      exact ⟨_, rfl, hm.tmp t _ hg⟩
    · cases h
  · simp only at h
    split at h
    · rename_i l' hg
      cases h
      obtain ⟨b, n, v, h1, h2, h3, h4⟩ := hm.cell id off _ hg
      exact ⟨v, ⟨b, n, h1, h2, h3⟩, h4⟩
    · cases h
theorem hasOwn_spec {k : Key} {id : Nat} : ∀ {C : Carry}, C.hasOwn k id = true → ∃ e, (k, .own e id) ∈ C
  | [], h => by cases h
  | (k', c') :: r, h => by
    have step : Carry.hasOwn k id r = true → ∃ e, (k, .own e id) ∈ (k', c') :: r := fun h => by
      obtain ⟨e, g⟩ := hasOwn_spec h
      exact ⟨e, List.mem_cons_of_mem _ g⟩
    cases c' with
    | own e i =>
      simp only [Carry.hasOwn] at h
      cases hb : (k'.same k && Nat.beq i id) with
      | true =>
        simp only [Bool.and_eq_true] at hb
        have e1 := Key.same_iff.1 hb.1
        have e2 := Nat.eq_of_beq_eq_true hb.2
        subst e1; subst e2
        exact ⟨e, List.mem_cons_self⟩
      | false => rw [hb] at h; exact step h
    | _ => exact step (by simpa [Carry.hasOwn] using h)
theorem eptrsOk_spec {C : Carry} {k k' : Key} {id off : Nat} : ∀ {D : Carry}, C.eptrsOk D = true → (k, .eptr k' id off) ∈ D → ∃ e, (k', .own e id) ∈ C
  | [], _, h => by simp at h
  | (k1, c1) :: r, h, hm => by
    rcases List.mem_cons.1 hm with hm | hm
    · cases hm
      simp only [Carry.eptrsOk] at h
      cases hb : C.hasOwn k' id with
      | true => exact hasOwn_spec hb
      | false => rw [hb] at h; cases h
    · have step : C.eptrsOk r = true → ∃ e, (k', .own e id) ∈ C := fun h => eptrsOk_spec h hm
      cases c1 with
      | eptr k2 i o =>
        simp only [Carry.eptrsOk] at h
        cases hb : C.hasOwn k2 i with
        | true => rw [hb] at h; exact step h
        | false => rw [hb] at h; cases h
      | _ => exact step (by simpa [Carry.eptrsOk] using h)
end
end Go.Proofs.Ytlhknehkcflkgaa.Ab
