/- A region: its operations in the text's order, or in any order that their edges leave open. -/
import Derived.Test.YtlhknehkcflkgaaAbSim
import Derived.Orders
set_option autoImplicit false
set_option linter.unusedVariables false
set_option linter.unusedSimpArgs false
namespace Go.Proofs.Ytlhknehkcflkgaa.Ab
open Go

section
variable {Γ : Reg} {ρ : Type} {O : Orc Γ ρ} {OR : ORel Γ} {w0 : World} {Bp : Nat → Nat → Prop} {F0 : Nat → Prop} {nt : Nat}
variable {P : Program} {sg : FuncId → Option Sig}

def Alike (s s' : St Γ.α) : Prop := ∀ k, s'.get k = s.get k
theorem Alike.refl (s : St Γ.α) : Alike s s := fun _ => rfl
theorem Alike.trans {s s' s'' : St Γ.α} (h : Alike s s') (h' : Alike s' s'') : Alike s s'' := fun k => (h' k).trans (h k)
theorem R.alike {s s' : St Γ.α} {a : Act} {w : World} (h : R Γ w0 Bp F0 nt s a w) (he : Alike s s') : R Γ w0 Bp F0 nt s' a w := by
  obtain ⟨m, F, hm⟩ := h
  exact ⟨m, F, hm.congr he⟩
theorem wr_alike {s s' : St Γ.α} (he : Alike s s') (ws : List (Key × Option (Val Γ.α))) : Alike (wr s ws) (wr s' ws) := fun k => get_wr_mem ws s' s (.inr (he k))
theorem PStep.alike {s s' : St Γ.α} {p : Prog Γ.α} {rs : List Key} {ws : List (Key × Option (Val Γ.α))} (h : PStep OR s p rs ws) : (∀ k ∈ rs, s'.get k = s.get k) → PStep OR s' p rs ws := by
  induction h with
  | done ws => intro _; exact .done ws
  | rd h _ ih => intro he; exact .rd ((he _ List.mem_cons_self).trans h) (ih fun k hk => he k (List.mem_cons_of_mem _ hk))
  | no h _ ih => intro he; exact .no ((he _ List.mem_cons_self).trans h) (ih fun k hk => he k (List.mem_cons_of_mem _ hk))
  | ck _ ih => intro he; exact .ck (ih he)
  | brT _ ih => intro he; exact .brT (ih he)
  | brF _ ih => intro he; exact .brF (ih he)
  | call h _ ih => intro he; exact .call h (ih he)
theorem sel_some {b : Bool} {x : Option ρ} {r : ρ} (h : sel b x none = some r) : b = true ∧ x = some r := by
  cases b with
  | true => exact ⟨rfl, h⟩
  | false => cases h
def OrcOk (O : Orc Γ ρ) (OR : ORel Γ) : Prop := ∀ f args k r, O f args k = some r → ∃ y, OR f args y ∧ k y = some r
theorem evP_step (hO : OrcOk O OR) : ∀ {p : Prog Γ.α} {s : St Γ.α} {rs : List Key} {k : List (Key × Option (Val Γ.α)) → List Key → Option ρ} {r : ρ}, evP O p s rs k = some r →
    ∃ ws rs', PStep OR s p rs' ws ∧ k ws (rs'.reverse ++ rs) = some r := by
  intro p
  induction p with
  | fail => intro s rs k r h; cases h
  | done ws => intro s rs k r h; exact ⟨ws, [], .done ws, h⟩
  | rd key c ih =>
    intro s rs k r h
    simp only [evP] at h
    cases hg : s.get key with
    | none => rw [hg] at h; cases h
    | some v =>
      rw [hg] at h
      obtain ⟨ws, rs', h1, h2⟩ := ih v h
      exact ⟨ws, key :: rs', .rd hg h1, by simpa using h2⟩
  | no key p ih =>
    intro s rs k r h
    simp only [evP] at h
    cases hg : s.get key with
    | some v => rw [hg] at h; cases h
    | none =>
      rw [hg] at h
      obtain ⟨ws, rs', h1, h2⟩ := ih h
      exact ⟨ws, key :: rs', .no hg h1, by simpa using h2⟩
  | ck c p ih =>
    intro s rs k r h
    obtain ⟨rfl, h⟩ := sel_some h
    obtain ⟨ws, rs', h1, h2⟩ := ih h
    exact ⟨ws, rs', .ck h1, h2⟩
  | br c p q ihp ihq =>
    intro s rs k r h
    cases c with
    | true => obtain ⟨ws, rs', h1, h2⟩ := ihp h; exact ⟨ws, rs', .brT h1, h2⟩
    | false => obtain ⟨ws, rs', h1, h2⟩ := ihq h; exact ⟨ws, rs', .brF h1, h2⟩
  | call f args c ih =>
    intro s rs k r h
    obtain ⟨y, h1, h2⟩ := hO _ _ _ _ h
    obtain ⟨ws, rs', h3, h4⟩ := ih y h2
    exact ⟨ws, rs', .call h1 h3, h4⟩
/-- one operation of a region, or its being passed over -/
inductive OStep (OR : ORel Γ) (sg : FuncId → Option Sig) (all : List Oper) (s : St Γ.α) (o : Oper) : List Key → List (Key × Option (Val Γ.α)) → Prop where
  | plain {rs ws} (hg : o.guard = none) (h : PStep OR s (opProg Γ sg o) rs ws) : OStep OR sg all s o rs ws
  | yes {rs ws j want t} (hg : o.guard = some (j, want)) (ht : (all[j]?).bind (·.dst) = some t) (hv : s.get (.tmp t) = some (.av (.one (.bool want)))) (h : PStep OR s (opProg Γ sg o) rs ws) : OStep OR sg all s o (.tmp t :: rs) ws
  | no {j want t b} (hg : o.guard = some (j, want)) (ht : (all[j]?).bind (·.dst) = some t) (hv : s.get (.tmp t) = some (.av (.one (.bool b)))) (hb : b ≠ want) : OStep OR sg all s o [.tmp t] (dstKey o.dst)
  | und {j want t} (hg : o.guard = some (j, want)) (ht : (all[j]?).bind (·.dst) = some t) (hv : s.get (.tmp t) = some (.av .undef)) : OStep OR sg all s o [.tmp t] (dstKey o.dst)
theorem OStep.alike {all : List Oper} {s s' : St Γ.α} {o : Oper} {rs : List Key} {ws : List (Key × Option (Val Γ.α))} (h : OStep OR sg all s o rs ws) (he : ∀ k ∈ rs, s'.get k = s.get k) : OStep OR sg all s' o rs ws := by
  cases h with
  | plain hg h => exact .plain hg (h.alike he)
  | yes hg ht hv h => exact .yes hg ht ((he _ List.mem_cons_self).trans hv) (h.alike fun k hk => he k (List.mem_cons_of_mem _ hk))
  | no hg ht hv hb => exact .no hg ht ((he _ List.mem_cons_self).trans hv) hb
  | und hg ht hv => exact .und hg ht ((he _ List.mem_cons_self).trans hv)
structure Foot (Γ : Reg) where
  rs : List Key
  ws : List (Key × Option (Val Γ.α))
def Foot.fp (f : Foot Γ) : FP := ⟨f.rs, f.ws.map (·.1)⟩
/-- the operations, one after the other -/
inductive Chain (OR : ORel Γ) (sg : FuncId → Option Sig) (all : List Oper) : St Γ.α → List Oper → List (Foot Γ) → Prop where
  | nil {s} : Chain OR sg all s [] []
  | cons {s o rest fs} (f : Foot Γ) (h : OStep OR sg all s o f.rs f.ws) (t : Chain OR sg all (wr s f.ws) rest fs) : Chain OR sg all s (o :: rest) (f :: fs)
def endSt (s : St Γ.α) (fs : List (Foot Γ)) : St Γ.α := wr s (fs.flatMap (·.ws))
theorem Chain.alike {all : List Oper} {rest : List Oper} {s s' : St Γ.α} {fs : List (Foot Γ)} (h : Chain OR sg all s rest fs) (he : Alike s s') : Chain OR sg all s' rest fs := by
  induction h generalizing s' with
  | nil => exact .nil
  | cons f h _ ih => exact .cons f (h.alike fun k _ => he k) (ih (wr_alike he f.ws))
theorem setB_alike {s : St Γ.α} {t : Tmp} {b : Bool} (h : s.get (.tmp t) = some (.av (.one (.bool b)))) : Alike (setB s t b) s := fun k => by
  unfold setB
  rw [St.get_cons]
  split
  · rename_i e; subst e; exact h
  · rfl
theorem mem_rev {t : Key} {rs : List Key} : ∀ key, key ∈ t :: rs → key ∈ rs.reverse ++ [t] := fun key hk => by
  rcases List.mem_cons.1 hk with h | h
  · simp [h]
  · simp [h]
def ChainEnd (OR : ORel Γ) (sg : FuncId → Option Sig) (all rest : List Oper) (s : St Γ.α) (fps : List FP) (k : St Γ.α → List FP → Option ρ) (r : ρ) : Prop :=
  ∃ fs s', Chain OR sg all s rest fs ∧ Alike (endSt s fs) s' ∧ (∃ fps', k s' (fps ++ fps') = some r ∧ fps'.length = fs.length ∧ ∀ (i : Nat) f g, fs[i]? = some f → fps'[i]? = some g → g.ws = f.ws.map (·.1) ∧ ∀ key, key ∈ f.rs → key ∈ g.rs)
theorem evOps_chain (hO : OrcOk O OR) (all : List Oper) : ∀ {rest : List Oper} {s : St Γ.α} {fps : List FP} {k : St Γ.α → List FP → Option ρ} {r : ρ}, evOps sg O all rest s fps k = some r →
    ChainEnd OR sg all rest s fps k r
  | [], s, fps, k, r, h => ⟨[], s, .nil, .refl _, [], by simpa [evOps] using h, rfl, by simp⟩
  | o :: rest, s, fps, k, r, h => by
    have push : ∀ {s1 : St Γ.α} {f : Foot Γ} {g : FP}, Alike s s1 ∨ Alike s1 s → OStep OR sg all s o f.rs f.ws → g.ws = f.ws.map (·.1) → (∀ key, key ∈ f.rs → key ∈ g.rs) → evOps sg O all rest (wr s1 f.ws) (fps ++ [g]) k = some r →
        ChainEnd OR sg all (o :: rest) s fps k r := by
      intro s1 f g ha hst hg1 hg2 hev
      have ha : Alike s s1 := by
        rcases ha with h | h
        · exact h
        · exact fun k => (h k).symm
      obtain ⟨fs, s', c1, c2, fps', c3, c4, c5⟩ := evOps_chain hO all hev
      refine ⟨f :: fs, s', .cons f hst (c1.alike fun k => ((wr_alike ha f.ws) k).symm), ?_, g :: fps', by simpa using c3, by simp [c4], fun i f' g' h1 h2 => ?_⟩
      · simp only [endSt, List.flatMap_cons, wr_append]
        exact (wr_alike (wr_alike ha f.ws) _).trans c2
      · cases i with
        | zero => simp at h1 h2; subst h1; subst h2; exact ⟨hg1, hg2⟩
        | succ i => exact c5 i f' g' (by simpa using h1) (by simpa using h2)
    unfold evOps at h
    cases hg : o.guard with
    | none =>
      rw [hg] at h
      obtain ⟨ws, rs', h1, h2⟩ := evP_step hO h
      rw [wrK_eq] at h2
      exact push (f := ⟨rs', ws⟩) (.inl (.refl s)) (.plain hg h1) rfl (by simp) h2
    | some jw =>
      obtain ⟨j, want⟩ := jw
      rw [hg] at h
      simp only at h
      cases ht : (all[j]?).bind (·.dst) with
      | none => rw [ht] at h; cases h
      | some t =>
        rw [ht] at h
        simp only at h
        split at h
        · rename_i b hb
          have hyes : b = want → (evP O (opProg Γ sg o) (setB s t b) [.tmp t] fun ws rs => wrK (setB s t b) ws fun s' => evOps sg O all rest s' (fps ++ [⟨rs, ws.map (·.1)⟩]) k) = some r → ChainEnd OR sg all (o :: rest) s fps k r := fun hbw hh => by
            obtain ⟨ws, rs', h1, h2⟩ := evP_step hO hh
            rw [wrK_eq] at h2
            exact push (f := ⟨.tmp t :: rs', ws⟩) (.inr (setB_alike hb)) (.yes hg ht (hbw ▸ hb) (h1.alike fun k _ => (setB_alike hb) k)) rfl mem_rev h2
          have hno : b ≠ want → (wrK (setB s t b) (dstKey o.dst) fun s' => evOps sg O all rest s' (fps ++ [⟨[.tmp t], (dstKey (Γ := Γ) o.dst).map (·.1)⟩]) k) = some r → ChainEnd OR sg all (o :: rest) s fps k r := fun hbw hh => by
            rw [wrK_eq] at hh
            exact push (f := ⟨[.tmp t], dstKey o.dst⟩) (.inr (setB_alike hb)) (.no hg ht hb hbw) rfl (by simp) hh
          cases want <;> cases b <;> simp only [sel, cond_true, cond_false] at h
          · exact hyes rfl h
          · exact hno (by simp) h
          · exact hno (by simp) h
          · exact hyes rfl h
        · rename_i hb
          rw [wrK_eq] at h
          exact push (f := ⟨[.tmp t], dstKey o.dst⟩) (.inl (.refl s)) (.und hg ht hb) rfl (by simp) h
        · cases h
end
end Go.Proofs.Ytlhknehkcflkgaa.Ab
