/- A function: its contract out of its code's evaluation. -/
import Derived.Test.YtlhknehkcflkgaaAbFn3
set_option autoImplicit false
set_option linter.unusedVariables false
set_option linter.unusedSimpArgs false
namespace Go.Proofs.Ytlhknehkcflkgaa.Ab
open Go

section
variable {Γ : Reg} {w0 : World} {Bp : Nat → Nat → Prop} {F0 : Nat → Prop} {nt : Nat} {P : Program} {s : St Γ.α} {a : Act} {w : World} {m : Places} {F F' : Nat → Prop}

theorem zero_rel1 (z : Z) : RLf m F w (z.lf (α := Γ.α)) (Zval z) := by cases z <;> first | exact .int _ _ | exact .bool _ | exact .str _ | exact .nil
/-- what a variable holds in the end: of what was never written, anything -/
theorem cellsOfM_rel (hm : Rm Γ w0 Bp F0 nt s a w m F) {id b n mask : Nat} (hid : (∃ off l, s.get (.cell id off) = some (.lf l)) → m id = some (.box b n)) : ∀ {zs : List Z} {off : Nat} {cs : List (Lf Γ.α)}, cellsOfM s id mask off zs = some cs →
    cs.length = zs.length ∧ ∃ vals : List Value, RLs m F w cs vals ∧ ∀ (j : Nat) u, tb mask (off + j) = false → vals[j]? = some u → w.cell? ⟨b, off + j, none⟩ = some u
  | [], off, cs, h => by
    have : cs = [] := by simpa [cellsOfM] using h.symm
    subst this
    exact ⟨rfl, [], .nil, by simp⟩
  | z :: zs, off, cs, h => by
    unfold cellsOfM at h
    cases ht : tb mask off with
    | true =>
      rw [ht, cond_true] at h
      split at h
      · rename_i ls h2
        cases h
        obtain ⟨e1, vals, e2, e3⟩ := cellsOfM_rel hm hid h2
        refine ⟨by simp [e1], Zval z :: vals, .cons (zero_rel1 z) e2, fun j u hj hu => ?_⟩
        cases j with
        | zero => rw [show off + 0 = off from rfl, ht] at hj; cases hj
        | succ j =>
          have := e3 j u (by rwa [show off + 1 + j = off + (j + 1) by omega]) (by simpa using hu)
          rwa [show off + 1 + j = off + (j + 1) by omega] at this
      · cases h
    | false =>
      rw [ht, cond_false] at h
      split at h
      · rename_i l ls h1 h2
        cases h
        obtain ⟨e1, vals, e2, e3⟩ := cellsOfM_rel hm hid h2
        obtain ⟨b', n', v, g1, g2, g3, g4⟩ := hm.cell id off l h1
        rw [hid ⟨off, l, h1⟩] at g1
        cases g1
        refine ⟨by simp [e1], v :: vals, .cons g4 e2, fun j u hj hu => ?_⟩
        cases j with
        | zero => simp at hu; subst hu; exact g3
        | succ j =>
          have := e3 j u (by rwa [show off + 1 + j = off + (j + 1) by omega]) (by simpa using hu)
          rwa [show off + 1 + j = off + (j + 1) by omega] at this
      · cases h
theorem cellsOfM_some {id mask : Nat} : ∀ {zs : List Z} {off : Nat} {cs : List (Lf Γ.α)}, cellsOfM s id mask off zs = some cs → ∀ j, j < zs.length → tb mask (off + j) = false → ∃ l, s.get (.cell id (off + j)) = some (.lf l)
  | [], _, _, _, j, hj, _ => by simp at hj
  | z :: zs, off, cs, h, j, hj, ht => by
    unfold cellsOfM at h
    have next : ∀ {ls : List (Lf Γ.α)}, cellsOfM s id mask (off + 1) zs = some ls → ∀ i, j = i + 1 → ∃ l, s.get (.cell id (off + j)) = some (.lf l) := fun h2 i e => by
      subst e
      obtain ⟨l, hl⟩ := cellsOfM_some h2 i (by simpa using hj) (by rwa [show off + 1 + i = off + (i + 1) by omega])
      exact ⟨l, by rwa [show off + 1 + i = off + (i + 1) by omega] at hl⟩
    cases ht0 : tb mask off with
    | true =>
      rw [ht0, cond_true] at h
      split at h
      · rename_i ls h2
        cases j with
        | zero => rw [show off + 0 = off from rfl, ht0] at ht; cases ht
        | succ i => exact next h2 i rfl
      · cases h
    | false =>
      rw [ht0, cond_false] at h
      split at h
      · rename_i l ls h1 h2
        cases j with
        | zero => exact ⟨l, h1⟩
        | succ i => exact next h2 i rfl
      · cases h
/-- some cell may be written -/
def anyFree (k : Nat) : Nat → Bool
  | 0 => false
  | n + 1 => !tb k n || anyFree k n
theorem anyFree_spec {k : Nat} : ∀ {n : Nat}, anyFree k n = true → ∃ j, j < n ∧ tb k j = false
  | 0, h => by cases h
  | n + 1, h => by
    simp only [anyFree, Bool.or_eq_true, Bool.not_eq_true'] at h
    rcases h with h | h
    · exact ⟨n, by omega, h⟩
    · obtain ⟨j, h1, h2⟩ := anyFree_spec h; exact ⟨j, by omega, h2⟩
def ksFine (Γ : Reg) : List (Bool × TypeId) → List Nat → Bool
  | [], _ => true
  | (false, _) :: ps, ks => ksFine Γ ps ks
  | (true, t) :: ps, k :: ks => (match Γ.ti t with | some ti => anyFree k ti.size | none => false) && ksFine Γ ps ks
  | (true, _) :: _, [] => false
theorem box_run (hΓ : Γ.Ok P) (hm : Rm Γ w0 Bp F0 nt s a w m F) : ∀ {ps : List (Bool × TypeId)} {i : Nat} {ks : List Nat} {css bss : List (List (Lf Γ.α))} {vs : List Value} {bb wb : List Nat} {bs0 bs : List (TypeId × List Bool)}, ArgsRel F0 w0 ps bs0 css vs bb wb → boxCells s Γ.ti i ps ks = some bss → bsOk ps bs = true → ksFine Γ ps ks = true → i + ps.length ≤ 90 → (∀ q ∈ pairsOf i ps ks bb, Bp q.1 q.2) →
    ∃ us2, VR m F w bs bss us2 ∧ BxNow w0 w ks bb us2 ∧ ∀ b ∈ bb, ∃ id n, m id = some (.box b n) := by
  intro ps
  induction ps with
  | nil =>
    intro i ks css bss vs bb wb bs0 bs hA h hb _ _ _
    cases hA
    cases bs with
    | cons _ _ => simp [bsOk] at hb
    | nil => simp [boxCells] at h; subst h; exact ⟨[], .nil, .nil, by simp⟩
  | cons p ps ih =>
    intro i ks css bss vs bb wb bs0 bs hA h hb hkl hi hp
    obtain ⟨bx, t⟩ := p
    simp only [List.length_cons] at hi
    cases hA with
    | val h1 hr ht => exact ih ht (by simpa [boxCells] using h) (by simpa [bsOk] using hb) (by simpa [ksFine] using hkl) (by omega) hp
    | box h1 hg hC hr ht =>
      rename_i _ _ ti _ cs css vs bb b C ty _ wb
      cases ks with
      | nil => simp [ksFine] at hkl
      | cons k ks =>
      simp only [ksFine, h1, Bool.and_eq_true] at hkl
      cases bs with
      | nil => simp [bsOk] at hb
      | cons b' bs =>
        obtain ⟨t', fl⟩ := b'
        simp only [bsOk] at hb
        cases hbt : Nat.beq t t' with
        | false => rw [hbt] at hb; cases hb
        | true =>
          rw [hbt] at hb
          have := Nat.eq_of_beq_eq_true hbt
          subst this
          simp only [boxCells, h1, ksHead, List.tail_cons] at h
          split at h
          · rename_i c2 css2 e1 e2
            cases h
            obtain ⟨us2, q1, q2, q3⟩ := ih ht e2 hb hkl.2 (by omega) (fun q hq => hp q (List.mem_cons_of_mem _ hq))
            have hti := hΓ.ti t ti h1
            have hbp : Bp (boxId i k) b := hp (boxId i k, b) List.mem_cons_self
            have hid : m (boxId i k) = some (.box b ti.size) := by
              obtain ⟨j, hj1, hj2⟩ := anyFree_spec hkl.1
              obtain ⟨l, hl⟩ := cellsOfM_some e1 j (by rw [hti.zl]; exact hj1) (by simpa using hj2)
              obtain ⟨b', n', v, g3, _⟩ := hm.cell _ _ l hl
              obtain ⟨n, g4, C3, t3, g5, g6⟩ := hm.fix.2.2 _ b hbp _ g3
              rw [hg] at g5
              cases g5
              rw [g3, g4, ← g6, hC]
            obtain ⟨_, C2, t2, k1, k2⟩ := hm.box _ _ _ hid
            have hcb : ∀ off, cbit (boxId i k) off = tb k off := fun off => by
              unfold cbit boxId
              rw [show (900000 + i + 10000000 * k) / 10000000 = k by omega]
            obtain ⟨l1, vals, l2, l3⟩ := cellsOfM_rel (b := b) (n := ti.size) hm (fun _ => hid) e1
            rw [hti.zl] at l1
            have hvl : vals.length = ti.size := by rw [← l2.1, l1]
            have hvc := valOf_cells hti hvl (fun v hv => by
              obtain ⟨j, hj, rfl⟩ := List.getElem_of_mem hv
              have hj' : j < c2.length := by rw [l2.1]; exact hj
              exact (l2.2 j _ _ (List.getElem?_eq_getElem hj') (List.getElem?_eq_getElem hj)).cells)
            refine ⟨valOf ti.agg vals :: us2, .cons h1 l2 q1, .cons ⟨C2, t2, k1, ?_, fun off u hto hu => ?_, fun off hto => ?_⟩ q2, fun b' hb' => by
              rcases List.mem_cons.1 hb' with rfl | hb'
              · exact ⟨_, _, hid⟩
              · exact q3 b' hb'⟩
            · have f1 := congrArg List.length hvc
              simp only [Array.length_toList] at f1
              rw [k2, f1, hvl]
            · rw [hvc] at hu
              have := l3 off u (by simpa using hto) hu
              simp only [World.cell?, k1, Nat.zero_add] at this
              simpa using this
            · exact hm.cst.2.2 _ _ _ hbp (by rw [hcb]; exact hto)
          · cases h
/-- what the table's functions are taken to answer -/
def ORof (Γ : Reg) (T : List (Nat × Spec Γ)) : ORel Γ := fun f args r => ∃ sp x y, find f T = some sp ∧ unpkPar Γ sp.sg.ps args = some x ∧ sp.f x = some y ∧ r = pkRes Γ (sp.sg.rs ++ sp.sg.bs) y
theorem orc_ok (Γ : Reg) (T : List (Nat × Spec Γ)) (ρ : Type) : OrcOk (orc Γ T ρ) (ORof Γ T) := by
  intro f args k r h
  unfold orc at h
  split at h
  · cases h
  · rename_i sp hsp
    split at h
    · cases h
    · rename_i x hx
      cases hy : sp.f x with
      | none => rw [hy] at h; cases h
      | some y => rw [hy] at h; exact ⟨_, ⟨sp, x, y, hsp, hx, hy, rfl⟩, h⟩
theorem pairs_mem : ∀ {ps : List (Bool × TypeId)} {i : Nat} {ks : List Nat} {css : List (List (Lf Γ.α))} {bs : List (TypeId × List Bool)} {vs : List Value} {bb wb : List Nat}, ArgsRel F0 w ps bs css vs bb wb → ∀ q ∈ pairsOf i ps ks bb, (∃ j k, i ≤ j ∧ j < i + ps.length ∧ q.1 = boxId j k) ∧ q.2 ∈ bb
  | [], _, _, _, _, _, _, _, _ => by simp [pairsOf]
  | (false, _) :: ps, i, ks, _, _, _, _, _, .val _ _ ht => by
    intro q hq
    obtain ⟨⟨j, k, h1, h1', h2⟩, h3⟩ := pairs_mem (i := i + 1) (ks := ks) ht q hq
    exact ⟨⟨j, k, by omega, by simp only [List.length_cons]; omega, h2⟩, h3⟩
  | (true, _) :: ps, i, ks, _, _, _, _, _, .box _ _ _ _ ht => by
    intro q hq
    rcases List.mem_cons.1 hq with rfl | hq
    · exact ⟨⟨i, _, Nat.le_refl _, by simp only [List.length_cons]; omega, rfl⟩, List.mem_cons_self⟩
    · obtain ⟨⟨j, k, h1, h1', h2⟩, h3⟩ := pairs_mem (i := i + 1) ht q hq
      exact ⟨⟨j, k, by omega, by simp only [List.length_cons]; omega, h2⟩, List.mem_cons_of_mem _ h3⟩
theorem pairs_fun : ∀ {ps : List (Bool × TypeId)} {i : Nat} {ks : List Nat} {css : List (List (Lf Γ.α))} {bs : List (TypeId × List Bool)} {vs : List Value} {bb wb : List Nat}, ArgsRel F0 w ps bs css vs bb wb → i + ps.length ≤ 90 → ∀ id b b', (id, b) ∈ pairsOf i ps ks bb → (id, b') ∈ pairsOf i ps ks bb → b = b'
  | [], _, _, _, _, _, _, _, _, _ => by simp [pairsOf]
  | (false, _) :: ps, i, ks, _, _, _, _, _, .val _ _ ht, hi => pairs_fun (i := i + 1) (ks := ks) ht (by simp only [List.length_cons] at hi; omega)
  | (true, _) :: ps, i, ks, _, _, _, _, _, .box _ _ _ _ ht, hi => by
    simp only [List.length_cons] at hi
    intro id b b' h h'
    have hno : ∀ b k, (boxId i k, b) ∉ pairsOf (i + 1) ps ks.tail _ := fun b k hb => by
      obtain ⟨⟨j, k', h1, h1', h2⟩, _⟩ := pairs_mem ht _ hb
      have := boxId_inj (by omega) (by omega) h2; omega
    simp only [pairsOf, List.mem_cons, Prod.mk.injEq] at h h'
    rcases h with ⟨rfl, rfl⟩ | h <;> rcases h' with ⟨h1, h2⟩ | h'
    · exact h2.symm
    · exact absurd h' (hno _ _)
    · subst h1; exact absurd h (hno _ _)
    · exact pairs_fun ht (by omega) id b b' h h'
theorem pairs_inj : ∀ {ps : List (Bool × TypeId)} {i : Nat} {ks : List Nat} {css : List (List (Lf Γ.α))} {bs : List (TypeId × List Bool)} {vs : List Value} {bb wb : List Nat}, ArgsRel F0 w ps bs css vs bb wb → bb.Nodup → ∀ id id' b, (id, b) ∈ pairsOf i ps ks bb → (id', b) ∈ pairsOf i ps ks bb → id = id'
  | [], _, _, _, _, _, _, _, _, _ => by simp [pairsOf]
  | (false, _) :: ps, i, ks, _, _, _, _, _, .val _ _ ht, hn => pairs_inj (i := i + 1) (ks := ks) ht hn
  | (true, _) :: ps, i, ks, _, _, _, _, _, .box _ _ _ _ ht, hn => by
    rw [List.nodup_cons] at hn
    intro id id' b h h'
    simp only [pairsOf, List.mem_cons, Prod.mk.injEq] at h h'
    rcases h with ⟨rfl, rfl⟩ | h <;> rcases h' with ⟨h1, h2⟩ | h'
    · exact h1.symm
    · exact absurd (pairs_mem ht _ h').2 hn.1
    · subst h2; exact absurd (pairs_mem ht _ h).2 hn.1
    · exact pairs_inj ht hn.2 id id' b h h'
theorem args_len : ∀ {ps : List (Bool × TypeId)} {css : List (List (Lf Γ.α))} {bs : List (TypeId × List Bool)} {vs : List Value} {bb wb : List Nat}, ArgsRel F0 w ps bs css vs bb wb → vs.length = ps.length
  | _, _, _, _, _, _, .nil => rfl
  | _, _, _, _, _, _, .val _ _ ht => by simp [args_len ht]
  | _, _, _, _, _, _, .box _ _ _ _ ht => by simp [args_len ht]
theorem args_lt : ∀ {ps : List (Bool × TypeId)} {css : List (List (Lf Γ.α))} {bs : List (TypeId × List Bool)} {vs : List Value} {bb wb : List Nat}, ArgsRel F0 w ps bs css vs bb wb → ∀ b ∈ bb, b < w.heap.size
  | _, _, _, _, _, _, .nil => by simp
  | _, _, _, _, _, _, .val _ _ ht => args_lt ht
  | _, _, _, _, _, _, .box _ hg _ _ ht => by
    intro b hb
    rcases List.mem_cons.1 hb with rfl | hb
    · exact (Array.getElem?_eq_some_iff.1 hg).1
    · exact args_lt ht b hb
theorem leafs_own {base : Nat} {fs : List Bool} {cs : List (Lf Γ.α)} {vals : List Value} {own : List Nat} (h : Leafs F w base fs cs vals own) : own.length ≤ vals.length := by
  induction h with
  | nil => simp
  | @own fs e ls vs own' xs o cap vals h hr _ ih =>
    simp only [List.length_append, List.length_cons]
    have : o.toList.length ≤ 1 := by cases o <;> simp
    omega
  | plain _ _ _ ih => simp only [List.length_cons]; omega
theorem args_wb (hΓ : Γ.Ok P) : ∀ {ps : List (Bool × TypeId)} {css : List (List (Lf Γ.α))} {bs : List (TypeId × List Bool)} {vs : List Value} {bb wb : List Nat}, ArgsRel F0 w ps bs css vs bb wb → (∀ p ∈ ps, Γ.sz p.2 ≤ 100) → wb.length ≤ 100 * ps.length
  | _, _, _, _, _, _, .nil, _ => by simp
  | _ :: ps, _, _, _, _, _, .val _ _ ht, h => by
    have := args_wb hΓ ht (fun p hp => h p (List.mem_cons_of_mem _ hp))
    simp only [List.length_cons]; omega
  | _ :: ps, _, _, _, _, _, .box (own := own) h1 hg hC hr ht, h => by
    have := args_wb hΓ ht (fun p hp => h p (List.mem_cons_of_mem _ hp))
    have h2 := leafs_own hr
    have h3 := h _ List.mem_cons_self
    simp only [sz_ti h1] at h3
    simp only [List.length_append, List.length_cons, Array.length_toList] at h2 ⊢
    omega
theorem args_nobox : ∀ {ps : List (Bool × TypeId)} {css : List (List (Lf Γ.α))} {bs : List (TypeId × List Bool)} {vs : List Value} {bb wb : List Nat}, ArgsRel F0 w ps bs css vs bb wb → bsOk ps [] = true → bb = [] ∧ wb = []
  | _, _, _, _, _, _, .nil, _ => ⟨rfl, rfl⟩
  | _, _, _, _, _, _, .val _ _ ht, h => args_nobox ht (by simpa [bsOk] using h)
  | _, _, _, _, _, _, .box _ _ _ _ _, h => by simp [bsOk] at h
theorem leafs_lt {base : Nat} {fs : List Bool} {cs : List (Lf Γ.α)} {vals : List Value} {own : List Nat} (h : Leafs F w base fs cs vals own) : ∀ b ∈ own, b < w.heap.size := by
  induction h with
  | nil => simp
  | own hown _ _ ih =>
    intro b hb
    rcases List.mem_append.1 hb with hb | hb
    · exact (hown.lt b (by rename_i o _ _; cases o <;> simp_all [sliceV, Value.ownBlock])).2
    · exact ih b hb
  | plain _ _ _ ih => exact ih
theorem args_wlt : ∀ {ps : List (Bool × TypeId)} {css : List (List (Lf Γ.α))} {bs : List (TypeId × List Bool)} {vs : List Value} {bb wb : List Nat}, ArgsRel F0 w ps bs css vs bb wb → ∀ b ∈ wb, b < w.heap.size
  | _, _, _, _, _, _, .nil => by simp
  | _, _, _, _, _, _, .val _ _ ht => args_wlt ht
  | _, _, _, _, _, _, .box _ hg _ hr ht => by
    intro b hb
    rcases List.mem_append.1 hb with hb | hb
    · exact leafs_lt hr b hb
    · exact args_wlt ht b hb
theorem fn_ok {T : List (Nat × Spec Γ)} (hE : FnsOk Γ P (sigs T) (ORof Γ T)) (hmix : P.follows .mixedOrders = true) {f : FuncId} {fn : Func} {c : Code} (hf : P.funcs[f]? = some fn) (hb : fn.body = some c) {sg : Sig} (hdst : dstOk fn.ntmps c = true) (hpar : sg.ps.length ≤ fn.ntmps) (hn9 : fn.ntmps ≤ 900000) (hp90 : sg.ps.length ≤ 90) (hp100 : ∀ p ∈ sg.ps, Γ.sz p.2 ≤ 100) (hks : ksFine Γ sg.ps sg.ks = true)
    {k : Nat} {an : Ann Γ (resTy Γ (sg.rs ++ sg.bs))} {x : parTy Γ sg.ps} {y : resTy Γ (sg.rs ++ sg.bs)} (hob : obl (sigs T) (orc Γ T _) k c an (kont0 Γ sg fn.results.toList)) (hev : evFn Γ (sigs T) sg fn (orc Γ T _) k an x = some y) {css : List (List (Lf Γ.α))} (hx : unpkPar Γ sg.ps css = some x) :
    FnOk P f sg css (pkRes Γ (sg.rs ++ sg.bs) y) := by
  intro w F0 vs bb wb hF0 hA hnd hbb
  have hΓ := hE.reg
  refine calls_of_wp hf hb ?_
  unfold evFn at hev
  rw [hb] at hev
  simp only [forceL_eq] at hev
  have hlen := args_len hA
  let a0 : Act := { tmps := vs.toArray ++ Array.replicate (fn.ntmps - vs.toArray.size) undef, defers := [] }
  let Bp : Nat → Nat → Prop := fun id b => (id, b) ∈ pairsOf 0 sg.ps sg.ks bb ∨ ∃ k, wb[k]? = some b ∧ id = 1000000 + k
  have hbox9 : ∀ id b, (id, b) ∈ pairsOf 0 sg.ps sg.ks bb → 900000 ≤ id ∧ id % 10000000 < 900090 ∧ b ∈ bb := fun id b hq => by
    obtain ⟨⟨j, k, h1, h1', h2⟩, h3⟩ := pairs_mem hA _ hq
    exact ⟨by rw [show id = boxId j k from h2]; unfold boxId; omega, by rw [show id = boxId j k from h2]; unfold boxId; omega, h3⟩
  have wb9 : ∀ (k : Nat) b, wb[k]? = some b → k < 9000 := fun k b hk => by
    have h1 := (List.getElem?_eq_some_iff.1 hk).1
    have h2 := args_wb hΓ hA hp100
    have : 100 * sg.ps.length ≤ 100 * 90 := Nat.mul_le_mul_left _ hp90
    omega
  have hwbC : ∀ b ∈ wb, ¬ CB Bp b := fun b hb ⟨id, off, h, hc⟩ => by
    rcases h with h | ⟨k, h, rfl⟩
    · exact (List.nodup_append.1 hnd).2.2 b (hbox9 id b h).2.2 b hb rfl
    · have := wb9 k b h
      unfold cbit at hc
      rw [show (1000000 + k) / 10000000 = 0 by omega] at hc
      unfold tb at hc
      simp at hc
  have hBB : ∀ b, BB Bp b → b ∈ bb ∨ b ∈ wb := fun b ⟨id, h⟩ => by
    rcases h with h | ⟨k, h, _⟩
    · exact .inl (hbox9 id b h).2.2
    · exact .inr (List.mem_of_getElem? h)
  obtain ⟨m, hm, _⟩ := par_ok (Γ := Γ) (P := P) (a := a0) (nt := fn.ntmps) (Bp := Bp) hΓ hF0 (by simp [a0]; omega) hn9 rfl
    (fun id b hq => by
      rcases hq with hq | ⟨k, hk, rfl⟩
      · obtain ⟨h1, _, h3⟩ := hbox9 id b hq
        exact ⟨h1, args_lt hA b h3, hbb b (List.mem_append_left _ h3)⟩
      · have := List.mem_of_getElem? hk
        exact ⟨by omega, args_wlt hA b this, hbb b (List.mem_append_right _ this)⟩)
    (fun id b b' h1 h2 => by
      rcases h1 with h1 | ⟨k, h1, h1'⟩ <;> rcases h2 with h2 | ⟨k', h2, h2'⟩
      · exact pairs_fun hA (by omega) id b b' h1 h2
      · have := (hbox9 id b h1).2.1; have := wb9 k' b' h2; omega
      · have := (hbox9 id b' h2).2.1; have := wb9 k b h1; omega
      · have : k = k' := by omega
        subst this
        rw [h1] at h2; cases h2; rfl)
    (fun id id' b h1 h2 => by
      rcases h1 with h1 | ⟨k, h1, h1'⟩ <;> rcases h2 with h2 | ⟨k', h2, h2'⟩
      · exact pairs_inj hA (List.nodup_append.1 hnd).1 id id' b h1 h2
      · exact absurd rfl ((List.nodup_append.1 hnd).2.2 b (hbox9 id b h1).2.2 b (List.mem_of_getElem? h2))
      · exact absurd rfl ((List.nodup_append.1 hnd).2.2 b (hbox9 id' b h2).2.2 b (List.mem_of_getElem? h1))
      · have hn := (List.nodup_append.1 hnd).2.1
        obtain ⟨l1, e1⟩ := List.getElem?_eq_some_iff.1 h1
        obtain ⟨l2, e2⟩ := List.getElem?_eq_some_iff.1 h2
        have : k = k' := (List.getElem_inj hn).1 (e1.trans e2.symm)
        omega) 0 hA hx hnd (fun q hq => .inl hq) (fun b hb => ⟨by
        obtain ⟨k, hk, rfl⟩ := List.getElem_of_mem hb
        exact ⟨1000000 + k, .inr ⟨k, List.getElem?_eq_getElem hk, rfl⟩⟩, hwbC b hb⟩) hp100 (by omega) (fun j v hj => by
      have hj' := (List.getElem?_eq_some_iff.1 hj).1
      simp only [a0, Nat.zero_add, Array.getD_eq_getD_getElem?]
      rw [Array.getElem?_append_left (by simpa using hj')]
      simp [hj])
  refine code_ok hE (orc_ok Γ T _) hmix hdst hob hev ⟨m, F0, hm⟩ ?_
  -- the end
  have fin : ∀ s a w', retK Γ sg fn.results.toList s = some y → R Γ w Bp F0 fn.ntmps s a w' → a.defers = [] ∧ ∃ v, (results fn a.tmps).run P w' = .ok v w' ∧ ∃ (F' : Nat → Prop) (us us2 : List Value) (own : List Nat), RetIs sg.nw w w' F' own us (Ending.returned v) ∧ us.length = sg.rs.length ∧ Fr (fun b => b ∈ bb ++ wb) w w' ∧ (∀ b, F0 b → F' b) ∧ (∀ b, F' b → F0 b ∨ w.heap.size ≤ b ∨ b ∈ wb) ∧ (∀ b, F' b → b < w'.heap.size) ∧
      own.Nodup ∧ (∀ b ∈ own, ¬ F' b ∧ (w.heap.size ≤ b ∨ b ∈ wb)) ∧ ResRel F' w' 0 (sg.rs ++ sg.bs) (pkRes Γ (sg.rs ++ sg.bs) y) (us ++ us2) own ∧ BxNow w w' sg.ks bb us2 := by
    intro s a w' hret hr
    obtain ⟨m, F, hm⟩ := hr
    unfold retK at hret
    split at hret
    · rename_i rs bs hrs hbs
      split at hret
      · rename_i x' o fz hun
        cases hc : bsOk sg.ps sg.bs && (nodupB o && (apartN o fz && (!sg.nw || sg.bs.isEmpty))) with
        | false => rw [hc] at hret; cases hret
        | true =>
          rw [hc] at hret
          have hret := Option.some.inj hret
          subst hret
          simp only [Bool.and_eq_true] at hc
          obtain ⟨hc1, hc2, hc3, hc4⟩ := hc
          have hon := nodupB_iff hc2
          have hof := apartN_spec hc3
          obtain ⟨us2, g4, g5, g6⟩ := box_run hΓ hm hA hbs hc1 hks (by omega) (fun q hq => .inl hq)
          let F' : Nat → Prop := fun b => F b ∨ ∃ id ∈ fz, (∃ e xs, s.get (.row id) = some (.row e xs)) ∧ ∃ n cap sz, m id = some (.row (some b) n cap sz)
          have hnbb : ∀ b ∈ bb, ¬ F b := fun b hb => by
            obtain ⟨id, n, h⟩ := g6 b hb
            exact (hm.ours id b (.inl ⟨n, h⟩)).1
          -- the result, and how it comes back
          obtain ⟨us, g1, g2, u, g3, g7⟩ : ∃ us, VR m F w' sg.rs rs us ∧ us.length = sg.rs.length ∧ ∃ u, (results fn a.tmps).run P w' = .ok u w' ∧ ∀ own : List Nat, (∀ b ∈ own, OwnOf s m o b) → RetIs sg.nw w w' F' own us (Ending.returned u) := by
            cases hnw : sg.nw with
            | false =>
              rw [hnw] at hrs
              obtain ⟨us, g1, g2, g3⟩ := res_run hΓ hm hrs
              refine ⟨us, g1, g2, retV us, ?_, fun _ _ => rfl⟩
              unfold results
              rw [Sem.run_bind, Array.mapM_eq_mapM_toList, map_eq_pure_bind, Sem.run_bind]
              refine (congrArg (fun z => Result.andThen (Result.andThen z _) _) g3).trans ?_
              simp only [Result.andThen_ok, Sem.run_pure]
              unfold retV
              split
              · rename_i h1
                obtain ⟨u, hu⟩ := List.length_eq_one_iff.1 (show us.length = 1 by simpa using h1)
                subst hu
                rfl
              · rename_i h1
                split
                · exact absurd (by simp) h1
                · rfl
            | true =>
              rw [hnw] at hrs hc4
              have hbs0 : sg.bs = [] := by simpa using hc4
              unfold resCellsN at hrs
              simp only at hrs
              split at hrs
              · rename_i xt t fl hrv hsr
                split at hrs
                · rename_i ti id hti htx
                  split at hrs
                  · rename_i n cs hused hcs
                    cases hn : Nat.beq n ti.size with
                    | false => rw [hn] at hrs; cases hrs
                    | true =>
                      rw [hn, cond_true] at hrs
                      cases hrs
                      have hn := Nat.eq_of_beq_eq_true hn
                      subst hn
                      have hti' := hΓ.ti t ti hti
                      have hr := hm.tmp xt _ htx
                      generalize hU : a.tmps.getD xt undef = U at hr
                      cases hr with
                      | ptr _ _ b n' hid =>
                        obtain ⟨p, hp, hp2, _⟩ := hm.used id ti.size hused
                        rw [hid] at hp
                        cases hp
                        have hn := hp2 b n' rfl
                        subst hn
                        obtain ⟨l1, vals, l2, l3⟩ := cellsOf_rel hm hid hcs
                        obtain ⟨hb0, C2, t2, k1, k2⟩ := hm.box _ _ _ hid
                        have hCv := cells_toList k1 (by rw [← l2.1, l1, k2]) l3
                        have hvc := valOf_cells hti' (by rw [← l2.1, l1]) (fun v hv => by
                          obtain ⟨j, hj, rfl⟩ := List.getElem_of_mem hv
                          have hj' : j < cs.length := by rw [l2.1]; exact hj
                          exact (l2.2 j _ _ (List.getElem?_eq_getElem hj') (List.getElem?_eq_getElem hj)).cells)
                        have hC : (valOf ti.agg vals).cells = C2 := by rw [← Array.toList_inj, hvc, hCv]
                        have hbe : bb = [] ∧ wb = [] := by rw [hbs0] at hc1 hA; exact args_nobox hA hc1
                        obtain ⟨rfl, rfl⟩ := hbe
                        refine ⟨[valOf ti.agg vals], ?_, by rw [hsr]; rfl, .pointer (some ⟨b, 0, none⟩), ?_, fun own hown => ⟨b, _, t2, rfl, rfl, by rw [hC]; exact k1, ?_, ?_, ?_⟩⟩
                        · rw [hsr]; exact .cons hti l2 .nil
                        · unfold results
                          rw [Sem.run_bind, Array.mapM_eq_mapM_toList, hrv]
                          simp only [List.mapM_cons, List.mapM_nil, Sem.run_bind, Sem.run_pure, Result.andThen_ok, map_eq_pure_bind]
                          rw [hU]; rfl
                        · rcases hb0 with h | h
                          · exact h
                          · rcases hBB b h with h | h <;> cases h
                        · rintro (hf | ⟨i', h3, ⟨e, xs, h4⟩, n, cap, sz, h5⟩)
                          · exact (hm.ours id b (.inl ⟨_, hid⟩)).1 hf
                          · exact hm.rowBox h4 h5 hid
                        · intro hb'
                          obtain ⟨src, r1, r2, n1, cap1, sz1, r3⟩ := hown b hb'
                          have := hm.dist src id b (.inr ⟨_, _, _, r3, r2⟩) (.inl ⟨_, hid⟩)
                          subst this
                          rw [hid] at r3; cases r3
                  · cases hrs
                · cases hrs
              · cases hrs
          obtain ⟨own, q1, q2, q3⟩ := resrel_of (F' := F') hΓ hm (fun _ => .inl) hun (g1.append g4) (fun id hid hrow b n cap sz hb => .inr ⟨id, hid, hrow, n, cap, sz, hb⟩) hon
          refine ⟨hm.nodef, u, g3, F', us, us2, own, g7 own q2, g2, ?_, fun b hb => .inl (hm.f0 b hb), fun b hb => ?_, fun b hb => ?_, q3, fun b hb => ⟨fun hF' => ?_, ?_⟩, q1, g5⟩
          · exact ⟨hm.fr.os, hm.fr.tape, hm.fr.output, hm.fr.size, fun k hk hn => hm.fr.block k hk (fun hb => hn (List.mem_append.2 (hBB k hb)))⟩
          · rcases hb with hb | ⟨id, _, ⟨e, xs, h4⟩, n, cap, sz, h5⟩
            · rcases hm.f1 b hb with h | h | h
              · exact .inl h
              · exact .inr (.inl h)
              · rcases hBB b h with h | h
                · exact absurd hb (hnbb b h)
                · exact .inr (.inr h)
            · rcases hm.rowBlk h4 h5 with h | h | h
              · exact .inl h
              · exact .inr (.inl h)
              · rcases hBB b h with h | h
                · obtain ⟨id', n', hid⟩ := g6 b h
                  exact (hm.rowBox h4 h5 hid).elim
                · exact .inr (.inr h)
          · rcases hb with hb | ⟨id, _, ⟨e, xs, h4⟩, n, cap, sz, h5⟩
            · exact hm.f2 b hb
            · obtain ⟨o3, cap3, vals3, f1, f2, _⟩ := hm.row id e xs h4
              rw [h5] at f1
              simp only [Option.some.injEq, Place.row.injEq] at f1
              rw [← f1.1] at f2
              exact (f2.lt b rfl).2
          · obtain ⟨src, r1, r2, n1, cap1, sz1, r3⟩ := q2 b hb
            have how : Owns s m src b := .inr ⟨_, _, _, r3, r2⟩
            rcases hF' with hF' | ⟨id, h3, ⟨e, xs, h4⟩, n, cap, sz, h5⟩
            · exact (hm.ours src b how).1 hF'
            · by_cases hmut : (s.get (.mut id)).isSome = true
              · have := hm.dist id src b (.inr ⟨n, cap, sz, h5, hmut⟩) how
                subst this
                exact hof id r1 h3
              · obtain ⟨o3, cap3, vals3, f1, _, _, f4⟩ := hm.row id e xs h4
                rw [h5] at f1
                simp only [Option.some.injEq, Place.row.injEq] at f1
                exact (hm.ours src b how).1 (f4 (by cases hq : s.get (.mut id) with
                  | none => rfl
                  | some x => rw [hq] at hmut; simp at hmut) b f1.1.symm)
          · obtain ⟨src, r1, r2, n1, cap1, sz1, r3⟩ := q2 b hb
            have how : Owns s m src b := .inr ⟨_, _, _, r3, r2⟩
            rcases (hm.ours src b how).2.1 with h | h
            · exact .inl h
            · rcases hBB b h with h | h
              · obtain ⟨id', n', hid⟩ := g6 b h
                have := hm.dist src id' b how (.inl ⟨n', hid⟩)
                subst this
                rw [hid] at r3; cases r3
              · exact .inr h
      · cases hret
    · cases hret
  exact ⟨fun s a w' h1 h2 => fin s a w' h1 h2, fun id s a w' h1 _ => (by cases h1), fun s a w' h1 h2 => fin s a w' h1 h2⟩
end
end Go.Proofs.Ytlhknehkcflkgaa.Ab
