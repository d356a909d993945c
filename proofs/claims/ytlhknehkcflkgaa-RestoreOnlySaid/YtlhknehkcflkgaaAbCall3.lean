/- The call, whole. -/
import Derived.Test.YtlhknehkcflkgaaAbCall2
set_option autoImplicit false
set_option linter.unusedVariables false
set_option linter.unusedSimpArgs false
namespace Go.Proofs.Ytlhknehkcflkgaa.Ab
open Go

section
variable {Γ : Reg} {O : ORel Γ} {s : St Γ.α} {w0 : World} {Bp : Nat → Nat → Prop} {F0 : Nat → Prop} {nt : Nat} {a : Act} {w : World} {m : Places} {F : Nat → Prop}
variable {P : Program} {o : Oper} {K : Act → World → Prop} {Q : Exit → Act → World → Prop} {ws : List (Key × Option (Val Γ.α))} {sg : FuncId → Option Sig}

theorem natIn_iff {n : Nat} : ∀ {l : List Nat}, natIn n l = true ↔ n ∈ l
  | [] => by simp [natIn]
  | m :: r => by
    simp only [natIn, List.mem_cons]
    cases h : Nat.beq m n with
    | true => simp [(Nat.eq_of_beq_eq_true h).symm]
    | false =>
      have : ¬ n = m := fun e => by rw [e, Nat.beq_refl] at h; cases h
      simp [this, natIn_iff (l := r)]
theorem nodupB_iff : ∀ {l : List Nat}, nodupB l = true → l.Nodup
  | [], _ => .nil
  | n :: r, h => by
    simp only [nodupB] at h
    cases hn : natIn n r with
    | true => rw [hn] at h; cases h
    | false =>
      rw [hn] at h
      refine List.nodup_cons.2 ⟨fun hm => ?_, nodupB_iff h⟩
      rw [natIn_iff.2 hm] at hn; cases hn
theorem apartN_spec : ∀ {l r : List Nat}, apartN l r = true → ∀ n ∈ l, n ∉ r
  | [], _, _ => by simp
  | n' :: l, r, h => by
    simp only [apartN] at h
    cases hk : natIn n' r with
    | true => rw [hk] at h; cases h
    | false =>
      rw [hk] at h
      intro n hn
      rcases List.mem_cons.1 hn with rfl | hn
      · intro hm; rw [natIn_iff.2 hm] at hk; cases hk
      · exact apartN_spec h n hn
theorem ps_noAll {p : Prog Γ.α} : ∀ {ids : List Nat}, PS O s (noAll ids p) ws → (∀ id ∈ ids, s.get (.used id) = none ∧ id < 900000) ∧ PS O s p ws
  | [], h => ⟨by simp, h⟩
  | id :: ids, h => by
    obtain ⟨h0, h⟩ := ps_ck.1 h
    obtain ⟨h1, h2⟩ := ps_no.1 h
    obtain ⟨h3, h4⟩ := ps_noAll h2
    exact ⟨fun i hi => by rcases List.mem_cons.1 hi with rfl | hi; · exact ⟨h1, by simpa using h0⟩
                          · exact h3 i hi, h4⟩
theorem tb_testBit (m off : Nat) : tb m off = m.testBit off := by
  unfold tb
  rw [Nat.testBit, Nat.and_comm]
  show Nat.beq ((m >>> off) &&& 1) 1 = ((m >>> off) &&& 1 != 0)
  have : (m >>> off) &&& 1 < 2 := by rw [Nat.and_one_is_mod]; omega
  generalize (m >>> off) &&& 1 = x at this
  match x, this with
  | 0, _ => rfl
  | 1, _ => rfl
theorem tb_land {m k off : Nat} (h : Nat.beq (Nat.land m k) m = true) (ht : tb m off = true) : tb k off = true := by
  have h := Nat.eq_of_beq_eq_true h
  rw [tb_testBit] at ht ⊢
  have h2 : (m &&& k).testBit off = true := by rw [show m &&& k = m from h]; exact ht
  rw [Nat.testBit_and, Bool.and_eq_true] at h2
  exact h2.2
/-- the boxes, their new contents, by the names they go under -/
inductive BL (m : Places) (w w' : World) : List Nat → List Nat → List Nat → List Nat → List Value → Prop where
  | nil {ks} : BL m w w' ks [] [] [] []
  | cons {k id b n v ks ids bb ns us} (hm : m id = some (.box b n)) (hn : Bx1 w w' k b v) (hv : v.cells.size = n) (t : BL m w w' ks ids bb ns us) : BL m w w' (k :: ks) (id :: ids) (b :: bb) (n :: ns) (v :: us)
theorem bl_of (hΓ : Γ.Ok P) {F' : Nat → Prop} {w' : World} {base : Nat} : ∀ {ps : List (Bool × TypeId)} {bs : List (TypeId × List Bool)} {ks ids bb : List Nat} {res : List (List (Lf Γ.α))} {us : List Value} {own : List Nat}, bsOk ps bs = true → Boxes m s Γ.ti ps ids bb → ResRel F' w' base bs res us own → BxNow w w' ks bb us →
    ∃ ns, BL m w w' ks ids bb ns us ∧ ns = res.map List.length
  | [], bs, ks, ids, bb, res, us, own, h1, h2, h3, h4 => by
    cases bs with
    | cons _ _ => simp [bsOk] at h1
    | nil =>
      cases h3
      cases ids with
      | cons _ _ => exact h2.elim
      | nil => cases bb with
        | cons _ _ => exact h2.elim
        | nil => exact ⟨[], .nil, rfl⟩
  | (false, _) :: ps, bs, ks, ids, bb, res, us, own, h1, h2, h3, h4 => bl_of hΓ (ps := ps) (by simpa [bsOk] using h1) h2 h3 h4
  | (true, t) :: ps, bs, ks, ids, bb, res, us, own, h1, h2, h3, h4 => by
    cases bs with
    | nil => simp [bsOk] at h1
    | cons b' bs =>
      obtain ⟨t', fl⟩ := b'
      simp only [bsOk] at h1
      cases hb : Nat.beq t t' with
      | false => rw [hb] at h1; cases h1
      | true =>
        rw [hb] at h1
        have := Nat.eq_of_beq_eq_true hb
        subst this
        cases ids with
        | nil => exact h2.elim
        | cons id ids =>
          cases bb with
          | nil => exact h2.elim
          | cons b bb =>
            obtain ⟨⟨ti, h5, h6⟩, h7⟩ := h2
            cases h3 with
            | cons g1 gl gL gt =>
              rename_i ti' cs css vals vs ow1 ow2
              rw [h5] at g1
              cases g1
              cases h4 with
              | cons k1 k2 =>
                obtain ⟨ns, q1, q2⟩ := bl_of hΓ h1 h7 gt k2
                refine ⟨cs.length :: ns, .cons ?_ k1 ?_ q1, by simp [q2]⟩
                · rw [gL.length, gl]; exact h6
                · have := congrArg List.length (valOf_cells (hΓ.ti t ti h5) gl gL.one)
                  rw [gL.length, gl]
                  simpa [gl] using this
/-- nothing is told of the cells that are never written -/
theorem msk_bs (hΓ : Γ.Ok P) {F' : Nat → Prop} {w' : World} {base : Nat} : ∀ {bs : List (TypeId × List Bool)} {ks ids bb : List Nat} {res : List (List (Lf Γ.α))} {us : List Value} {own : List Nat}, ksOk ids ks bs = true → ResRel F' w' base bs res us own → BxNow w w' ks bb us →
    ∃ us', ResRel F' w' base bs (mskBs ks res) us' own ∧ BxNow w w' ks bb us'
  | [], ks, ids, bb, res, us, own, h1, h2, h3 => by
    cases h2
    cases ks with
    | cons k ks => cases ids <;> simp [ksOk] at h1
    | nil => exact ⟨[], by simp only [mskBs]; exact .nil, h3⟩
  | (t, fs) :: bs, ks, ids, bb, res, us, own, h1, h2, h3 => by
    cases ks with
    | nil => cases ids <;> simp [ksOk] at h1
    | cons k ks =>
      cases ids with
      | nil => simp [ksOk] at h1
      | cons id ids =>
        simp only [ksOk] at h1
        cases hc : Nat.beq (Nat.land (id / 10000000) k) (id / 10000000) && flOk k 0 fs with
        | false => rw [hc] at h1; cases h1
        | true =>
          rw [hc, cond_true] at h1
          simp only [Bool.and_eq_true] at hc
          cases h2 with
          | cons g1 gl gL gt =>
            rename_i ti cs css vals vs ow1 ow2
            cases h3 with
            | cons k1 k2 =>
              rename_i b bb
              obtain ⟨us', q1, q2⟩ := msk_bs hΓ h1 gt k2
              have hti := hΓ.ti t ti g1
              have hL' := gL.msk 0 hc.2
              have e1 := valOf_cells hti gl gL.one
              have e2 := valOf_cells hti (by rw [mskV_length]; exact gl) hL'.one
              refine ⟨valOf ti.agg (mskV k 0 vals) :: us', by simp only [mskBs]; exact .cons g1 (by rw [mskV_length]; exact gl) hL' q1, .cons ?_ q2⟩
              obtain ⟨C, ty, c1, c2, c3, c4⟩ := k1
              refine ⟨C, ty, c1, ?_, fun off u ht hu => ?_, c4⟩
              · rw [c2]
                have f1 := congrArg List.length e1
                have f2 := congrArg List.length e2
                rw [mskV_length] at f2
                simp only [Array.length_toList] at f1 f2
                omega
              · rw [e2] at hu
                exact c3 off u ht (by rw [e1]; exact mskV_get off u (by simpa using ht) hu)
theorem msk_res (hΓ : Γ.Ok P) {F' : Nat → Prop} {w' : World} {base : Nat} {bs : List (TypeId × List Bool)} {ks ids bb : List Nat} (hk : ksOk ids ks bs = true) : ∀ {rs : List (TypeId × List Bool)} {res : List (List (Lf Γ.α))} {us us2 : List Value} {own : List Nat}, us.length = rs.length → ResRel F' w' base (rs ++ bs) res (us ++ us2) own → BxNow w w' ks bb us2 →
    ∃ us2', ResRel F' w' base (rs ++ bs) (mskRes rs ks res) (us ++ us2') own ∧ BxNow w w' ks bb us2'
  | [], res, us, us2, own, hl, h, hb => by
    have : us = [] := List.eq_nil_of_length_eq_zero hl
    subst this
    simp only [mskRes]
    exact msk_bs hΓ hk h hb
  | r :: rs, res, us, us2, own, hl, h, hb => by
    cases us with
    | nil => simp at hl
    | cons u us =>
      cases h with
      | cons g1 gl gL gt =>
        obtain ⟨us2', q1, q2⟩ := msk_res hΓ hk (rs := rs) (us := us) (by simpa using hl) gt hb
        exact ⟨us2', by simp only [mskRes]; exact .cons g1 gl gL q1, q2⟩
theorem wrCellsM_key {id off mask : Nat} : ∀ (cs : List (Lf Γ.α)) (k : Nat), k ≤ off → off < k + cs.length → tb mask off = false → (.cell id off) ∈ (wrCellsM id mask k cs).map (·.1)
  | [], k, h1, h2, _ => by simp at h2; omega
  | l :: cs, k, h1, h2, ht => by
    simp only [List.length_cons] at h2
    simp only [wrCellsM]
    by_cases e : k = off
    · subst e; rw [ht]; simp
    · have := wrCellsM_key (id := id) cs (k + 1) (by omega) (by omega) ht
      cases tb mask k with
      | true => exact this
      | false => simp only [cond_false, List.map_cons, List.mem_cons]; exact .inr this
theorem wrCellsM_cell {id mask : Nat} : ∀ (cs : List (Lf Γ.α)) (k : Nat), ∀ key ∈ (wrCellsM id mask k cs).map (·.1), ∃ j, key = .cell id j ∧ tb mask j = false
  | [], k => by simp [wrCellsM]
  | l :: cs, k => by
    intro key hk
    simp only [wrCellsM] at hk
    cases ht : tb mask k with
    | true => rw [ht] at hk; exact wrCellsM_cell cs (k + 1) key hk
    | false =>
      rw [ht] at hk
      simp only [cond_false, List.map_cons, List.mem_cons] at hk
      rcases hk with rfl | hk
      · exact ⟨_, rfl, ht⟩
      · exact wrCellsM_cell cs (k + 1) key hk
theorem boxWs_keys {id off : Nat} : ∀ (cs : List (Lf Γ.α)) (k : Nat), (.cell id off) ∈ (wrCells id k cs).map (·.1) ↔ k ≤ off ∧ off < k + cs.length
  | [], k => by simp [wrCells]
  | l :: cs, k => by
    simp only [wrCells, List.map_cons, List.mem_cons, List.length_cons, boxWs_keys cs (k + 1), Key.cell.injEq, true_and]
    omega
theorem wrCells_cell {id : Nat} : ∀ (cs : List (Lf Γ.α)) (k : Nat), ∀ key ∈ (wrCells id k cs).map (·.1), ∃ j, key = .cell id j
  | [], k => by simp [wrCells]
  | l :: cs, k => by
    intro key hk
    simp only [wrCells, List.map_cons, List.mem_cons] at hk
    rcases hk with rfl | hk
    · exact ⟨_, rfl⟩
    · exact wrCells_cell cs (k + 1) key hk
theorem boxWs_cell : ∀ (ids ks : List Nat) (avs : List (Bool × List (Lf Γ.α))), ∀ key ∈ (boxWs ids ks avs).map (·.1), ∃ i j, key = .cell i j
  | [], ks, avs => by simp [boxWs]
  | id :: ids, [], avs => by simp [boxWs]
  | id :: ids, k :: ks, [] => by simp [boxWs]
  | id :: ids, k :: ks, (_, cs) :: avs => by
    intro key hk
    simp only [boxWs, List.map_append, List.mem_append] at hk
    rcases hk with hk | hk
    · obtain ⟨j, hj, _⟩ := wrCellsM_cell cs 0 key hk; exact ⟨_, _, hj⟩
    · exact boxWs_cell ids ks avs key hk
theorem bl_keys {w' : World} : ∀ {ks ids bb ns : List Nat} {us : List Value} {avs : List (Bool × List (Lf Γ.α))} {bs : List (TypeId × List Bool)}, BL m w w' ks ids bb ns us → ns = avs.map (fun x => x.2.length) → ksOk ids ks bs = true → ∀ id ∈ ids, ∃ b n k, b ∈ bb ∧ m id = some (.box b n) ∧ (∀ off, tb k off = true → w'.cell? ⟨b, off, none⟩ = w.cell? ⟨b, off, none⟩) ∧ (∀ off, cbit id off = true → tb k off = true) ∧ ∀ off, off < n → tb k off = false → (.cell id off) ∈ (boxWs ids ks avs).map (·.1)
  | _, [], _, _, _, _, _, _, _, _ => by simp
  | k :: ks, id :: ids, _, _, _, avs, bs, .cons h1 h2 h3 ht, hn, hk => by
    cases avs with
    | nil => cases hn
    | cons x avs =>
      cases bs with
      | nil => simp [ksOk] at hk
      | cons b0 bs =>
      obtain ⟨_, cs⟩ := x
      obtain ⟨t0, fs⟩ := b0
      simp only [List.map_cons, List.cons.injEq] at hn
      simp only [ksOk] at hk
      cases hc : Nat.beq (Nat.land (id / 10000000) k) (id / 10000000) && flOk k 0 fs with
      | false => rw [hc] at hk; cases hk
      | true =>
      rw [hc, cond_true] at hk
      simp only [Bool.and_eq_true] at hc
      intro i hi
      rcases List.mem_cons.1 hi with rfl | hi
      · obtain ⟨C, ty, c1, c2, c3, c4⟩ := h2
        refine ⟨_, _, k, List.mem_cons_self, h1, c4, fun off ho => tb_land hc.1 ho, fun off ho htb => ?_⟩
        simp only [boxWs, List.map_append, List.mem_append]
        exact .inl (wrCellsM_key cs 0 (Nat.zero_le _) (by rw [← hn.1]; omega) htb)
      · obtain ⟨b, n, k', g1, g2, g3, g4, g5⟩ := bl_keys ht hn.2 hk i hi
        refine ⟨b, n, k', List.mem_cons_of_mem _ g1, g2, g3, g4, fun off ho htb => ?_⟩
        simp only [boxWs, List.map_append, List.mem_append]
        exact .inr (g5 off ho htb)
theorem bl_block {w' : World} : ∀ {ks ids bb ns : List Nat} {us : List Value}, BL m w w' ks ids bb ns us → ∀ b ∈ bb, ∃ id n C t, id ∈ ids ∧ m id = some (.box b n) ∧ w'.heap[b]? = some (.cells C t (0, 0)) ∧ C.size = n
  | _, _, _, _, _, .nil => by simp
  | _, _, _, _, _, .cons h1 ⟨C, ty, h2, h2', _, _⟩ h3 ht => by
    intro b hb
    rcases List.mem_cons.1 hb with rfl | hb
    · exact ⟨_, _, C, _, List.mem_cons_self, h1, h2, h2'.trans h3⟩
    · obtain ⟨id, n, C, t, g1, g2⟩ := bl_block ht b hb
      exact ⟨id, n, C, t, List.mem_cons_of_mem _ g1, g2⟩
theorem RC.cells {agg : Bool} {cs : List (Lf Γ.α)} {v : Value} (h : RC m F w agg cs v) : RLs m F w cs v.cells.toList := by
  cases agg with
  | true => obtain ⟨vs, rfl, h2⟩ := h; simpa [Value.cells] using h2
  | false => obtain ⟨l, rfl, h2⟩ := h; rw [h2.cells]; exact .cons h2 .nil
theorem Rm.cellsM {id b n mask : Nat} (hm : m id = some (.box b n)) : ∀ (cs : List (Lf Γ.α)) (vals : List Value) (off : Nat) (s : St Γ.α), Rm Γ w0 Bp F0 nt s a w m F → off + cs.length ≤ n → (∀ k v, tb mask (off + k) = false → vals[k]? = some v → w.cell? ⟨b, off + k, none⟩ = some v) → RLs m F w cs vals →
    Rm Γ w0 Bp F0 nt (wr s (wrCellsM id mask off cs)) a w m F
  | [], _, _, _, h, _, _, _ => h
  | l :: cs, vals, off, s, h, hn, hc, hr => by
    obtain ⟨v, vs, rfl, h1, h2⟩ := hr.inv
    simp only [List.length_cons] at hn
    have hnext : ∀ k u, tb mask (off + 1 + k) = false → vs[k]? = some u → w.cell? ⟨b, off + 1 + k, none⟩ = some u := fun k u ht hu => by
      have := hc (k + 1) u (by rwa [show off + (k + 1) = off + 1 + k by omega]) (by simpa using hu)
      rwa [show off + (k + 1) = off + 1 + k by omega] at this
    simp only [wrCellsM]
    cases ht : tb mask off with
    | true => exact Rm.cellsM hm cs vs (off + 1) s h (by omega) hnext h2
    | false =>
      have := h.cell1 (off := off) hm (by omega) (by have := hc 0 v ht rfl; simpa using this) h1
      exact Rm.cellsM hm cs vs (off + 1) _ this (by omega) hnext h2
theorem boxWs_sim {m0 : Places} {w0' : World} : ∀ {ks ids bb ns : List Nat} {us : List Value} {avs : List (Bool × List (Lf Γ.α))} {s : St Γ.α}, BL m0 w0' w ks ids bb ns us → (∀ id p, m0 id = some p → m id = some p) → RCs m F w avs us → Rm Γ w0 Bp F0 nt s a w m F → Rm Γ w0 Bp F0 nt (wr s (boxWs ids ks avs)) a w m F
  | _, [], _, _, _, _, _, .nil, _, _, h => by simp only [boxWs]; exact h
  | k :: ks, id :: ids, _, _, _, avs, s, .cons h1 ⟨C, ty, h2, h2', h2'', _⟩ h3 ht, hmm, hr, h => by
    cases avs with
    | nil => exact hr.elim
    | cons x avs =>
      obtain ⟨ag, cs⟩ := x
      obtain ⟨r1, r2⟩ := hr
      have hc := r1.cells
      simp only [boxWs, wr_append]
      refine boxWs_sim ht hmm r2 (Rm.cellsM (hmm _ _ h1) cs _ 0 s h (by have := hc.1; simp at this; omega) (fun j v htj hk => ?_) hc)
      have := h2'' j v (by simpa using htj) hk
      simp only [World.cell?, h2]
      simpa using this
theorem res_lengths {base : Nat} {F' : Nat → Prop} : ∀ {bs : List (TypeId × List Bool)} {d j : Nat} {res : List (List (Lf Γ.α))} {us : List Value} {own : List Nat} {avs : List (Bool × List (Lf Γ.α))} {wz : List (Key × Option (Val Γ.α))} {ids : List Nat} {rest : List (List (Lf Γ.α))}, ResRel F' w base bs res us own → resAVs Γ.ti d j bs res = some (avs, wz, ids, rest) →
    res.map List.length = avs.map fun x => x.2.length
  | [], d, j, _, _, _, avs, wz, ids, rest, .nil, h => by simp [resAVs] at h; obtain ⟨rfl, _⟩ := h; rfl
  | (t, fs) :: bs, d, j, _, _, _, avs, wz, ids, rest, .cons h1 hl hL ht, h => by
    unfold resAVs at h
    rw [h1] at h
    simp only at h
    split at h
    · rename_i avs' wz' ids' rest' hq
      simp only [Option.some.injEq, Prod.mk.injEq] at h
      obtain ⟨rfl, rfl, rfl, rfl⟩ := h
      simp [res_lengths ht hq, nameLf_length]
    · cases h
theorem scal_rel {l : Lf Γ.α} {v : Value} {m' : Places} {F' : Nat → Prop} {w' : World} (h : RLf m F w l v) (hs : scal l) : RLf m' F' w' l v := by
  cases h <;> first | exact .int _ _ | exact .bool _ | exact .str _ | exact hs.elim
theorem noLeak_rel (hΓ : Γ.Ok P) {F1 F2 : Nat → Prop} {base : Nat} {fs : List Bool} {cs : List (Lf Γ.α)} {vals : List Value} {own : List Nat} (h : Leafs F1 w base fs cs vals own) : noLeak1 Γ fs cs = true → Leafs F2 w base fs cs vals own := by
  induction h with
  | nil => intro _; exact .nil
  | own h hr t ih =>
    rename_i fs e ls vs own' xs o cap vals
    intro hn
    simp only [noLeak1] at hn
    cases hs : scalTy Γ e with
    | false => rw [hs] at hn; cases hn
    | true =>
      rw [hs] at hn
      refine .own h ⟨hr.1, fun k l v h1 h2 => scal_rel (hr.2 k l v h1 h2) ?_⟩ (ih hn)
      have := List.mem_of_getElem? h1
      simp only [flat, List.mem_flatMap] at this
      obtain ⟨x, _, hx⟩ := this
      exact hΓ.scal e x hs l hx
  | plain hn h t ih =>
    rename_i fs l ls v vs own'
    intro hl
    have hh : scal l ∧ noLeak1 Γ fs.tail ls = true := by
      cases fs with
      | nil => cases l <;> simp [noLeak1] at hl <;> exact ⟨trivial, hl⟩
      | cons f fs =>
        cases f with
        | false => cases l <;> simp [noLeak1] at hl <;> exact ⟨trivial, hl⟩
        | true => cases l <;> simp [noLeak1] at hl <;> first | exact ⟨trivial, hl⟩ | exact absurd rfl (hn rfl _ _)
    exact .plain hn (scal_rel h hh.1) (ih hh.2)
theorem noLeaks_rel (hΓ : Γ.Ok P) {F1 F2 : Nat → Prop} {base : Nat} {rs : List (TypeId × List Bool)} {res : List (List (Lf Γ.α))} {vs : List Value} {own : List Nat} (h : ResRel F1 w base rs res vs own) : noLeaks Γ rs res = true → ResRel F2 w base rs res vs own := by
  induction h with
  | nil => intro _; exact .nil
  | cons h hl hL t ih =>
    rename_i t' ti fs rs cs css vals vs own own'
    intro hn
    simp only [noLeaks] at hn
    cases h1 : noLeak1 Γ fs cs with
    | false => rw [h1] at hn; cases hn
    | true => rw [h1] at hn; exact .cons h hl (noLeak_rel hΓ hL h1) (ih hn)
theorem ResRel.mono {F1 F2 : Nat → Prop} {base : Nat} {rs : List (TypeId × List Bool)} {res : List (List (Lf Γ.α))} {vs : List Value} {own : List Nat} (hF : ∀ b, F1 b → F2 b) (h : ResRel F1 w base rs res vs own) : ResRel F2 w base rs res vs own := by
  induction h with
  | nil => exact .nil
  | cons h hl hL t ih => exact .cons h hl (hL.mono hF) ih
theorem boxes_bb {ps : List (Bool × TypeId)} : ∀ {ids bb : List Nat}, Boxes m s Γ.ti ps ids bb → ∀ b ∈ bb, ∃ id n, id ∈ ids ∧ m id = some (.box b n) := by
  induction ps with
  | nil => intro ids bb h; cases ids <;> cases bb <;> first | exact h.elim | simp
  | cons p ps ih =>
    intro ids bb h
    obtain ⟨bx, t⟩ := p
    cases bx with
    | false => exact ih h
    | true =>
      cases ids with
      | nil => exact h.elim
      | cons id ids =>
        cases bb with
        | nil => exact h.elim
        | cons b bb =>
          obtain ⟨⟨ti, h1, h2⟩, h3⟩ := h
          intro b' hb'
          rcases List.mem_cons.1 hb' with rfl | hb'
          · exact ⟨id, ti.size, List.mem_cons_self, h2⟩
          · obtain ⟨i, n, g1, g2⟩ := ih h3 b' hb'
            exact ⟨i, n, List.mem_cons_of_mem _ g1, g2⟩
theorem boxes_nodup (hm : Rm Γ w0 Bp F0 nt s a w m F) {ps : List (Bool × TypeId)} : ∀ {ids bb : List Nat} {s' : St Γ.α}, Boxes m s' Γ.ti ps ids bb → ids.Nodup → bb.Nodup := by
  induction ps with
  | nil => intro ids bb _ h _; cases ids <;> cases bb <;> first | exact h.elim | exact List.nodup_nil
  | cons p ps ih =>
    intro ids bb s' h hn
    obtain ⟨bx, t⟩ := p
    cases bx with
    | false => exact ih h hn
    | true =>
      cases ids with
      | nil => exact h.elim
      | cons id ids =>
        cases bb with
        | nil => exact h.elim
        | cons b bb =>
          obtain ⟨⟨ti, h1, h2⟩, h3⟩ := h
          rw [List.nodup_cons] at hn ⊢
          refine ⟨fun hb => ?_, ih h3 hn.2⟩
          obtain ⟨i, n, g1, g2⟩ := boxes_bb h3 b hb
          exact hn.1 (by rw [hm.dist id i b (.inl ⟨_, h2⟩) (.inl ⟨_, g2⟩)]; exact g1)
end
end Go.Proofs.Ytlhknehkcflkgaa.Ab
