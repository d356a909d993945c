/- A function that is called: its results get names, the variables behind addresses their new contents. -/
import Derived.Test.YtlhknehkcflkgaaAbCall
set_option autoImplicit false
set_option linter.unusedVariables false
set_option linter.unusedSimpArgs false
namespace Go.Proofs.Ytlhknehkcflkgaa.Ab
open Go

section
variable {Γ : Reg} {O : ORel Γ} {s : St Γ.α} {w0 : World} {Bp : Nat → Nat → Prop} {F0 : Nat → Prop} {nt : Nat} {a : Act} {w : World} {m : Places} {F : Nat → Prop}
variable {P : Program} {o : Oper} {K : Act → World → Prop} {Q : Exit → Act → World → Prop} {ws : List (Key × Option (Val Γ.α))} {sg : FuncId → Option Sig}

/-- the world behind a call: the variables that were handed over have turned, new blocks are frozen -/
theorem Rm.callW {X N : Nat → Prop} {w' : World} (h : Rm Γ w0 Bp F0 nt s a w m F) (hc : Ch X w w') (hX : ∀ b, X b → (w0.heap.size ≤ b ∨ BB Bp b)) (hF : ∀ b, X b → ¬ F b)
    (hbox : ∀ id b n, m id = some (.box b n) → X b → (∀ off l, s.get (.cell id off) = some (.lf l) → w'.cell? ⟨b, off, none⟩ = w.cell? ⟨b, off, none⟩) ∧ ∃ C t, w'.heap[b]? = some (.cells C t (0, 0)) ∧ C.size = n)
    (hrow : ∀ id e xs b n cap sz, s.get (.row id) = some (.row e xs) → m id = some (.row (some b) n cap sz) → ¬ X b) (hN : ∀ b, N b → (w.heap.size ≤ b ∨ (X b ∧ ∀ id, ¬ Owns s m id b)) ∧ b < w'.heap.size)
    (hK : ∀ b, X b → ∀ id off, Bp id b → cbit id off = true → w'.cell? ⟨b, off, none⟩ = w.cell? ⟨b, off, none⟩) :
    Rm Γ w0 Bp F0 nt s a w' m (fun b => F b ∨ N b) := by
  have hcell : ∀ ad : Addr, F ad.block → w'.cell? ad = w.cell? ad := fun ad hf => hc.cell (h.f2 _ hf) (fun hx => hF _ hx hf)
  have hid : ∀ id p, m id = some p → m id = some p := fun _ _ e => e
  have hFF : ∀ b, F b → F b ∨ N b := fun _ => .inl
  refine ⟨⟨hc.os.trans h.fr.os, hc.tape.trans h.fr.tape, hc.output.trans h.fr.output, Nat.le_trans h.fr.size hc.size, fun k hk hb => ?_⟩, fun b hb => .inl (h.f0 b hb), fun b hb => ?_, fun b hb => ?_, h.bp,
    fun t v ht => (h.tmp t v ht).mono hid hFF hcell, fun id off l hl => ?_, fun id e xs hx => ?_, h.used, h.free, fun id b n hm => ?_, fun id b hb => ?_, h.dist, h.nodef, h.size, h.fix, h.mu, h.cst.1, h.cst.2.1, fun id b off hb hk => by
      by_cases hx : X b
      · rw [hK b hx id off hb hk]; exact h.cst.2.2 id b off hb hk
      · rw [hc.cell (Nat.lt_of_lt_of_le (h.bp b ⟨id, hb⟩).1 h.fr.size) hx]
        exact h.cst.2.2 id b off hb hk⟩
  · rw [hc.block k (Nat.lt_of_lt_of_le hk h.fr.size) (fun hx => by rcases hX k hx with h1 | h1; · omega
                                                                   · exact hb h1)]
    exact h.fr.block k hk hb
  · rcases hb with hb | hb
    · exact h.f1 b hb
    · rcases (hN b hb).1 with h1 | h1
      · exact .inr (.inl (Nat.le_trans h.fr.size h1))
      · exact .inr (hX b h1.1)
  · rcases hb with hb | hb
    · exact Nat.lt_of_lt_of_le (h.f2 b hb) hc.size
    · exact (hN b hb).2
  · obtain ⟨b, n, v, h1, h2, h3, h4⟩ := h.cell id off l hl
    refine ⟨b, n, v, h1, h2, ?_, h4.mono hid hFF hcell⟩
    by_cases hx : X b
    · rw [(hbox _ _ _ h1 hx).1 off l hl]; exact h3
    · rw [hc.cell (World.block_lt_of_cell? w ⟨b, off, none⟩ h3) hx]; exact h3
  · obtain ⟨o, cap, vals, h1, h2, h3, h4⟩ := h.row id e xs hx
    refine ⟨o, cap, vals, h1, ?_, h3.mono hid hFF hcell, fun hn b hb => .inl (h4 hn b hb)⟩
    refine ⟨h2.1, ?_⟩
    rcases h2.2 with hn | ⟨g, cap', cur, hv, hb, hg, rest⟩
    · exact .inl hn
    · refine .inr ⟨g, cap', cur, hv, hb, ?_, rest⟩
      have ho : o = some g := by
        cases o with
        | none => simp [sliceV] at hv
        | some b => simp [sliceV] at hv; rw [hv.1]
      subst ho
      rw [hc.block g (Array.getElem?_eq_some_iff.1 hg).1 (hrow id e xs g _ _ _ hx h1)]
      exact hg
  · obtain ⟨h1, C, t, h2, h3⟩ := h.box id b n hm
    by_cases hx : X b
    · exact ⟨h1, (hbox id b n hm hx).2⟩
    · exact ⟨h1, C, t, by rw [hc.block b (Array.getElem?_eq_some_iff.1 h2).1 hx]; exact h2, h3⟩
  · obtain ⟨h1, h2, h3⟩ := h.ours id b hb
    refine ⟨fun hf => ?_, h2, Nat.lt_of_lt_of_le h3 hc.size⟩
    rcases hf with hf | hf
    · exact h1 hf
    · rcases (hN b hf).1 with h4 | h4
      · omega
      · exact h4.2 id hb
/-- slots of variables of which nothing is told any more -/
theorem Rm.drops : ∀ (ks : List Key) (s : St Γ.α), Rm Γ w0 Bp F0 nt s a w m F → (∀ k ∈ ks, ∃ i j, k = .cell i j) → Rm Γ w0 Bp F0 nt (wr s (ks.map fun k => (k, none))) a w m F
  | [], _, h, _ => h
  | k :: ks, s, h, hk => by
    obtain ⟨i, j, rfl⟩ := hk k List.mem_cons_self
    exact Rm.drops ks _ (h.drop (by simp) (by simp)) (fun k hk' => hk k (List.mem_cons_of_mem _ hk'))
theorem get_drops : ∀ (ks : List Key) (s : St Γ.α) (k : Key), (wr s (ks.map fun k => (k, none))).get k = if k ∈ ks then none else s.get k
  | [], _, _ => by simp [wr]
  | k' :: ks, s, k => by
    simp only [List.map_cons, wr]
    rw [get_drops ks _ k, St.get_cons]
    by_cases h : k ∈ ks
    · simp [h]
    · by_cases h2 : k' = k
      · simp [h2]
      · have h3 : ¬ k = k' := fun e => h2 e.symm
        simp [h, h2, h3]
theorem wr_get_not {k : Key} : ∀ (ws : List (Key × Option (Val Γ.α))) (s : St Γ.α), k ∉ ws.map (·.1) → (wr s ws).get k = s.get k
  | [], _, _ => rfl
  | (k', v) :: r, s, h => by
    simp only [List.map_cons, List.mem_cons, not_or] at h
    show (wr ((k', v) :: s) r).get k = _
    rw [wr_get_not r _ h.2, St.get_cons, if_neg (fun e => h.1 e.symm)]
theorem get_wr_mem {k : Key} : ∀ (ws : List (Key × Option (Val Γ.α))) (s s' : St Γ.α), (k ∈ ws.map (·.1) ∨ s.get k = s'.get k) → (wr s ws).get k = (wr s' ws).get k
  | [], _, _, h => by rcases h with h | h; · simp at h
                      · exact h
  | (k', v) :: ws, s, s', h => by
    simp only [wr]
    apply get_wr_mem ws
    rw [St.get_cons, St.get_cons]
    by_cases e : k' = k
    · exact .inr (by rw [if_pos e, if_pos e])
    · rw [if_neg e, if_neg e]
      rcases h with h | h
      · simp only [List.map_cons, List.mem_cons] at h
        rcases h with h | h
        · exact absurd h.symm e
        · exact .inl h
      · exact .inr h

theorem nameLf_plain {d j : Nat} {fs : List Bool} {l : Lf Γ.α} {ls : List (Lf Γ.α)} (hn : fs.head? = some true → ∀ e xs, l ≠ .sl e xs) :
    nameLf d j fs (l :: ls) = (l :: (nameLf d (j + 1) fs.tail ls).1, (nameLf d (j + 1) fs.tail ls).2.1, (nameLf d (j + 1) fs.tail ls).2.2) := by
  have h0 : ∀ (j : Nat) (ls : List (Lf Γ.α)), nameLf d j [] ls = (ls, [], []) := fun j ls => by cases ls <;> rfl
  cases fs with
  | nil => simp only [List.tail_nil]; rw [h0, h0]
  | cons f fs =>
    cases f with
    | false => cases l <;> rfl
    | true => cases l <;> first | rfl | exact absurd rfl (hn rfl _ _)
theorem Leafs.length {F' : Nat → Prop} {w' : World} {base : Nat} {fs : List Bool} {cs : List (Lf Γ.α)} {vals : List Value} {own : List Nat} (h : Leafs F' w' base fs cs vals own) : cs.length = vals.length := by
  induction h with
  | nil => rfl
  | own _ _ _ ih => simp [ih]
  | plain _ _ _ ih => simp [ih]
theorem Leafs.one {F' : Nat → Prop} {w' : World} {base : Nat} {fs : List Bool} {cs : List (Lf Γ.α)} {vals : List Value} {own : List Nat} (h : Leafs F' w' base fs cs vals own) : ∀ v ∈ vals, v.cells = #[v] := by
  induction h with
  | nil => simp
  | own _ _ _ ih => intro v hv; rcases List.mem_cons.1 hv with rfl | hv; · rfl
                    · exact ih v hv
  | plain _ h _ ih => intro v hv; rcases List.mem_cons.1 hv with rfl | hv; · exact h.cells
                      · exact ih v hv
theorem valOf_cells {P : Program} {t : TypeId} {ti : TI} {vals : List Value} (h : TIok P t ti) (hl : vals.length = ti.size) (h1 : ∀ v ∈ vals, v.cells = #[v]) : (valOf ti.agg vals).cells.toList = vals := by
  cases hg : ti.agg with
  | true => simp [valOf, Value.cells]
  | false =>
    have := h.one hg
    rw [← hl] at this
    obtain ⟨v, rfl⟩ := List.length_eq_one_iff.1 this
    simp [valOf, h1 v (by simp)]
theorem name_sim {d base : Nat} {fs : List Bool} {cs : List (Lf Γ.α)} {vals : List Value} {own : List Nat} (h : Leafs F w base fs cs vals own) : ∀ (j : Nat) (s : St Γ.α) (m : Places), Rm Γ w0 Bp F0 nt s a w m F → own.Nodup →
    (∀ b ∈ own, ¬ F b ∧ (w0.heap.size ≤ b ∨ BB Bp b) ∧ (∀ id, ¬ Owns s m id b) ∧ ¬ CB Bp b) → (∀ id ∈ (nameLf d j fs cs).2.2, s.get (.used id) = none ∧ id < 900000) → (nameLf d j fs cs).2.2.Nodup →
    ∃ m', Rm Γ w0 Bp F0 nt (wr s (nameLf d j fs cs).2.1) a w m' F ∧ (∀ id p, m id = some p → m' id = some p) ∧ RLs m' F w (nameLf d j fs cs).1 vals ∧ (∀ id b, Owns (wr s (nameLf d j fs cs).2.1) m' id b → Owns s m id b ∨ b ∈ own) ∧
      (∀ id, id ∉ (nameLf d j fs cs).2.2 → (wr s (nameLf d j fs cs).2.1).get (.used id) = s.get (.used id)) ∧ (∀ k, (∀ id, k ≠ .used id ∧ k ≠ .row id ∧ k ≠ .mut id) → (wr s (nameLf d j fs cs).2.1).get k = s.get k) := by
  induction h with
  | nil =>
    rename_i fs
    intro j s m hm _ _ _ _
    have h0 : nameLf d j fs ([] : List (Lf Γ.α)) = ([], [], []) := by cases fs with
      | nil => rfl
      | cons f fs => cases f <;> rfl
    rw [h0]
    exact ⟨m, hm, fun _ _ e => e, .nil, fun _ _ => .inl, fun _ _ => rfl, fun _ _ => rfl⟩
  | own hown hr ht ih =>
    rename_i fs e ls vs own' xs o cap vals
    intro j s m hm hnd hO hfr hid
    simp only [nameLf] at hfr hid ⊢
    have hfree := hm.free _ (hfr _ List.mem_cons_self).1
    have hmut := hm.mu _ (hfr _ List.mem_cons_self).1
    have hm1 := hm.name (d := freshId d j) (k := xs.length + 1) (p := .row o xs.length cap (Γ.sz e)) (hfr _ List.mem_cons_self).1 (hfr _ List.mem_cons_self).2 (fun b n hp => by cases hp) (fun b n hp => by cases hp) (fun _ _ _ _ h => by cases h; rfl)
    have hmono := setPl_mono (p := .row o xs.length cap (Γ.sz e)) hfree
    have hO1 : ∀ id b, Owns ((.used (freshId d j), some (.num (xs.length + 1))) :: s) (setPl m (freshId d j) (.row o xs.length cap (Γ.sz e))) id b → Owns s m id b := by
      intro id b hb
      rcases hb with ⟨n, hb⟩ | ⟨n, cap', sz, hb, hmm⟩
      · by_cases e' : id = freshId d j
        · subst e'; rw [setPl_same] at hb; cases hb
        · rw [setPl_other e'] at hb; exact .inl ⟨n, hb⟩
      · rw [St.get_cons, if_neg (by simp)] at hmm
        by_cases e' : id = freshId d j
        · subst e'; rw [hmut] at hmm; cases hmm
        · rw [setPl_other e'] at hb; exact .inr ⟨n, cap', sz, hb, hmm⟩
    have hm2 := hm1.row1 (d := freshId d j) (xs := xs) (o := o) (cap := cap) (vals := vals) (setPl_same _ _ _) (ownsRow_mono hown (Nat.zero_le _)) (hr.mono (fun _ _ e => by cases e) (fun _ x => x) (fun _ _ => rfl))
      (fun b hb => by
        have hbo : b ∈ o.toList ++ own' := by subst hb; simp
        exact ⟨(hO b hbo).1, (hO b hbo).2.1, fun id hi => (hO b hbo).2.2.1 id (hO1 id b hi)⟩) (fun b hb => (hO b (by subst hb; simp)).2.2.2)
    have hO2 : ∀ id b, Owns ((.mut (freshId d j), some (.num 0)) :: (.row (freshId d j), some (.row e xs)) :: (.used (freshId d j), some (.num (xs.length + 1))) :: s) (setPl m (freshId d j) (.row o xs.length cap (Γ.sz e))) id b → Owns s m id b ∨ o = some b := by
      intro id b hb
      rcases hb with ⟨n, hb⟩ | ⟨n, cap', sz, hb, hmm⟩
      · exact .inl (hO1 id b (.inl ⟨n, hb⟩))
      · by_cases e' : id = freshId d j
        · subst e'
          rw [setPl_same] at hb
          simp only [Option.some.injEq, Place.row.injEq] at hb
          exact .inr hb.1
        · rw [St.get_cons, if_neg (by simpa using fun x => e' x.symm), St.get_cons, if_neg (by simp)] at hmm
          exact .inl (hO1 id b (.inr ⟨n, cap', sz, hb, hmm⟩))
    rw [List.nodup_append] at hnd
    obtain ⟨m', g1, g2, g3, g4, g5, g6⟩ := ih (j + 1) _ _ hm2 hnd.2.1 (fun b hb => by
        have hb2 := hO b (List.mem_append_right _ hb)
        refine ⟨hb2.1, hb2.2.1, fun id hi => ?_, hb2.2.2.2⟩
        rcases hO2 id b hi with h1 | h1
        · exact hb2.2.2.1 id h1
        · subst h1; exact hnd.2.2 b (by simp) b hb rfl)
      (fun id hi => by
        have hne : freshId d j ≠ id := fun e => (List.nodup_cons.1 hid).1 (e ▸ hi)
        rw [St.get_cons, if_neg (by simp), St.get_cons, if_neg (by simp), St.get_cons, if_neg (by simpa using hne)]
        exact hfr id (List.mem_cons_of_mem _ hi)) (List.nodup_cons.1 hid).2
    refine ⟨m', g1, fun id p hp => g2 _ _ (hmono _ _ hp), .cons (.own _ _ _ _ _ (g2 _ _ (setPl_same _ _ _))) g3, fun id b hb => ?_, fun id hi => ?_, fun k hk => ?_⟩
    · rcases g4 id b hb with h1 | h1
      · rcases hO2 id b h1 with h1 | h1
        · exact .inl h1
        · subst h1; exact .inr (by simp)
      · exact .inr (List.mem_append_right _ h1)
    · simp only [wr]
      rw [g5 id (fun h => hi (List.mem_cons_of_mem _ h)), St.get_cons, if_neg (by simp), St.get_cons, if_neg (by simp), St.get_cons, if_neg (by simp; exact fun e => hi (by rw [e]; exact List.mem_cons_self))]
    · simp only [wr]
      rw [g6 k hk, St.get_cons, if_neg (fun e => (hk _).2.2 e.symm), St.get_cons, if_neg (fun e => (hk _).2.1 e.symm), St.get_cons, if_neg (fun e => (hk _).1 e.symm)]
  | plain hn h ht ih =>
    rename_i fs l ls v vs own'
    intro j s m hm hnd hO hfr hid
    rw [nameLf_plain hn] at hfr hid ⊢
    obtain ⟨m', g1, g2, g3, g4, g5, g6⟩ := ih (j + 1) s m hm hnd hO hfr hid
    exact ⟨m', g1, g2, .cons (h.mono (fun _ _ e => by cases e) (fun _ x => x) (fun _ _ => rfl)) g3, g4, g5, g6⟩
theorem nameLf_length {d : Nat} : ∀ (fs : List Bool) (j : Nat) (cs : List (Lf Γ.α)), (nameLf d j fs cs).1.length = cs.length
  | fs, j, [] => by cases fs with
    | nil => rfl
    | cons f fs => cases f <;> rfl
  | [], j, l :: ls => rfl
  | true :: fs, j, l :: ls => by cases l <;> simp [nameLf, nameLf_length fs (j + 1) ls]
  | false :: fs, j, l :: ls => by cases l <;> simp [nameLf, nameLf_length fs (j + 1) ls]
theorem res_sim (hΓ : Γ.Ok P) {d base : Nat} : ∀ {rs bs : List (TypeId × List Bool)} {j : Nat} {s : St Γ.α} {m : Places} {res : List (List (Lf Γ.α))} {vs : List Value} {own : List Nat} {avs : List (Bool × List (Lf Γ.α))} {wz : List (Key × Option (Val Γ.α))} {ids : List Nat} {rest : List (List (Lf Γ.α))},
    ResRel F w base (rs ++ bs) res vs own → Rm Γ w0 Bp F0 nt s a w m F → own.Nodup → (∀ b ∈ own, ¬ F b ∧ (w0.heap.size ≤ b ∨ BB Bp b) ∧ (∀ id, ¬ Owns s m id b) ∧ ¬ CB Bp b) → resAVs Γ.ti d j rs res = some (avs, wz, ids, rest) → (∀ id ∈ ids, s.get (.used id) = none ∧ id < 900000) → ids.Nodup →
    ∃ m' vs1 vs2 own1 own2, vs = vs1 ++ vs2 ∧ own = own1 ++ own2 ∧ vs1.length = rs.length ∧ ResRel F w base bs rest vs2 own2 ∧ Rm Γ w0 Bp F0 nt (wr s wz) a w m' F ∧ (∀ id p, m id = some p → m' id = some p) ∧ RCs m' F w avs vs1 ∧
      (∀ id b, Owns (wr s wz) m' id b → Owns s m id b ∨ b ∈ own1) ∧ (∀ id, id ∉ ids → (wr s wz).get (.used id) = s.get (.used id)) ∧ (∀ k, (∀ id, k ≠ .used id ∧ k ≠ .row id ∧ k ≠ .mut id) → (wr s wz).get k = s.get k) := by
  intro rs
  induction rs with
  | nil =>
    intro bs j s m res vs own avs wz ids rest h hm _ _ hr _ _
    simp [resAVs] at hr
    obtain ⟨rfl, rfl, rfl, rfl⟩ := hr
    exact ⟨m, [], vs, [], own, rfl, rfl, rfl, h, hm, fun _ _ e => e, trivial, fun _ _ => .inl, fun _ _ => rfl, fun _ _ => rfl⟩
  | cons r rs ih =>
    intro bs j s m res vs own avs wz ids rest h hm hnd hO hr hfr hid
    obtain ⟨t, fs⟩ := r
    cases h with
    | cons h1 hl hL ht =>
      rename_i ti cs css vals vs' ow1 ow2
      unfold resAVs at hr
      rw [h1] at hr
      simp only at hr
      split at hr
      · rename_i avs' wz' ids' rest' hq
        simp only [Option.some.injEq, Prod.mk.injEq] at hr
        obtain ⟨rfl, rfl, rfl, rfl⟩ := hr
        rw [List.nodup_append] at hnd hid
        obtain ⟨m1, g1, g2, g3, g4, g5, g6⟩ := name_sim hL j s m hm hnd.1 (fun b hb => hO b (List.mem_append_left _ hb)) (fun id hi => hfr id (List.mem_append_left _ hi)) hid.1
        obtain ⟨m2, vs1, vs2, own1, own2, rfl, rfl, q3, q4, q5, q6, q7, q8, q9, q10⟩ := ih ht g1 hnd.2.1 (fun b hb => by
            have hb2 := hO b (List.mem_append_right _ hb)
            refine ⟨hb2.1, hb2.2.1, fun id hi => ?_, hb2.2.2.2⟩
            rcases g4 id b hi with h1 | h1
            · exact hb2.2.2.1 id h1
            · exact hnd.2.2 b h1 b hb rfl) hq (fun id hi => by
              rw [g5 id (fun h => hid.2.2 id h id hi rfl)]
              exact hfr id (List.mem_append_right _ hi)) hid.2.1
        have hti := hΓ.ti t ti h1
        refine ⟨m2, valOf ti.agg vals :: vs1, vs2, ow1 ++ own1, own2, rfl, by simp, by simp [q3], q4, by rw [wr_append]; exact q5, fun id p hp => q6 _ _ (g2 _ _ hp), ⟨?_, q7⟩, fun id b hb => ?_, fun id hi => ?_, fun k hk => ?_⟩
        · exact RC.of (g3.mono q6 (fun _ x => x) (fun _ _ => rfl)) (fun hg => by rw [nameLf_length, hL.length, hl]; exact hti.one hg)
        · rw [wr_append] at hb
          rcases q8 id b hb with h2 | h2
          · rcases g4 id b h2 with h3 | h3
            · exact .inl h3
            · exact .inr (List.mem_append_left _ h3)
          · exact .inr (List.mem_append_right _ h2)
        · rw [wr_append, q9 id (fun h => hi (List.mem_append_right _ h)), g5 id (fun h => hi (List.mem_append_left _ h))]
        · rw [wr_append, q10 k hk, g6 k hk]
      · cases hr
end
end Go.Proofs.Ytlhknehkcflkgaa.Ab
