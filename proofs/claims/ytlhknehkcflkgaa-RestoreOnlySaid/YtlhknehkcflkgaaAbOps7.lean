/- Operations, further: append, structs built. -/
import Derived.Test.YtlhknehkcflkgaaAbOps6
set_option autoImplicit false
set_option linter.unusedVariables false
set_option linter.unusedSimpArgs false
namespace Go.Proofs.Ytlhknehkcflkgaa.Ab
open Go

section
variable {Γ : Reg} {O : ORel Γ} {s : St Γ.α} {w0 : World} {Bp : Nat → Nat → Prop} {F0 : Nat → Prop} {nt : Nat} {a : Act} {w : World} {m : Places} {F : Nat → Prop}
variable {P : Program} {o : Oper} {K : Act → World → Prop} {Q : Exit → Act → World → Prop} {ws : List (Key × Option (Val Γ.α))} {sg : FuncId → Option Sig}

/-- nothing is told of a row any more, nor that it is the function's own -/
theorem Rm.dropMut {id : Nat} (h : Rm Γ w0 Bp F0 nt s a w m F) (hr : ∀ e xs, s.get (.row id) ≠ some (.row e xs)) : Rm Γ w0 Bp F0 nt ((.mut id, none) :: s) a w m F := by
  have he : ∀ k, k ≠ .mut id → St.get ((.mut id, none) :: s) k = s.get k := fun k hk => by rw [St.get_cons, if_neg (fun e => hk e.symm)]
  have hmn : St.get ((.mut id, none) :: s) (.mut id) = none := by rw [St.get_cons, if_pos rfl]
  have howns : ∀ id' b, Owns ((.mut id, none) :: s) m id' b → Owns s m id' b := by
    intro id' b hb
    rcases hb with hb | ⟨n, cap, sz, hb, hmm⟩
    · exact .inl hb
    · by_cases hi : id' = id
      · subst hi; rw [hmn] at hmm; cases hmm
      · rw [he _ (by simpa using hi)] at hmm; exact .inr ⟨n, cap, sz, hb, hmm⟩
  refine ⟨h.fr, h.f0, h.f1, h.f2, h.bp, fun t v ht => h.tmp t v (by rwa [he _ (by simp)] at ht), fun id' off l hl => h.cell id' off l (by rwa [he _ (by simp)] at hl), fun id' e xs hx => ?_,
    fun id' n hn => h.used id' n (by rwa [he _ (by simp)] at hn), fun id' hn => h.free id' (by rwa [he _ (by simp)] at hn), h.box, fun id' b hb => h.ours id' b (howns _ _ hb), fun i j b h1 h2 => h.dist i j b (howns _ _ h1) (howns _ _ h2), h.nodef, h.size, h.fix, fun id' hn => ?_, h.cst.1, fun id' b hb => h.cst.2.1 id' b (howns id' b hb), h.cst.2.2⟩
  · rw [he _ (by simp)] at hx
    obtain ⟨o, cap, vals, a1, a2, a3, a4⟩ := h.row id' e xs hx
    refine ⟨o, cap, vals, a1, a2, a3, fun hn => a4 ?_⟩
    rwa [he _ (by simpa using fun (e2 : id' = id) => hr e xs (e2 ▸ hx))] at hn
  · rw [he _ (by simp)] at hn
    by_cases hi : id' = id
    · subst hi; exact hmn
    · rw [he _ (by simpa using hi)]; exact h.mu id' hn
theorem ownsRow_form {w : World} {base e sz n : Nat} {v : Value} {xs : List Value} (h : w.ownsRow base e sz v n xs) : ∃ o cap, v = sliceV o n cap ∧ v.ownBlock = o := by
  rcases h.2 with ⟨rfl, rfl⟩ | ⟨g, cap, cur, rfl, _⟩
  · exact ⟨none, 0, rfl, rfl⟩
  · exact ⟨some g, cap, rfl, rfl⟩
theorem append_run {base t ty e : Nat} {i : TypeInfo} {z : Value} {size bytes : Nat} (ht : P.underlying t = some (.slice e)) (hi : P.info? e = some i) (hz : i.zero = some z)
    (hsize : i.size = size) (hby : i.bytes = bytes) (hzs : z.cells.size = size) (hsz : 0 < size)
    {v : Value} {n : Nat} {xs : List Value} (hown : w.ownsRow base e size v n xs)
    {A : Option Addr} {m c : Nat} {news : List Value} (hl : news.length = m * size) (hnews : ∀ (j : Nat) u, news[j]? = some u → ∃ ad, A = some ad ∧ w.cell? (ad.add j) = some u) (h1 : ∀ u ∈ news, u.oneCell' = true)
    (h63 : n + m ≤ maxLen) (hbytes : (n + m) * bytes ≤ 140737488355328) (hbase : base ≤ w.heap.size) :
    ∃ v' w', (Builtin.append_ #[t, t] ty #[v, .slice A m c]).run P w = .ok v' w' ∧ w'.ownsRow base e size v' (n + m) (xs ++ news) ∧ w.grownBy w' v.ownBlock ∧ (v'.ownBlock = v.ownBlock ∨ v'.ownBlock = some w.heap.size) := by
  cases A with
  | some ad =>
    obtain ⟨v', w', r1, r2, r3, _, r5⟩ := run_append_own_at (P := P) w base t ty e i z size bytes ht hi hz hsize hby hzs hsz v n xs hown ad m c news hl (fun j u hj => by obtain ⟨_, h2, h3⟩ := hnews j u hj; cases h2; exact h3) h1 h63 hbytes hbase
    exact ⟨v', w', r1, r2, r3, r5⟩
  | none =>
    have hn : news = [] := by
      cases news with
      | nil => rfl
      | cons u us => obtain ⟨_, h2, _⟩ := hnews 0 u rfl; cases h2
    subst hn
    have hm : m = 0 := by
      cases m with
      | zero => rfl
      | succ m => simp [Nat.add_mul] at hl; omega
    subst hm
    refine ⟨v, w, ?_, by simpa using hown, ⟨rfl, rfl, rfl, Nat.le_refl _, fun _ _ _ => rfl⟩, .inl rfl⟩
    have hso : (sizeOf e).run P w = .ok size w := by simp [sizeOf, typeInfo, program, Sem.run, hi, hsize]
    rcases hown.2 with ⟨rfl, rfl⟩ | ⟨g, cap, cur, rfl, _, _, hc, _⟩
    · simp [Builtin.append_, run_underlying ht, hso, Builtin.lenOf, Builtin.firstCells]
    · simp [Builtin.append_, run_underlying ht, hso, Builtin.lenOf, Builtin.firstCells, hc, storeCells]
/-- where append takes its new elements -/
theorem elems_src (hΓ : Γ.Ok P) (hm : Rm Γ w0 Bp F0 nt s a w m F) {e : TypeId} {l : Lf Γ.α} {k : List (Γ.α e) → Prog Γ.α} {u : Value} (h : PS O s (elems e l k) ws) (hr : RLf m F w l u) :
    ∃ (xs : List (Γ.α e)) (A : Option Addr) (c : Nat) (news : List Value), PS O s (k xs) ws ∧ u = .slice A xs.length c ∧ news.length = xs.length * Γ.sz e ∧ RLs m F w (flat Γ e xs) news ∧
      ∀ (j : Nat) u, news[j]? = some u → ∃ ad, A = some ad ∧ w.cell? (ad.add j) = some u := by
  unfold elems at h
  split at h
  · cases hr
    exact ⟨[], none, 0, [], h, rfl, by simp, .nil, by simp⟩
  · split at h
    · rename_i he
      subst he
      cases hr with
      | sl _ _ A c vals hl hc hcell hrel => exact ⟨_, A, c, vals, h, rfl, hl, ⟨by rw [flat_length hΓ, hl], hrel⟩, fun j u hu => by obtain ⟨ad, h1, _, h3⟩ := hcell j u hu; exact ⟨ad, h1, h3⟩⟩
    · exact (ps_fail.1 h).elim
  · obtain ⟨v, h1, h2⟩ := ps_rd.1 h
    split at h2
    · split at h2
      · rename_i he
        subst he
        cases hr with
        | own _ o' n' cap sz h3 =>
          obtain ⟨o2, cap2, vals, e1, e2, e3, _⟩ := hm.row _ _ _ h1
          rw [h3] at e1
          simp only [Option.some.injEq, Place.row.injEq] at e1
          obtain ⟨rfl, rfl, rfl, rfl⟩ := e1
          refine ⟨_, _, cap, vals, h2, rfl, e2.1, e3, fun j u hu => ?_⟩
          cases o' with
          | none =>
            rcases e2.2 with ⟨hn, h0⟩ | ⟨g, cap', cur, hv, _⟩
            · have : vals = [] := List.eq_nil_of_length_eq_zero (by rw [e2.1, h0, Nat.zero_mul])
              subst this; simp at hu
            · simp [sliceV] at hv
          | some b => exact ⟨_, rfl, e2.cells (g := b) (by simp [sliceV, Value.ownBlock]) j u hu⟩
      · exact (ps_fail.1 h2).elim
    · exact (ps_fail.1 h2).elim
  · exact (ps_fail.1 h).elim
theorem flat_append {e : TypeId} (xs ys : List (Γ.α e)) : flat Γ e (xs ++ ys) = flat Γ e xs ++ flat Γ e ys := by simp [flat]
theorem sim_append (hΓ : Γ.Ok P) (c : Call) (hc : c.callee = .builtin .append) (ho : o.op = .call c) (hm : Rm Γ w0 Bp F0 nt s a w m F) (hd : ∀ d, o.dst = some d → d < nt)
    (hps : PS O s (opProg Γ sg o) ws) (hK : ∀ a' w', R Γ w0 Bp F0 nt (wr s ws) a' w' → K a' w') : o.wp P a w K Q := by
  simp only [opProg, ho, hc] at hps
  split at hps
  · rename_i t t' hts
    obtain ⟨htt, p1⟩ := ps_bif hps
    have htt := Nat.eq_of_beq_eq_true htt
    subst htt
    have hts : c.argTypes = #[t, t] := by rw [← Array.toList_inj]; exact hts
    obtain ⟨vs, h1, p2⟩ := ps_opds.1 p1
    split at p2
    · rename_i sv xv
      obtain ⟨so, r1, q1, q2, q3⟩ := h1.inv
      obtain ⟨xo, q4, q5⟩ := q3.one
      subst q4
      have hargs : c.args = #[so, xo] := by rw [← Array.toList_inj]; simpa using q1
      unfold appendP at p2
      split at p2
      · rename_i d sl xl hdst
        obtain ⟨e, h2, p3⟩ := ps_need.1 p2
        obtain ⟨ti, h3, p4⟩ := ps_need.1 p3
        have hrs := hm.opv q2
        have hrx := hm.opv q5
        generalize evs : a.eval so = S at hrs
        generalize evx : a.eval xo = X at hrx
        obtain ⟨xs, A, cp, news, p5, rfl, hl, hrel, hcell⟩ := elems_src hΓ hm p4 hrx
        have hti := hΓ.ti e ti h3
        have hsz : Γ.sz e = ti.size := sz_ti h3
        obtain ⟨i, i1, i2, i3, z, i4, i5⟩ := hti.info
        have hpos := hti.pos
        have hbpos := hti.bpos
        have hu := slElem_ok hΓ h2
        -- the end, alike
        have fin : ∀ (ys : List (Γ.α e)) (wz : List (Key × Option (Val Γ.α))) (vals : List Value), (wr s wz).get (.used d) = s.get (.used d) → Rm Γ w0 Bp F0 nt (wr s wz) a w m F → w.ownsRow 0 e (Γ.sz e) S ys.length vals → RLs m F w (flat Γ e ys) vals →
            (∀ b, S.ownBlock = some b → ¬ F b ∧ (w0.heap.size ≤ b ∨ BB Bp b) ∧ (∀ id, ¬ Owns (wr s wz) m id b) ∧ (∀ id e' xs' n cap sz, (wr s wz).get (.row id) = some (.row e' xs') → m id ≠ some (.row (some b) n cap sz)) ∧ ¬ CB Bp b) →
            PS O s (.ck (decide ((ys.length + xs.length) * ti.bytes ≤ 140737488355328)) (newRow d e (ys ++ xs) wz)) ws → o.wp P a w K Q := by
          intro ys wz vals hud hm1 hown hry hno hp
          obtain ⟨hb, hp⟩ := ps_ck.1 hp
          have hb := of_decide_eq_true hb
          obtain ⟨g8, rfl⟩ := ps_newRow hp
          have h63 : ys.length + xs.length ≤ maxLen := by
            have := Nat.le_mul_of_pos_right (ys.length + xs.length) hbpos
            simp only [maxLen]; omega
          obtain ⟨v', w', r1, r2, r3, r4⟩ := append_run (P := P) (ty := o.type) (c := cp) hu i1 i4 (i2.trans hsz.symm) i3 (by rw [zcells_size hti i5, hsz]) (by rw [hsz]; exact hpos) hown hl hcell hrel.oneCell h63 hb (Nat.zero_le _)
          have hch := Ch.of_grown r3
          have hm2 := hm1.world hch (fun b hb => (hno b hb.symm).2.1) (fun b hb => (hno b hb.symm).1) (fun id b n hid hb => (hno b hb.symm).2.2.1 id (.inl ⟨n, hid⟩)) (fun id e' xs' b n cap sz hr' hid hb => (hno b hb.symm).2.2.2.1 id e' xs' n cap sz hr' hid) (fun b hb => (hno b hb.symm).2.2.2.2)
          obtain ⟨o', cap, rfl, ho'⟩ := ownsRow_form r2
          refine wp_val (u := sliceV o' (ys.length + xs.length) cap) (w' := w') (by simp [execOp, ho, hc, resolve, invoke, builtin, hargs, hts, evs, evx, r1]) ?_
          rw [hdst]
          have hlen : (ys ++ xs).length = ys.length + xs.length := List.length_append
          have hmono : ∀ ad : Addr, F ad.block → w'.cell? ad = w.cell? ad := fun ad hf => hch.cell (hm.f2 _ hf) (fun hx => (hno _ hx.symm).1 hf)
          have hfin := newRow_fin (d := d) (e := e) (xs := ys ++ xs) (o := o') (cap := cap) (vals := vals ++ news) (a := a) hm2 (by rw [hud]; exact g8) (hd d hdst)
            (by rw [hlen]; exact r2) (by rw [flat_append]; exact (hry.append hrel).mono (fun _ _ e => e) (fun _ x => x) hmono) (fun b hb => by
              subst hb
              rcases r4 with r4 | r4
              · rw [ho'] at r4
                exact ⟨(hno b r4.symm).1, (hno b r4.symm).2.1, (hno b r4.symm).2.2.2.2, (hno b r4.symm).2.2.1⟩
              · rw [ho'] at r4
                cases r4
                exact ⟨fun hf => by have := hm.f2 _ hf; omega, .inl hm.fr.size, hm.freshCB hm.fr.size, fun id hi => by have := (hm1.ours id _ hi).2.2; omega⟩)
          rw [show sliceV o' (ys ++ xs).length cap = sliceV o' (ys.length + xs.length) cap by rw [hlen]] at hfin
          exact hK _ _ hfin
        dsimp only at p5
        split at p5
        · cases hrs
          exact fin [] [] [] rfl hm (World.ownsRow_nil w 0 e (Γ.sz e)) .nil (fun b hb => by cases hb) p5
        · rename_i id
          obtain ⟨mv, m1, p6⟩ := ps_rd.1 p5
          obtain ⟨rv, m2, p7⟩ := ps_rd.1 p6
          split at p7
          · rename_i e' ys
            split at p7
            · rename_i he
              subst he
              cases hrs with
              | own _ o' n' cap sz h4 =>
                obtain ⟨o2, cap2, vals, e1, e2, e3, _⟩ := hm.row id _ ys m2
                rw [h4] at e1
                simp only [Option.some.injEq, Place.row.injEq] at e1
                obtain ⟨rfl, rfl, rfl, rfl⟩ := e1
                have hm1 := hm.junk (id := id) (n := 0)
                have hm2 := hm1.dropMut (id := id) (fun e xs h => by rw [St.get_cons, if_pos rfl] at h; cases h)
                have hOw : ∀ i b, Owns (wr s [(.row id, some (.num 0)), (.mut id, none)]) m i b → Owns s m i b ∧ (i = id → ∃ n, m id = some (.box b n)) := by
                  intro i b hb
                  rcases hb with hb | ⟨n, cap', sz', hb, hmm⟩
                  · exact ⟨.inl hb, fun e => e ▸ hb⟩
                  · simp only [wr] at hmm
                    rw [St.get_cons] at hmm
                    split at hmm
                    · cases hmm
                    · rename_i hne
                      rw [St.get_cons, if_neg (by simp)] at hmm
                      exact ⟨.inr ⟨n, cap', sz', hb, hmm⟩, fun e => absurd (by rw [e]) hne⟩
                refine fin ys [(.row id, some (.num 0)), (.mut id, none)] vals (by simp [wr, St.get_cons]) hm2 e2 e3 (fun b hb => ?_) p7
                have hob : o' = some b := by
                  cases o' with
                  | none => simp [Value.ownBlock] at hb
                  | some q => simpa [Value.ownBlock] using hb
                subst hob
                have hown : Owns s m id b := .inr ⟨_, _, _, h4, by rw [m1]; rfl⟩
                obtain ⟨b1, b2, b3⟩ := hm.ours id b hown
                refine ⟨b1, b2, fun i hi => ?_, fun i e' xs' n cap' sz' hr' hi => ?_, hm.rowCB h4 (by rw [m1]; rfl)⟩
                · obtain ⟨c1, c2⟩ := hOw i b hi
                  have : i = id := hm.dist i id b c1 hown
                  obtain ⟨n, hn⟩ := c2 this
                  rw [h4] at hn; cases hn
                · have hne : i ≠ id := fun e => by subst e; simp [wr, St.get_cons] at hr'
                  have hr2 : s.get (.row i) = some (.row e' xs') := by simpa [wr, St.get_cons, hne.symm] using hr'
                  by_cases hmut : (s.get (.mut i)).isSome = true
                  · exact hne (hm.dist i id b (.inr ⟨n, cap', sz', hi, hmut⟩) hown)
                  · obtain ⟨o3, cap3, vals3, f1, _, _, f4⟩ := hm.row i e' xs' hr2
                    rw [hi] at f1
                    simp only [Option.some.injEq, Place.row.injEq] at f1
                    exact b1 (f4 (by cases hq : s.get (.mut i) with
                      | none => rfl
                      | some x => rw [hq] at hmut; simp at hmut) b f1.1.symm)
            · exact (ps_fail.1 p7).elim
          · exact (ps_fail.1 p7).elim
        · exact (ps_fail.1 p5).elim
      · exact (ps_fail.1 p2).elim
    · exact (ps_fail.1 p2).elim
  · exact (ps_fail.1 hps).elim
end
end Go.Proofs.Ytlhknehkcflkgaa.Ab
