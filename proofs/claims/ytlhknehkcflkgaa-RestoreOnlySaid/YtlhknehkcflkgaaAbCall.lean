/- A function that is called: what it is taken to do, and the call. -/
import Derived.Test.YtlhknehkcflkgaaAbOps8
set_option autoImplicit false
set_option linter.unusedVariables false
set_option linter.unusedSimpArgs false
namespace Go.Proofs.Ytlhknehkcflkgaa.Ab
open Go

section
variable {Γ : Reg}
/-! ### the contract -/
/-- leaves of a result: those that are new rows of the callee's, the rest frozen; the rows' blocks -/
inductive Leafs (F' : Nat → Prop) (w' : World) (base : Nat) : List Bool → List (Lf Γ.α) → List Value → List Nat → Prop where
  | nil {fs} : Leafs F' w' base fs [] [] []
  | own {fs e ls vs own'} {xs : List (Γ.α e)} {o : Option Nat} {cap : Nat} {vals : List Value} (h : w'.ownsRow base e (Γ.sz e) (sliceV o xs.length cap) xs.length vals) (hr : RLs (fun _ => none) F' w' (flat Γ e xs) vals)
      (t : Leafs F' w' base fs ls vs own') : Leafs F' w' base (true :: fs) (.sl e xs :: ls) (sliceV o xs.length cap :: vs) (o.toList ++ own')
  | plain {fs l ls v vs own'} (hn : fs.head? = some true → ∀ e xs, l ≠ .sl e xs) (h : RLf (fun _ => none) F' w' l v) (t : Leafs F' w' base fs.tail ls vs own') : Leafs F' w' base fs (l :: ls) (v :: vs) own'
inductive ResRel (F' : Nat → Prop) (w' : World) (base : Nat) : List (TypeId × List Bool) → List (List (Lf Γ.α)) → List Value → List Nat → Prop where
  | nil : ResRel F' w' base [] [] [] []
  | cons {t ti fs rs cs css vals vs own own'} (h : Γ.ti t = some ti) (hl : vals.length = ti.size) (hL : Leafs F' w' base fs cs vals own) (t' : ResRel F' w' base rs css vs own') :
      ResRel F' w' base ((t, fs) :: rs) (cs :: css) (valOf ti.agg vals :: vs) (own ++ own')
/-- arguments: values, and addresses of variables with what these hold; the variables' blocks, and those of the rows that go with them -/
inductive ArgsRel (F0 : Nat → Prop) (w : World) : List (Bool × TypeId) → List (TypeId × List Bool) → List (List (Lf Γ.α)) → List Value → List Nat → List Nat → Prop where
  | nil {bs} : ArgsRel F0 w [] bs [] [] [] []
  | val {t ti ps bs cs css v vs bb wb} (h : Γ.ti t = some ti) (hr : RC (fun _ => none) F0 w ti.agg cs v) (t' : ArgsRel F0 w ps bs css vs bb wb) : ArgsRel F0 w ((false, t) :: ps) bs (cs :: css) (v :: vs) bb wb
  | box {t t2 fs ti ps bs cs css vs bb b C ty own wb} (h : Γ.ti t = some ti) (hg : w.heap[b]? = some (.cells C ty (0, 0))) (hC : C.size = ti.size) (hr : Leafs F0 w 0 fs cs C.toList own) (t' : ArgsRel F0 w ps bs css vs bb wb) :
      ArgsRel F0 w ((true, t) :: ps) ((t2, fs) :: bs) (cs :: css) (.pointer (some ⟨b, 0, none⟩) :: vs) (b :: bb) (own ++ wb)
/-- several results are a tuple -/
def retV (us : List Value) : Value := match us with | [v] => v | us => .tuple us.toArray
/-- what a variable holds behind a call: v, but for the cells of the mask, which are as they were -/
def Bx1 (w w' : World) (k b : Nat) (v : Value) : Prop := ∃ C ty, w'.heap[b]? = some (.cells C ty (0, 0)) ∧ C.size = v.cells.size ∧ (∀ (off : Nat) u, tb k off = false → v.cells.toList[off]? = some u → C.toList[off]? = some u) ∧
  ∀ off, tb k off = true → w'.cell? ⟨b, off, none⟩ = w.cell? ⟨b, off, none⟩
inductive BxNow (w w' : World) : List Nat → List Nat → List Value → Prop where
  | nil {ks} : BxNow w w' ks [] []
  | cons {k b v ks bb us} (h : Bx1 w w' k b v) (t : BxNow w w' ks bb us) : BxNow w w' (k :: ks) (b :: bb) (v :: us)
/-- values of which nothing is told in the cells of a mask -/
def mskV (mask : Nat) : (off : Nat) → List Value → List Value
  | _, [] => []
  | off, v :: vs => (bif tb mask off then .bool false else v) :: mskV mask (off + 1) vs
theorem mskV_length {mask : Nat} : ∀ (vs : List Value) (off : Nat), (mskV mask off vs).length = vs.length
  | [], _ => rfl
  | v :: vs, off => by simp [mskV, mskV_length vs]
theorem mskV_get {mask : Nat} : ∀ {vs : List Value} {off : Nat} (k : Nat) (u : Value), tb mask (off + k) = false → (mskV mask off vs)[k]? = some u → vs[k]? = some u
  | [], _, _, _, _, h => by simp [mskV] at h
  | v :: vs, off, 0, u, ht, h => by
    simp only [mskV, List.getElem?_cons_zero] at h ⊢
    rw [show off + 0 = off from rfl] at ht
    rw [ht] at h; exact h
  | v :: vs, off, k + 1, u, ht, h => by
    simp only [mskV, List.getElem?_cons_succ] at h ⊢
    exact mskV_get k u (by rwa [show off + 1 + k = off + (k + 1) by omega]) h
theorem Leafs.msk {F' : Nat → Prop} {w' : World} {base mask : Nat} {fs : List Bool} {cs : List (Lf Γ.α)} {vals : List Value} {own : List Nat} (h : Leafs F' w' base fs cs vals own) : ∀ (off : Nat), flOk mask off fs = true → Leafs F' w' base fs (mskL mask off cs) (mskV mask off vals) own := by
  induction h with
  | nil => intro off _; exact .nil
  | own h hr _ ih =>
    intro off hf
    simp only [flOk, Bool.true_and, Bool.and_eq_true, Bool.not_eq_true'] at hf
    simp only [mskL, mskV, hf.1, cond_false]
    exact .own h hr (ih (off + 1) hf.2)
  | @plain fs l ls v vs own' hn h _ ih =>
    intro off hf
    have hf' : flOk mask (off + 1) fs.tail = true := by
      cases fs with
      | nil => rfl
      | cons f fs => simp only [flOk, Bool.and_eq_true] at hf; exact hf.2
    simp only [mskL, mskV]
    cases ht : tb mask off with
    | false => exact .plain hn h (ih (off + 1) hf')
    | true => exact .plain (fun _ => by simp) (.bool _) (ih (off + 1) hf')
def RetIs (nw : Bool) (w w' : World) (F' : Nat → Prop) (own : List Nat) (us : List Value) (e : Ending) : Prop :=
  match nw with
  | false => e = .returned (retV us)
  | true => ∃ b v ty, us = [v] ∧ e = .returned (.pointer (some ⟨b, 0, none⟩)) ∧ w'.heap[b]? = some (.cells v.cells ty (0, 0)) ∧ w.heap.size ≤ b ∧ ¬ F' b ∧ b ∉ own
def FnOk (P : Program) (f : FuncId) (sg : Sig) (args res : List (List (Lf Γ.α))) : Prop :=
  ∀ (w : World) (F0 : Nat → Prop) (vs : List Value) (bb wb : List Nat), (∀ b, F0 b → b < w.heap.size) → ArgsRel F0 w sg.ps sg.bs args vs bb wb → (bb ++ wb).Nodup → (∀ b ∈ bb ++ wb, ¬ F0 b) →
    Calls P f vs.toArray w fun e w' => ∃ (F' : Nat → Prop) (us us2 : List Value) (own : List Nat), RetIs sg.nw w w' F' own us e ∧ us.length = sg.rs.length ∧ Fr (fun b => b ∈ bb ++ wb) w w' ∧ (∀ b, F0 b → F' b) ∧ (∀ b, F' b → F0 b ∨ w.heap.size ≤ b ∨ b ∈ wb) ∧ (∀ b, F' b → b < w'.heap.size) ∧
      own.Nodup ∧ (∀ b ∈ own, ¬ F' b ∧ (w.heap.size ≤ b ∨ b ∈ wb)) ∧ ResRel F' w' 0 (sg.rs ++ sg.bs) res (us ++ us2) own ∧ BxNow w w' sg.ks bb us2

variable {O : ORel Γ} {s : St Γ.α} {w0 : World} {Bp : Nat → Nat → Prop} {F0 : Nat → Prop} {nt : Nat} {a : Act} {w : World} {m : Places} {F : Nat → Prop}
variable {P : Program} {o : Oper} {K : Act → World → Prop} {Q : Exit → Act → World → Prop} {ws : List (Key × Option (Val Γ.α))} {sg : FuncId → Option Sig}
/-- what has no name in it says the same at other places -/
theorem RLf.free (hΓ : Γ.Ok P) {m' : Places} {l : Lf Γ.α} {v : Value} (h : RLf m F w l v) (hp : plain' l) : RLf m' F w l v := by
  induction h with
  | int k n => exact .int k n
  | bool b => exact .bool b
  | str s => exact .str s
  | nil => exact .nil
  | sl e xs A c vals hl hc hcell hrel ih =>
    refine .sl e xs A c vals hl hc hcell (fun k l u hk hu => ih k l u hk hu ?_)
    have hmem := List.mem_of_getElem? hk
    simp only [flat, List.mem_flatMap] at hmem
    obtain ⟨x, _, hx⟩ := hmem
    have := hΓ.plain e x l hx
    cases l <;> first | trivial | exact this.elim
  | _ => exact hp.elim
theorem RLs.free (hΓ : Γ.Ok P) {m' : Places} {ls : List (Lf Γ.α)} {vs : List Value} (h : RLs m F w ls vs) (hp : ∀ l ∈ ls, plain' l) : RLs m' F w ls vs :=
  ⟨h.1, fun k l v h1 h2 => (h.2 k l v h1 h2).free hΓ (hp l (List.mem_of_getElem? h1))⟩
theorem cellsAs_rel {agg : Bool} {v : AV Γ.α} {cs : List (Lf Γ.α)} {u : Value} (h : v.cellsAs agg = some cs) (hr : RAV m F w v u) : RLs m F w cs u.cells.toList ∧ ∀ {m' : Places} {F' : Nat → Prop} {w' : World} {cs' : List (Lf Γ.α)}, RLs m' F' w' cs' u.cells.toList → RC m' F' w' agg cs' u := by
  unfold AV.cellsAs at h
  split at h
  · cases agg with
    | true => cases h
    | false =>
      cases h
      have h1 := RLf.cells hr
      refine ⟨by rw [h1]; exact .cons hr .nil, fun {m' F' w' cs'} h' => ?_⟩
      rw [h1] at h'
      cases cs' with
      | nil => have := h'.1; simp at this
      | cons l ls =>
        obtain ⟨v', vs, e1, e2, e3⟩ := h'.inv
        simp at e1
        obtain ⟨rfl, rfl⟩ := e1
        have : ls = [] := by
          have := e3.1
          exact List.eq_nil_of_length_eq_zero this
        subst this
        exact ⟨l, rfl, e2⟩
  · cases agg with
    | false => cases h
    | true =>
      cases h
      obtain ⟨vs, rfl, h2⟩ := hr
      exact ⟨by simpa [Value.cells] using h2, fun {m' F' w' cs'} h' => ⟨vs, rfl, by simpa [Value.cells] using h'⟩⟩
  · cases h
theorem Leafs.mono {F1 F2 : Nat → Prop} {base : Nat} {fs : List Bool} {cs : List (Lf Γ.α)} {vals : List Value} {own : List Nat} (hF : ∀ b, F1 b → F2 b) (h : Leafs F1 w base fs cs vals own) : Leafs F2 w base fs cs vals own := by
  induction h with
  | nil => exact .nil
  | own h hr t ih => exact .own h (hr.mono (fun _ _ e => e) hF (fun _ _ => rfl)) ih
  | plain hn h t ih => exact .plain hn (h.mono (fun _ _ e => e) hF (fun _ _ => rfl)) ih
theorem ArgsRel.mono {F0 F0' : Nat → Prop} {ps : List (Bool × TypeId)} {bs : List (TypeId × List Bool)} {css : List (List (Lf Γ.α))} {vs : List Value} {bb wb : List Nat} (h : ArgsRel F0 w ps bs css vs bb wb) (hF : ∀ b, F0 b → F0' b) : ArgsRel F0' w ps bs css vs bb wb := by
  induction h with
  | nil => exact .nil
  | val h hr _ ih => exact .val h (hr.mono (fun _ _ e => e) hF (fun _ _ => rfl)) ih
  | box h hg hC hr _ ih => exact .box h hg hC (hr.mono hF) ih
/-- the boxes that a call is handed, by their names -/
def Boxes (m : Places) (s : St Γ.α) (Γti : TypeId → Option TI) : List (Bool × TypeId) → List Nat → List Nat → Prop
  | [], [], [] => True
  | (false, _) :: ps, ids, bb => Boxes m s Γti ps ids bb
  | (true, t) :: ps, id :: ids, b :: bb => (∃ ti, Γti t = some ti ∧ m id = some (.box b ti.size)) ∧ Boxes m s Γti ps ids bb
  | _, _, _ => False
theorem cells_toList {C : Array Value} {t : TypeId} {b : Nat} {vals : List Value} (hg : w.heap[b]? = some (.cells C t (0, 0))) (hl : vals.length = C.size) (hc : ∀ (k : Nat) u, vals[k]? = some u → w.cell? ⟨b, 0 + k, none⟩ = some u) : C.toList = vals := by
  apply List.ext_getElem?
  intro k
  by_cases hk : k < vals.length
  · have := hc k _ (List.getElem?_eq_getElem hk)
    rw [Nat.zero_add] at this
    simp only [World.cell?, hg] at this
    rw [List.getElem?_eq_getElem hk, ← this]
    simp
  · rw [List.getElem?_eq_none (by simp; omega), List.getElem?_eq_none (by omega)]
theorem All2.imp {β γ : Type} {p q : β → γ → Prop} (hpq : ∀ x y, p x y → q x y) : ∀ {xs : List β} {ys : List γ}, All2 p xs ys → All2 q xs ys
  | _, _, .nil => .nil
  | _, _, .cons h t => .cons (hpq _ _ h) (t.imp hpq)
/-- rows that go with a variable, by their names; and their blocks -/
inductive Tk (s : St Γ.α) (m : Places) : List Nat → List Nat → Prop where
  | nil : Tk s m [] []
  | cons {id wi own o n cap sz} (h : m id = some (.row o n cap sz)) (hm : (s.get (.mut id)).isSome = true) (t : Tk s m wi own) : Tk s m (id :: wi) (o.toList ++ own)
theorem Tk.append {wi wi' own own' : List Nat} (h : Tk s m wi own) (h' : Tk s m wi' own') : Tk s m (wi ++ wi') (own ++ own') := by
  induction h with
  | nil => exact h'
  | cons h hm _ ih => rw [List.cons_append, List.append_assoc]; exact .cons h hm ih
theorem bx_true (hΓ : Γ.Ok P) {k : List (Lf Γ.α) → List (Key × Option (Val Γ.α)) → List Nat → Prog Γ.α} : ∀ {ls : List (Lf Γ.α)} {fs : List Bool} {vals : List Value} {s2 : St Γ.α} {F : Nat → Prop}, Rm Γ w0 Bp F0 nt s2 a w m F → (∀ id, s2.get (.row id) = s.get (.row id)) → PS O s (closeBx true fs ls k) ws → RLs m F w ls vals →
    ∃ cs wz F' own wi, PS O s (k cs wz wi) ws ∧ Rm Γ w0 Bp F0 nt (wr s2 wz) a w m F' ∧ (∀ b, F b → F' b) ∧ Leafs F' w 0 fs cs vals own ∧ Tk s m wi own ∧ (∀ key, (∀ id, key ≠ .mut id) → (wr s2 wz).get key = s2.get key) := by
  intro ls
  induction ls generalizing k with
  | nil =>
    intro fs vals s2 F hm _ hps hr
    rw [hr.inv_nil]
    unfold closeBx at hps
    exact ⟨[], [], F, [], [], hps, hm, fun _ x => x, .nil, .nil, fun _ _ => rfl⟩
  | cons l ls ih =>
    intro fs vals s2 F hm hs hps hr
    obtain ⟨v, vs, rfl, h1, h2⟩ := hr.inv
    have rest : fs.head? ≠ some true → PS O s (closeLf true [l] fun cs1 ws1 => closeBx true fs.tail ls fun cs ws wi => k (cs1 ++ cs) (ws1 ++ ws) wi) ws → ∃ cs wz F' own wi, PS O s (k cs wz wi) ws ∧ Rm Γ w0 Bp F0 nt (wr s2 wz) a w m F' ∧ (∀ b, F b → F' b) ∧ Leafs F' w 0 fs cs (v :: vs) own ∧ Tk s m wi own ∧ (∀ key, (∀ id, key ≠ .mut id) → (wr s2 wz).get key = s2.get key) := fun hne hp => by
      obtain ⟨c, wz, F1, g1, g2, g3, g4, g5, g6⟩ := close_true hΓ hm hs hp (.cons h1 .nil)
      obtain ⟨cs, wz2, F2, own, wi, q1, q2, q3, q4, q5, q6⟩ := ih g2 (fun id => by rw [g5 _ (by simp)]; exact hs id) g1 (h2.mono (fun _ _ e => e) g3 (fun _ _ => rfl))
      obtain ⟨c1, rfl⟩ := List.length_eq_one_iff.1 (show c.length = 1 from g4.1)
      refine ⟨c1 :: cs, wz ++ wz2, F2, own, wi, q1, by rw [wr_append]; exact q2, fun b hb => q3 b (g3 b hb), ?_, q5, fun key hk => by rw [wr_append, q6 key hk, g5 key hk]⟩
      obtain ⟨v', vs', e1, e2, _⟩ := ((g4.free hΓ g6).mono (m' := fun _ => none) (F' := F2) (w' := w) (fun _ _ e => e) q3 (fun _ _ => rfl)).inv
      cases e1
      exact .plain (fun h => absurd h hne) e2 q4
    cases fs with
    | nil => exact rest (by simp) hps
    | cons fl fs =>
      cases fl with
      | false => exact rest (by simp) hps
      | true =>
        unfold closeBx at hps
        split at hps
        · rename_i id
          obtain ⟨mv, m1, p1⟩ := ps_rd.1 hps
          obtain ⟨rv, m2, p2⟩ := ps_rd.1 p1
          split at p2
          · rename_i e xs
            cases h1 with
            | own _ o n cap sz h4 =>
              obtain ⟨o2, cap2, vals2, e1, e2, e3, _⟩ := hm.row id e xs (by rw [hs]; exact m2)
              rw [h4] at e1
              simp only [Option.some.injEq, Place.row.injEq] at e1
              obtain ⟨rfl, rfl, rfl, rfl⟩ := e1
              obtain ⟨cs, wz2, F2, own, wi, q1, q2, q3, q4, q5, q6⟩ := ih hm hs p2 h2
              refine ⟨.sl e xs :: cs, wz2, F2, o.toList ++ own, id :: wi, q1, q2, q3, ?_, .cons h4 (by rw [m1]; rfl) q5, q6⟩
              refine .own e2 ?_ q4
              exact (e3.free (m' := fun _ => none) hΓ (fun l hl => by
                simp only [flat, List.mem_flatMap] at hl
                obtain ⟨x, _, hx⟩ := hl
                have := hΓ.plain e x l hx
                cases l <;> first | trivial | exact this.elim)).mono (fun _ _ e => e) q3 (fun _ _ => rfl)
          · exact (ps_fail.1 p2).elim
        · cases h1
          obtain ⟨cs, wz2, F2, own, wi, q1, q2, q3, q4, q5, q6⟩ := ih hm hs hps h2
          exact ⟨.nil :: cs, wz2, F2, own, wi, q1, q2, q3, .plain (by simp) .nil q4, q5, q6⟩
        · exact (ps_fail.1 hps).elim
theorem bx_false (hΓ : Γ.Ok P) {k : List (Lf Γ.α) → List (Key × Option (Val Γ.α)) → List Nat → Prog Γ.α} (hm : Rm Γ w0 Bp F0 nt s a w m F) : ∀ {ls : List (Lf Γ.α)} {fs : List Bool} {vals : List Value}, PS O s (closeBx false fs ls k) ws → RLs m F w ls vals →
    ∃ cs wi, PS O s (k cs [] wi) ws ∧ (wi = [] → Leafs (fun b => F b ∨ Rows' s m b) w 0 fs cs vals []) := by
  intro ls
  induction ls generalizing k with
  | nil =>
    intro fs vals hps hr
    rw [hr.inv_nil]
    unfold closeBx at hps
    exact ⟨[], [], hps, fun _ => .nil⟩
  | cons l ls ih =>
    intro fs vals hps hr
    obtain ⟨v, vs, rfl, h1, h2⟩ := hr.inv
    have rest : fs.head? ≠ some true → PS O s (closeLf false [l] fun cs1 ws1 => closeBx false fs.tail ls fun cs ws wi => k (cs1 ++ cs) (ws1 ++ ws) wi) ws → ∃ cs wi, PS O s (k cs [] wi) ws ∧ (wi = [] → Leafs (fun b => F b ∨ Rows' s m b) w 0 fs cs (v :: vs) []) := fun hne hp => by
      obtain ⟨c, g1, g4, g6⟩ := close_false hΓ hm hp (.cons h1 .nil)
      obtain ⟨cs, wi, q1, q4⟩ := ih g1 h2
      obtain ⟨c1, rfl⟩ := List.length_eq_one_iff.1 (show c.length = 1 from g4.1)
      refine ⟨c1 :: cs, wi, q1, fun hw => ?_⟩
      obtain ⟨v', vs', e1, e2, _⟩ := (g4.free (m' := fun _ => none) hΓ g6).inv
      cases e1
      exact .plain (fun h => absurd h hne) e2 (q4 hw)
    cases fs with
    | nil => exact rest (by simp) hps
    | cons fl fs =>
      cases fl with
      | false => exact rest (by simp) hps
      | true =>
        unfold closeBx at hps
        split at hps
        · rename_i id
          obtain ⟨mv, m1, p1⟩ := ps_rd.1 hps
          obtain ⟨rv, m2, p2⟩ := ps_rd.1 p1
          split at p2
          · obtain ⟨cs, wi, q1, _⟩ := ih p2 h2
            exact ⟨_, _, q1, fun h => by cases h⟩
          · exact (ps_fail.1 p2).elim
        · cases h1
          obtain ⟨cs, wi, q1, q4⟩ := ih hps h2
          exact ⟨_, _, q1, fun hw => .plain (by simp) .nil (q4 hw)⟩
        · exact (ps_fail.1 hps).elim
theorem args_true (hΓ : Γ.Ok P) {k : List (List (Lf Γ.α)) → List Nat → List (Key × Option (Val Γ.α)) → List Nat → Prog Γ.α} : ∀ {ps : List (Bool × TypeId)} {bs : List (TypeId × List Bool)} {vs : List (AV Γ.α)} {us : List Value} {s2 : St Γ.α} {F : Nat → Prop},
    Rm Γ w0 Bp F0 nt s2 a w m F → (∀ key, (∀ id, key ≠ .mut id) → s2.get key = s.get key) → PS O s (argLf Γ.ti true ps bs vs k) ws → All2 (fun (u : Value) v => RAV m F w v u) us vs →
    ∃ css ids wz F' bb wb wi, PS O s (k css ids wz wi) ws ∧ Rm Γ w0 Bp F0 nt (wr s2 wz) a w m F' ∧ (∀ b, F b → F' b) ∧ ArgsRel F' w ps bs css us bb wb ∧ Boxes m s Γ.ti ps ids bb ∧ Tk s m wi wb ∧ (∀ key, (∀ id, key ≠ .mut id) → (wr s2 wz).get key = s2.get key) := by
  intro ps
  induction ps generalizing k with
  | nil =>
    intro bs vs us s2 F hm _ hps hr
    cases hr with
    | nil => unfold argLf at hps; exact ⟨[], [], [], F, [], [], [], hps, hm, fun _ x => x, .nil, trivial, .nil, fun _ _ => rfl⟩
    | cons _ _ => unfold argLf at hps; exact (ps_fail.1 hps).elim
  | cons p ps ih =>
    intro bs vs us s2 F hm hs hps hr
    obtain ⟨bx, t⟩ := p
    cases hr with
    | nil =>
      cases bx with
      | false => unfold argLf at hps; exact (ps_fail.1 hps).elim
      | true => cases bs <;> exact (ps_fail.1 hps).elim
    | cons h1 h2 =>
      rename_i u us' v vs'
      have next : ∀ {F' : Nat → Prop} {s3 : St Γ.α} {bs' : List (TypeId × List Bool)} {k' : List (List (Lf Γ.α)) → List Nat → List (Key × Option (Val Γ.α)) → List Nat → Prog Γ.α}, Rm Γ w0 Bp F0 nt s3 a w m F' → (∀ key, (∀ id, key ≠ .mut id) → s3.get key = s.get key) → (∀ b, F b → F' b) → PS O s (argLf Γ.ti true ps bs' vs' k') ws → _ := fun {F' s3 bs' k'} hm' hs' hFF hp =>
        ih (k := k') hm' hs' hp (All2.imp (fun _ _ h => h.mono (fun _ _ e => e) hFF (fun _ _ => rfl)) h2)
      cases bx with
      | false =>
        unfold argLf at hps
        obtain ⟨ti, h3, p1⟩ := ps_need.1 hps
        obtain ⟨cs, h4, p2⟩ := ps_need.1 p1
        obtain ⟨c1, c2⟩ := cellsAs_rel h4 h1
        obtain ⟨c, wz, F', g1, g2, g3, g4, g5, g6⟩ := close_true hΓ hm (fun id => hs _ (by simp)) p2 c1
        obtain ⟨css, ids, wz', F'', bb, wb, wi, q1, q2, q3, q4, q5, q7, q6⟩ := next g2 (fun key hk => by rw [g5 key hk]; exact hs key hk) g3 g1
        exact ⟨c :: css, ids, wz ++ wz', F'', bb, wb, wi, q1, by rw [wr_append]; exact q2, fun b hb => q3 b (g3 b hb), .val h3 (c2 ((g4.free hΓ g6).mono (fun _ _ e => e) q3 (fun _ _ => rfl))) q4, q5, q7, fun key hk => by rw [wr_append, q6 key hk, g5 key hk]⟩
      | true =>
        unfold argLf at hps
        split at hps
        · cases ‹_ :: _ = []›
        · rename_i heq _; cases heq
        · rename_i t' ps2 id vs2 he hv
          cases he
          cases hv
          obtain ⟨ti, h3, p1⟩ := ps_need.1 hps
          obtain ⟨uv, h4, p2⟩ := ps_rd.1 p1
          split at p2
          · rename_i n
            obtain ⟨h5, p3⟩ := ps_bif p2
            have h5 := Nat.eq_of_beq_eq_true h5
            subst h5
            obtain ⟨ls, l1, l2, p4⟩ := ps_rdCells.1 p3
            generalize hU : u = U at h1
            cases h1 with
            | ptr _ _ b n hb =>
              obtain ⟨vals, b1, b2⟩ := hm.boxCells hb (fun j l hj => by rw [hs _ (by simp)]; exact l2 j l hj)
              obtain ⟨p, hp, hp2, _⟩ := hm.used id ti.size (by rw [hs _ (by simp)]; exact h4)
              rw [hb] at hp
              cases hp
              have hn := hp2 b n rfl
              subst hn
              obtain ⟨_, C, ty, hg, hC⟩ := hm.box id b ti.size hb
              have hCv := cells_toList hg (by rw [← b1.1, l1, hC]) b2
              obtain ⟨c, wz, F', own, wi, g1, g2, g3, g4, g6, g5⟩ := bx_true hΓ hm (fun id => hs _ (by simp)) p4 b1
              obtain ⟨css, ids, wz', F'', bb, wb, wi', q1, q2, q3, q4, q5, q7, q6⟩ := next g2 (fun key hk => by rw [g5 key hk]; exact hs key hk) g3 g1
              refine ⟨c :: css, id :: ids, wz ++ wz', F'', b :: bb, own ++ wb, wi ++ wi', q1, by rw [wr_append]; exact q2, fun b hb => q3 b (g3 b hb), .box h3 hg hC ?_ q4, ⟨⟨ti, h3, hb⟩, q5⟩, g6.append q7, fun key hk => by rw [wr_append, q6 key hk, g5 key hk]⟩
              rw [hCv]
              exact g4.mono q3
          · exact (ps_fail.1 p2).elim
        · exact (ps_fail.1 hps).elim
theorem args_false (hΓ : Γ.Ok P) {k : List (List (Lf Γ.α)) → List Nat → List (Key × Option (Val Γ.α)) → List Nat → Prog Γ.α} (hm : Rm Γ w0 Bp F0 nt s a w m F) : ∀ {ps : List (Bool × TypeId)} {bs : List (TypeId × List Bool)} {vs : List (AV Γ.α)} {us : List Value},
    PS O s (argLf Γ.ti false ps bs vs k) ws → All2 (fun (u : Value) v => RAV m F w v u) us vs →
    ∃ css ids bb wi, PS O s (k css ids [] wi) ws ∧ (wi = [] → ArgsRel (fun b => F b ∨ Rows' s m b) w ps bs css us bb []) ∧ Boxes m s Γ.ti ps ids bb := by
  intro ps
  induction ps generalizing k with
  | nil =>
    intro bs vs us hps hr
    cases hr with
    | nil => unfold argLf at hps; exact ⟨[], [], [], [], hps, fun _ => .nil, trivial⟩
    | cons _ _ => unfold argLf at hps; exact (ps_fail.1 hps).elim
  | cons p ps ih =>
    intro bs vs us hps hr
    obtain ⟨bx, t⟩ := p
    cases hr with
    | nil =>
      cases bx with
      | false => unfold argLf at hps; exact (ps_fail.1 hps).elim
      | true => cases bs <;> exact (ps_fail.1 hps).elim
    | cons h1 h2 =>
      rename_i u us' v vs'
      cases bx with
      | false =>
        unfold argLf at hps
        obtain ⟨ti, h3, p1⟩ := ps_need.1 hps
        obtain ⟨cs, h4, p2⟩ := ps_need.1 p1
        obtain ⟨c1, c2⟩ := cellsAs_rel h4 h1
        obtain ⟨c, g1, g4, g6⟩ := close_false hΓ hm p2 c1
        obtain ⟨css, ids, bb, wi, q1, q4, q5⟩ := ih g1 h2
        exact ⟨c :: css, ids, bb, wi, q1, fun hw => .val h3 (c2 (g4.free hΓ g6)) (q4 hw), q5⟩
      | true =>
        unfold argLf at hps
        split at hps
        · cases ‹_ :: _ = []›
        · rename_i heq _; cases heq
        · rename_i t' ps2 id vs2 he hv
          cases he
          cases hv
          obtain ⟨ti, h3, p1⟩ := ps_need.1 hps
          obtain ⟨uv, h4, p2⟩ := ps_rd.1 p1
          split at p2
          · rename_i n
            obtain ⟨h5, p3⟩ := ps_bif p2
            have h5 := Nat.eq_of_beq_eq_true h5
            subst h5
            obtain ⟨ls, l1, l2, p4⟩ := ps_rdCells.1 p3
            generalize hU : u = U at h1
            cases h1 with
            | ptr _ _ b n hb =>
              obtain ⟨vals, b1, b2⟩ := hm.boxCells hb l2
              obtain ⟨p, hp, hp2, _⟩ := hm.used id ti.size h4
              rw [hb] at hp
              cases hp
              have hn := hp2 b n rfl
              subst hn
              obtain ⟨_, C, ty, hg, hC⟩ := hm.box id b ti.size hb
              have hCv := cells_toList hg (by rw [← b1.1, l1, hC]) b2
              obtain ⟨c, wi, g1, g4⟩ := bx_false hΓ hm p4 b1
              obtain ⟨css, ids, bb, wi', q1, q4, q5⟩ := ih g1 h2
              refine ⟨c :: css, id :: ids, b :: bb, wi ++ wi', q1, fun hw => ?_, ⟨⟨ti, h3, hb⟩, q5⟩⟩
              obtain ⟨hw1, hw2⟩ := List.append_eq_nil_iff.1 hw
              refine .box (own := []) h3 hg hC ?_ (q4 hw2)
              rw [hCv]
              exact g4 hw1
          · exact (ps_fail.1 p2).elim
        · exact (ps_fail.1 hps).elim
end
end Go.Proofs.Ytlhknehkcflkgaa.Ab
