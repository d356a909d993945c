/- One operation of the abstract machine, and the model's: whatever the first comes to, the second does. -/
import Derived.Test.YtlhknehkcflkgaaAbRel
import Derived.Laws.Entries
import Derived.Maps.AppendAt
set_option autoImplicit false
set_option linter.unusedVariables false
set_option linter.unusedSimpArgs false
namespace Go.Proofs.Ytlhknehkcflkgaa.Ab
open Go

def Zval : Z → Value
  | .int k => .int k 0 | .bool => .bool false | .str => .string ⟨#[]⟩ | .nil => .slice none 0 0
def ShOk (P : Program) (t : TypeId) : Sh → Prop
  | .int k => P.underlying t = some (.int k)
  | .bool => P.underlying t = some .bool
  | .str => P.underlying t = some .string
  | .slice e => P.underlying t = some (.slice e)
  | .ptr e => P.underlying t = some (.pointer e)
  | .struct fs => ∃ fields, P.underlying t = some (.struct fields) ∧ fields.toList.map (fun f => (f.type, f.offset)) = fs ∧ fields.toList.all (fun f => (P.info? f.type).isSome) = true
  | .other => False
structure TIok (P : Program) (t : TypeId) (ti : TI) : Prop where
  info : ∃ i, P.info? t = some i ∧ i.size = ti.size ∧ i.bytes = ti.bytes ∧ ∃ z, i.zero = some z ∧ z.cells.toList = ti.zero.map Zval
  sh : ShOk P t ti.sh
  zl : ti.zero.length = ti.size
  pos : 0 < ti.size
  bpos : 0 < ti.bytes
  one : ti.agg = false → ti.size = 1
def plain {α : TypeId → Type} : Lf α → Prop
  | .int .. => True | .bool _ => True | .str _ => True | .sl .. => True | _ => False
def scal {α : TypeId → Type} : Lf α → Prop
  | .int .. => True | .bool _ => True | .str _ => True | _ => False
/-- values of these kinds, cell by cell; and their equality -/
def KVs : List Z → List Value → Prop
  | [], [] => True
  | .int k :: zs, .int j _ :: vs => k = j ∧ KVs zs vs
  | .bool :: zs, .bool _ :: vs => KVs zs vs
  | .str :: zs, .string _ :: vs => KVs zs vs
  | _, _ => False
def eqV : Value → Value → Bool
  | .int _ a, .int _ b => a == b
  | .bool a, .bool b => a == b
  | .string a, .string b => a == b
  | _, _ => false
def eqVs : List Value → List Value → Bool
  | [], [] => true
  | x :: xs, y :: ys => eqV x y && eqVs xs ys
  | _, _ => false
/-- what a registry must be true of -/
structure Reg.Ok (Γ : Reg) (P : Program) : Prop where
  ti : ∀ t ti, Γ.ti t = some ti → TIok P t ti
  len : ∀ e x, (Γ.pk e x).length = Γ.sz e
  unpk : ∀ e cs x, Γ.unpk e cs = some x → cs.length = (Γ.pk e x).length ∧ ∀ (k : Nat) l l', cs[k]? = some l → (Γ.pk e x)[k]? = some l' → Lf.le l l'
  plain : ∀ e x, ∀ l ∈ Γ.pk e x, plain l
  scal : ∀ e x, scalTy Γ e = true → ∀ l ∈ Γ.pk e x, scal l
  eq : ∀ t ks, Γ.eqs t = some ks → P.eqGuardType P.depth t = false ∧ ∀ (xs ys : List Value) (w : World), KVs ks xs → KVs ks ys → (Op.equal t (.agg xs.toArray) (.agg ys.toArray)).run P w = .ok (eqVs xs ys) w

abbrev ORel (Γ : Reg) := FuncId → List (List (Lf Γ.α)) → List (List (Lf Γ.α)) → Prop
section
variable {Γ : Reg} {O : ORel Γ}
/-- a small program's way over a store: the keys that it reads, what it writes -/
inductive PStep (O : ORel Γ) (s : St Γ.α) : Prog Γ.α → List Key → List (Key × Option (Val Γ.α)) → Prop where
  | done (ws) : PStep O s (.done ws) [] ws
  | rd {k c v rs ws} (h : s.get k = some v) (h' : PStep O s (c v) rs ws) : PStep O s (.rd k c) (k :: rs) ws
  | no {k p rs ws} (h : s.get k = none) (h' : PStep O s p rs ws) : PStep O s (.no k p) (k :: rs) ws
  | ck {p rs ws} (h' : PStep O s p rs ws) : PStep O s (.ck true p) rs ws
  | brT {p q rs ws} (h' : PStep O s p rs ws) : PStep O s (.br true p q) rs ws
  | brF {p q rs ws} (h' : PStep O s q rs ws) : PStep O s (.br false p q) rs ws
  | call {f args r c rs ws} (h : O f args r) (h' : PStep O s (c r) rs ws) : PStep O s (.call f args c) rs ws
def PS (O : ORel Γ) (s : St Γ.α) (p : Prog Γ.α) (ws : List (Key × Option (Val Γ.α))) : Prop := ∃ rs, PStep O s p rs ws
variable {s : St Γ.α} {ws : List (Key × Option (Val Γ.α))}
theorem ps_fail : PS O s .fail ws ↔ False := ⟨fun ⟨_, h⟩ => (by cases h), fun h => h.elim⟩
theorem ps_done {ws'} : PS O s (.done ws') ws ↔ ws' = ws := ⟨fun ⟨_, h⟩ => (by cases h; rfl), fun h => h ▸ ⟨_, .done _⟩⟩
theorem ps_rd {k : Key} {c : Val Γ.α → Prog Γ.α} : PS O s (.rd k c) ws ↔ ∃ v, s.get k = some v ∧ PS O s (c v) ws :=
  ⟨fun ⟨_, h⟩ => (by cases h with | rd h h' => exact ⟨_, h, _, h'⟩), fun ⟨_, h, _, h'⟩ => ⟨_, .rd h h'⟩⟩
theorem ps_no {k : Key} {p : Prog Γ.α} : PS O s (.no k p) ws ↔ s.get k = none ∧ PS O s p ws :=
  ⟨fun ⟨_, h⟩ => (by cases h with | no h h' => exact ⟨h, _, h'⟩), fun ⟨h, _, h'⟩ => ⟨_, .no h h'⟩⟩
theorem ps_ck {c : Bool} {p : Prog Γ.α} : PS O s (.ck c p) ws ↔ c = true ∧ PS O s p ws :=
  ⟨fun ⟨_, h⟩ => (by cases h with | ck h' => exact ⟨rfl, _, h'⟩), fun ⟨h, _, h'⟩ => (by subst h; exact ⟨_, .ck h'⟩)⟩
theorem ps_br {c : Bool} {p q : Prog Γ.α} : PS O s (.br c p q) ws ↔ (c = true ∧ PS O s p ws) ∨ (c = false ∧ PS O s q ws) :=
  ⟨fun ⟨_, h⟩ => (by cases h with | brT h' => exact .inl ⟨rfl, _, h'⟩ | brF h' => exact .inr ⟨rfl, _, h'⟩), fun h => (by rcases h with ⟨rfl, _, h⟩ | ⟨rfl, _, h⟩; exact ⟨_, .brT h⟩; exact ⟨_, .brF h⟩)⟩
theorem ps_call {f : FuncId} {args : List (List (Lf Γ.α))} {c : List (List (Lf Γ.α)) → Prog Γ.α} : PS O s (.call f args c) ws ↔ ∃ r, O f args r ∧ PS O s (c r) ws :=
  ⟨fun ⟨_, h⟩ => (by cases h with | call h h' => exact ⟨_, h, _, h'⟩), fun ⟨_, h, _, h'⟩ => ⟨_, .call h h'⟩⟩
theorem ps_need {β : Type} {o : Option β} {k : β → Prog Γ.α} : PS O s (Prog.need o k) ws ↔ ∃ b, o = some b ∧ PS O s (k b) ws := by
  cases o with
  | none => simp [Prog.need, ps_fail]
  | some b => simp [Prog.need]
/-- an operand's value -/
def Opv (s : St Γ.α) : Operand → AV Γ.α → Prop
  | .tmp t, v => s.get (.tmp t) = some (.av v)
  | .const c, v => cst c = some v
  | .func f, v => v = .one (.fn f [])
  | .global _, _ => False
theorem ps_opd {x : Operand} {k : AV Γ.α → Prog Γ.α} : PS O s (opd x k) ws ↔ ∃ v, Opv s x v ∧ PS O s (k v) ws := by
  cases x with
  | tmp t =>
    simp only [opd, ps_rd, Opv]
    constructor
    · rintro ⟨v, h1, h2⟩
      cases v with
      | av v => exact ⟨v, h1, h2⟩
      | _ => exact (ps_fail.1 h2).elim
    · rintro ⟨v, h1, h2⟩; exact ⟨.av v, h1, h2⟩
  | const c => simp only [opd, ps_need, Opv]
  | global g => simp [opd, ps_fail, Opv]
  | func f => simp [opd, Opv]
inductive All2 {β γ : Type} (p : β → γ → Prop) : List β → List γ → Prop where
  | nil : All2 p [] []
  | cons {x y xs ys} (h : p x y) (t : All2 p xs ys) : All2 p (x :: xs) (y :: ys)
theorem ps_opds {k : List (AV Γ.α) → Prog Γ.α} : ∀ {xs : List Operand}, PS O s (opds xs k) ws ↔ ∃ vs, All2 (Opv s) xs vs ∧ PS O s (k vs) ws := by
  intro xs
  induction xs generalizing k with
  | nil => simp only [opds]; exact ⟨fun h => ⟨[], .nil, h⟩, fun ⟨vs, h, h'⟩ => by cases h; exact h'⟩
  | cons x xs ih =>
    simp only [opds, ps_opd]
    constructor
    · rintro ⟨v, h1, h2⟩
      obtain ⟨vs, h3, h4⟩ := ih.1 h2
      exact ⟨v :: vs, .cons h1 h3, h4⟩
    · rintro ⟨vs, h, h'⟩
      cases h with
      | cons h1 h2 => exact ⟨_, h1, ih.2 ⟨_, h2, h'⟩⟩

variable {w0 : World} {Bp : Nat → Nat → Prop} {F0 : Nat → Prop} {nt : Nat} {a : Act} {w : World} {m : Places} {F : Nat → Prop}
theorem cst_rel {v : Value} {x : AV Γ.α} (h : cst v = some x) : RAV m F w x v := by
  unfold cst at h
  split at h
  · cases h; exact RLf.int _ _
  · cases h; exact RLf.bool _
  · cases h; exact RLf.str _
  · cases h; exact RLf.nil
  · cases h; exact RLf.nilp
  · cases h
theorem Rm.opv {x : Operand} {v : AV Γ.α} (h : Rm Γ w0 Bp F0 nt s a w m F) (hx : Opv s x v) : RAV m F w v (a.eval x) := by
  cases x with
  | tmp t => exact h.tmp t v hx
  | const c => exact cst_rel hx
  | global g => exact hx.elim
  | func f => cases hx; exact RLf.fn f
def R (Γ : Reg) (w0 : World) (Bp : Nat → Nat → Prop) (F0 : Nat → Prop) (nt : Nat) (s : St Γ.α) (a : Act) (w : World) : Prop := ∃ m F, Rm Γ w0 Bp F0 nt s a w m F

section
variable {P : Program} {o : Oper} {K : Act → World → Prop} {Q : Exit → Act → World → Prop} {ws : List (Key × Option (Val Γ.α))}
theorem wp_val {u : Value} {w' : World} (hr : (execOp a.eval o).run P w = .ok (.value u) w') (h : K (a.put o.dst u) w') : o.wp P a w K Q := by
  unfold Oper.wp; rw [hr]; exact h
theorem out_sim {v : AV Γ.α} {u : Value} (hm : Rm Γ w0 Bp F0 nt s a w m F) (hd : ∀ d, o.dst = some d → d < nt) (hps : PS O s (out o.dst v) ws) (hv : RAV m F w v u)
    (hK : ∀ a' w', R Γ w0 Bp F0 nt (wr s ws) a' w' → K a' w') : K (a.put o.dst u) w := by
  cases hdst : o.dst with
  | none => rw [hdst] at hps; exact (ps_fail.1 hps).elim
  | some d =>
    rw [hdst] at hps
    have := ps_done.1 hps
    subst this
    exact hK _ _ ⟨m, F, hm.put (hd d hdst) hv⟩
theorem isAgg_run {t : TypeId} {ti : TI} (h : TIok P t ti) (w : World) : (isAgg t).run P w = .ok ti.agg w := by
  have hs := h.sh
  unfold TI.agg
  cases hsh : ti.sh with
  | struct fs =>
    rw [hsh] at hs
    obtain ⟨fields, h1, _⟩ := hs
    simp [isAgg, run_underlying h1]
  | other => rw [hsh] at hs; exact hs.elim
  | int k => rw [hsh] at hs; simp [isAgg, run_underlying (show P.underlying t = _ from hs)]
  | bool => rw [hsh] at hs; simp [isAgg, run_underlying (show P.underlying t = _ from hs)]
  | str => rw [hsh] at hs; simp [isAgg, run_underlying (show P.underlying t = _ from hs)]
  | slice e => rw [hsh] at hs; simp [isAgg, run_underlying (show P.underlying t = _ from hs)]
  | ptr e => rw [hsh] at hs; simp [isAgg, run_underlying (show P.underlying t = _ from hs)]
theorem sizeOf_run {t : TypeId} {ti : TI} (h : TIok P t ti) (w : World) : (sizeOf t).run P w = .ok ti.size w := by
  obtain ⟨i, h1, h2, _⟩ := h.info
  simp [sizeOf, typeInfo, program, Sem.run, h1, h2]
/-- a variable's value out of its cells -/
def valOf (agg : Bool) (vals : List Value) : Value := match agg with | true => .agg vals.toArray | false => vals.getD 0 undef
theorem loadVar_run {t : TypeId} {ti : TI} (h : TIok P t ti) (w : World) (ad : Addr) (vals : List Value) (hl : vals.length = ti.size) (hc : ∀ (k : Nat) u, vals[k]? = some u → w.cell? (ad.add k) = some u) :
    (loadVar t ad).run P w = .ok (valOf ti.agg vals) w := by
  unfold loadVar
  simp only [Sem.run_bind, isAgg_run h, Result.andThen_ok]
  cases hg : ti.agg with
  | true =>
    simp only [if_true, Sem.run_bind, sizeOf_run h, Result.andThen_ok, ← hl, run_loadCells_list w ad vals hc, valOf, Sem.run_pure]
  | false =>
    have h1 := h.one hg
    rw [← hl] at h1
    obtain ⟨u, rfl⟩ := List.length_eq_one_iff.1 h1
    have := hc 0 u rfl
    rw [show ad.add 0 = ad from by simp [Addr.add]] at this
    simp [valOf, this]
theorem RC.of {agg : Bool} {cs : List (Lf Γ.α)} {vals : List Value} (h : RLs m F w cs vals) (h1 : agg = false → cs.length = 1) : RC m F w agg cs (valOf agg vals) := by
  cases agg with
  | true => exact ⟨vals, rfl, h⟩
  | false =>
    obtain ⟨l, rfl⟩ := List.length_eq_one_iff.1 (h1 rfl)
    obtain ⟨v, vs, rfl, h2, h3⟩ := h.inv
    exact ⟨l, rfl, h2⟩
theorem sim_move (x : Operand) (ho : o.op = .move x ∨ o.op = .assign x) (hm : Rm Γ w0 Bp F0 nt s a w m F) (hd : ∀ d, o.dst = some d → d < nt) (hps : PS O s (opd x (out o.dst)) ws)
    (hK : ∀ a' w', R Γ w0 Bp F0 nt (wr s ws) a' w' → K a' w') : o.wp P a w K Q := by
  obtain ⟨v, h1, h2⟩ := ps_opd.1 hps
  refine wp_val (u := a.eval x) (w' := w) ?_ (out_sim hm hd h2 (hm.opv h1) hK)
  rcases ho with ho | ho <;> simp [execOp, ho]
theorem sim_pick {sg : FuncId → Option Sig} (c x y : Operand) (ho : o.op = .pick c x y) (hm : Rm Γ w0 Bp F0 nt s a w m F) (hd : ∀ d, o.dst = some d → d < nt)
    (hps : PS O s (opProg Γ sg o) ws) (hK : ∀ a' w', R Γ w0 Bp F0 nt (wr s ws) a' w' → K a' w') : o.wp P a w K Q := by
  simp only [opProg, ho] at hps
  obtain ⟨v, h1, h2⟩ := ps_opd.1 hps
  have hr := hm.opv h1
  split at h2
  · rename_i t
    generalize hev : a.eval c = u at hr
    cases hr
    rcases ps_br.1 h2 with ⟨rfl, h3⟩ | ⟨rfl, h3⟩
    · obtain ⟨v', h4, h5⟩ := ps_opd.1 h3
      refine wp_val (u := a.eval x) (w' := w) ?_ (out_sim hm hd h5 (hm.opv h4) hK)
      simp [execOp, ho, hev, asBool]
    · obtain ⟨v', h4, h5⟩ := ps_opd.1 h3
      refine wp_val (u := a.eval y) (w' := w) ?_ (out_sim hm hd h5 (hm.opv h4) hK)
      simp [execOp, ho, hev, asBool]
  · exact (ps_fail.1 h2).elim
/-- a new variable -/
theorem newVar_sim {d : Nat} {cs : List (Lf Γ.α)} {vals : List Value} {t : TypeId} (hm : Rm Γ w0 Bp F0 nt s a w m F) (hd : d < nt) (hps : PS O s (newVar d cs) ws) (hr : RLs m F w cs vals)
    (hK : ∀ a' w', R Γ w0 Bp F0 nt (wr s ws) a' w' → K a' w') : K (a.put (some d) (.pointer (some ⟨w.heap.size, 0, none⟩))) (w.alloc (.cells vals.toArray t)) := by
  obtain ⟨h1, h2⟩ := ps_no.1 hps
  have := ps_done.1 h2
  subst this
  have hc := Ch.alloc (fun _ => False) w (.cells vals.toArray t)
  have hm1 := hm.world hc (by simp) (by simp) (by simp) (by simp) (by simp)
  have hheap := heap_alloc_new w (.cells vals.toArray t)
  have hnew : ∀ id, ¬ Owns s m id w.heap.size := fun id ho => by have := (hm.ours id _ ho).2.2; omega
  have hm2 := hm1.name (hq := fun _ _ _ _ h => by cases h) (d := d) (k := cs.length) (p := .box w.heap.size cs.length) h1 (Nat.lt_of_lt_of_le hd hm.fix.1) (fun b n hp => by
    simp only [Place.box.injEq] at hp
    obtain ⟨rfl, rfl⟩ := hp
    exact ⟨rfl, fun hf => by have := hm.f2 _ hf; omega, .inl hm.fr.size, ⟨_, _, hheap, by simp [hr.1]⟩, hnew⟩) (fun b n hp => by cases hp; exact hm.freshCB hm.fr.size)
  have hmono := setPl_mono (p := .box w.heap.size cs.length) (hm.free d h1)
  have hr' : RLs (setPl m d (.box w.heap.size cs.length)) F (w.alloc (.cells vals.toArray t)) cs vals := hr.mono hmono (fun _ x => x) (fun ad hf => hc.cell (hm.f2 _ hf) (by simp))
  have hm3 := Rm.cells (setPl_same m d _) cs vals 0 _ hm2 (by omega) (fun k v hk => by
    have : (w.alloc (.cells vals.toArray t)).cell? ⟨w.heap.size, k, none⟩ = vals[k]? := by
      simp only [World.cell?, hheap]
      simp
    rw [Nat.zero_add, this]; exact hk) hr'
  refine hK _ _ ⟨setPl m d (.box w.heap.size cs.length), F, ?_⟩
  have := hm3.put (d := d) (v := .one (.ptr d 0)) (u := .pointer (some ⟨w.heap.size, 0, none⟩)) hd (RLf.ptr d 0 _ _ (setPl_same m d _))
  simpa [wr, wr_append] using this
theorem zero_rel (zs : List Z) : RLs m F w (zs.map (Z.lf (α := Γ.α))) (zs.map Zval) := by
  induction zs with
  | nil => exact .nil
  | cons z zs ih => exact .cons (by cases z <;> first | exact .int _ _ | exact .bool _ | exact .str _ | exact .nil) ih
theorem run_newRow' (t : TypeId) (C : Array Value) (w : World) : (Go.newRow t C).run P w = .ok ⟨w.heap.size, 0, none⟩ (w.alloc (.cells C t)) := rfl
theorem info_run {t : TypeId} {i : TypeInfo} (h : P.info? t = some i) (w : World) : (typeInfo t).run P w = .ok i w := by simp [typeInfo, program, Sem.run, h]
theorem zero_run {t : TypeId} {i : TypeInfo} {z : Value} (h : P.info? t = some i) (hz : i.zero = some z) (w : World) : (zeroValue t).run P w = .ok z w := by simp [zeroValue, info_run h, hz]
theorem sim_alloc (hΓ : Γ.Ok P) (t : TypeId) (ho : o.op = .alloc t) (hm : Rm Γ w0 Bp F0 nt s a w m F) (hd : ∀ d, o.dst = some d → d < nt)
    (hps : PS O s (.need o.dst fun d => .need (Γ.ti t) fun ti => newVar d (ti.zero.map Z.lf)) ws) (hK : ∀ a' w', R Γ w0 Bp F0 nt (wr s ws) a' w' → K a' w') : o.wp P a w K Q := by
  obtain ⟨d, h1, h2⟩ := ps_need.1 hps
  obtain ⟨ti, h3, h4⟩ := ps_need.1 h2
  obtain ⟨i, e1, e2, e3, z, e4, e5⟩ := (hΓ.ti t ti h3).info
  have := newVar_sim (K := K) (t := t) hm (hd d h1) h4 (zero_rel (m := m) (F := F) (w := w) ti.zero) hK
  refine wp_val (u := .pointer (some ⟨w.heap.size, 0, none⟩)) (w' := w.alloc (.cells (ti.zero.map Zval).toArray t)) ?_ (by rw [h1]; exact this)
  rw [← e5]
  simp [execOp, ho, Instr.alloc, zero_run e1 e4, Go.newVar, run_newRow']
theorem sim_box (t : TypeId) (x : Operand) (ho : o.op = .box t x) (hm : Rm Γ w0 Bp F0 nt s a w m F) (hd : ∀ d, o.dst = some d → d < nt)
    (hps : PS O s (.need o.dst fun d => opd x fun v => .need v.cells fun cs => newVar d cs) ws) (hK : ∀ a' w', R Γ w0 Bp F0 nt (wr s ws) a' w' → K a' w') : o.wp P a w K Q := by
  obtain ⟨d, h1, h2⟩ := ps_need.1 hps
  obtain ⟨v, h3, h4⟩ := ps_opd.1 h2
  obtain ⟨cs, h5, h6⟩ := ps_need.1 h4
  have := newVar_sim (K := K) (t := t) hm (hd d h1) h6 ((hm.opv h3).cells h5) hK
  refine wp_val (u := .pointer (some ⟨w.heap.size, 0, none⟩)) (w' := w.alloc (.cells (a.eval x).cells t)) ?_ (by rw [h1]; simpa using this)
  simp [execOp, ho, Instr.box, Go.newVar, run_newRow']
end

section
variable {P : Program} {o : Oper} {K : Act → World → Prop} {Q : Exit → Act → World → Prop} {ws : List (Key × Option (Val Γ.α))}
theorem ps_bif {c : Bool} {p : Prog Γ.α} (h : PS O s (cond c p .fail) ws) : c = true ∧ PS O s p ws := by
  cases c with
  | true => exact ⟨rfl, h⟩
  | false => exact (ps_fail.1 h).elim
theorem ps_rdCells {id : Nat} {k : List (Lf Γ.α) → Prog Γ.α} : ∀ {n off : Nat}, PS O s (rdCells id off n k) ws ↔ ∃ ls : List (Lf Γ.α), ls.length = n ∧ (∀ (j : Nat) l, ls[j]? = some l → s.get (.cell id (off + j)) = some (.lf l)) ∧ PS O s (k ls) ws := by
  intro n
  induction n generalizing k with
  | zero => intro off; simp only [rdCells]; exact ⟨fun h => ⟨[], rfl, by simp, h⟩, fun ⟨ls, h1, _, h3⟩ => by rw [List.length_eq_zero_iff.1 h1] at h3; exact h3⟩
  | succ n ih =>
    intro off
    simp only [rdCells, ps_rd]
    constructor
    · rintro ⟨v, h1, h2⟩
      cases v with
      | lf l =>
        obtain ⟨ls, a1, a2, a3⟩ := ih.1 h2
        exact ⟨l :: ls, by simp [a1], fun j l' hj => by
          cases j with
          | zero => simp at hj; subst hj; exact h1
          | succ j => simp at hj; have := a2 j l' hj; rwa [show off + 1 + j = off + (j + 1) by omega] at this, a3⟩
      | _ => exact (ps_fail.1 h2).elim
    · rintro ⟨ls, h1, h2, h3⟩
      cases ls with
      | nil => simp at h1
      | cons l ls => exact ⟨.lf l, by simpa using h2 0 l rfl, ih.2 ⟨ls, by simpa using h1, fun j l' hj => by have := h2 (j + 1) l' (by simpa using hj); rwa [show off + (j + 1) = off + 1 + j by omega] at this, h3⟩⟩
theorem add_lit (b p k : Nat) : (⟨b, p, none⟩ : Addr).add k = ⟨b, p + k, none⟩ := by unfold Addr.add; split <;> simp_all
/-- the cells of a variable, as they are read -/
theorem Rm.boxCells {id off b n : Nat} {ls : List (Lf Γ.α)} (h : Rm Γ w0 Bp F0 nt s a w m F) (hm : m id = some (.box b n)) (hl : ∀ (j : Nat) l, ls[j]? = some l → s.get (.cell id (off + j)) = some (.lf l)) :
    ∃ vals : List Value, RLs m F w ls vals ∧ ∀ (k : Nat) u, vals[k]? = some u → w.cell? ⟨b, off + k, none⟩ = some u := by
  induction ls generalizing off with
  | nil => exact ⟨[], .nil, by simp⟩
  | cons l ls ih =>
    obtain ⟨b', n', v, h1, h2, h3, h4⟩ := h.cell id off l (by simpa using hl 0 l rfl)
    rw [hm] at h1
    cases h1
    obtain ⟨vals, a1, a2⟩ := ih (off := off + 1) (fun j l' hj => by have := hl (j + 1) l' (by simpa using hj); rwa [show off + (j + 1) = off + 1 + j by omega] at this)
    refine ⟨v :: vals, .cons h4 a1, fun k u hk => ?_⟩
    cases k with
    | zero => simp at hk; subst hk; exact h3
    | succ k => simp at hk; have := a2 k u hk; rwa [show off + 1 + k = off + (k + 1) by omega] at this
theorem flat_length (hΓ : Γ.Ok P) (e : TypeId) (xs : List (Γ.α e)) : (flat Γ e xs).length = xs.length * Γ.sz e := by
  induction xs with
  | nil => simp [flat]
  | cons x xs ih => simp only [flat, List.flatMap_cons, List.length_append, hΓ.len, List.length_cons]; simp only [flat] at ih; rw [ih, Nat.add_mul]; omega
theorem flat_elem (hΓ : Γ.Ok P) (e : TypeId) (d : Γ.α e) : ∀ (xs : List (Γ.α e)) (i : Nat), i < xs.length → ((flat Γ e xs).drop (i * Γ.sz e)).take (Γ.sz e) = Γ.pk e (rd xs i d)
  | x :: xs, 0, _ => by simp only [flat, List.flatMap_cons, Nat.zero_mul, List.drop_zero]; rw [← hΓ.len e x, List.take_left]; rfl
  | x :: xs, i + 1, h => by
    have ih := flat_elem hΓ e d xs i (by simpa using h)
    simp only [flat, List.flatMap_cons]
    rw [show (i + 1) * Γ.sz e = (Γ.pk e x).length + i * Γ.sz e by rw [hΓ.len, Nat.add_mul]; omega, ← List.drop_drop, List.drop_left]
    exact ih
/-- a piece of an element -/
theorem elem_piece (hΓ : Γ.Ok P) {e : TypeId} {d : Γ.α e} {xs : List (Γ.α e)} {i off k : Nat} {vals : List Value} (hi : i < xs.length) (h : RLs m F w (flat Γ e xs) vals) (hk : (((Γ.pk e (rd xs i d)).drop off).take k).length = k) :
    RLs m F w (((Γ.pk e (rd xs i d)).drop off).take k) ((vals.drop (i * Γ.sz e + off)).take k) := by
  have h1 := (((h.drop (i * Γ.sz e)).take (Γ.sz e)).drop off).take k
  rw [flat_elem hΓ e d xs i hi] at h1
  have hle : k ≤ Γ.sz e - off := by
    have : (((Γ.pk e (rd xs i d)).drop off).take k).length ≤ (Γ.pk e (rd xs i d)).length - off := by simp only [List.length_take, List.length_drop]; omega
    rw [hk, hΓ.len] at this; exact this
  have e1 : (((vals.drop (i * Γ.sz e)).take (Γ.sz e)).drop off).take k = (vals.drop (i * Γ.sz e + off)).take k := by
    rw [List.drop_take, List.take_take, List.drop_drop, Nat.min_eq_left hle]
  rw [e1] at h1
  exact h1
theorem load_fin {t : TypeId} {x : Operand} {ti : TI} {ad : Addr} {vals : List Value} {cs : List (Lf Γ.α)} (hti : TIok P t ti) (ho : o.op = .load t x) (hx : a.eval x = .pointer (some ad)) (hl : vals.length = ti.size)
    (hc : ∀ (k : Nat) u, vals[k]? = some u → w.cell? (ad.add k) = some u) (hr : RLs m F w cs vals) (hm : Rm Γ w0 Bp F0 nt s a w m F) (hd : ∀ d, o.dst = some d → d < nt) (hps : PS O s (out o.dst (mkAV ti.agg cs)) ws)
    (hK : ∀ a' w', R Γ w0 Bp F0 nt (wr s ws) a' w' → K a' w') : o.wp P a w K Q := by
  refine wp_val (u := valOf ti.agg vals) (w' := w) ?_ (out_sim hm hd hps (RC.mk (RC.of hr (fun hg => by rw [hr.1, hl]; exact hti.one hg))) hK)
  simp [execOp, ho, Instr.loadAt, hx, Instr.sureAddr, loadVar_run hti w ad vals hl hc]
theorem sim_load (hΓ : Γ.Ok P) {sg : FuncId → Option Sig} (t : TypeId) (x : Operand) (ho : o.op = .load t x) (hm : Rm Γ w0 Bp F0 nt s a w m F) (hd : ∀ d, o.dst = some d → d < nt)
    (hps : PS O s (opProg Γ sg o) ws) (hK : ∀ a' w', R Γ w0 Bp F0 nt (wr s ws) a' w' → K a' w') : o.wp P a w K Q := by
  simp only [opProg, ho] at hps
  obtain ⟨ti, h1, h2⟩ := ps_need.1 hps
  have hti := hΓ.ti t ti h1
  obtain ⟨v, h3, h4⟩ := ps_opd.1 h2
  have hr := hm.opv h3
  generalize hev : a.eval x = u at hr
  split at h4
  · rename_i id off
    cases hr with
    | ptr _ _ b n hb =>
      obtain ⟨ls, a1, a2, a3⟩ := ps_rdCells.1 h4
      obtain ⟨vals, b1, b2⟩ := hm.boxCells hb a2
      exact load_fin hti ho hev (by rw [← b1.1, a1]) (fun k u hk => by rw [add_lit]; exact b2 k u hk) b1 hm hd a3 hK
  · rename_i e xs i off
    rw [forceL_eq] at h4
    obtain ⟨hlen, h4⟩ := ps_bif h4
    cases hr with
    | fptr _ _ _ _ ad vals hl hi hF hc hrel =>
      have hlen' := Nat.eq_of_beq_eq_true hlen
      have hp := elem_piece (d := Γ.dft e) hΓ hi ⟨by rw [flat_length hΓ, hl], hrel⟩ (by rw [hlen'])
      exact load_fin hti ho hev (by rw [← hp.1, hlen']) (fun k u hk => by
        rw [List.getElem?_take] at hk
        split at hk
        · rw [List.getElem?_drop] at hk
          rw [Addr.add_add]
          exact hc _ u hk
        · cases hk) hp hm hd h4 hK
  · rename_i id i off
    obtain ⟨v, h5, h6⟩ := ps_rd.1 h4
    split at h6
    · rename_i e xs
      rw [forceL_eq] at h6
      obtain ⟨hlen, h6⟩ := ps_bif h6
      cases hr with
      | eptr _ _ _ b n cap sz hb hi =>
        obtain ⟨o', cap', vals, e1, e2, e3, _⟩ := hm.row id e xs h5
        rw [hb] at e1
        simp only [Option.some.injEq, Place.row.injEq] at e1
        obtain ⟨rfl, rfl, rfl, rfl⟩ := e1
        have hlen' := Nat.eq_of_beq_eq_true hlen
        have hp := elem_piece (d := Γ.dft e) hΓ hi e3 (by rw [hlen'])
        exact load_fin hti ho hev (by rw [← hp.1, hlen']) (fun k u hk => by
          rw [List.getElem?_take] at hk
          split at hk
          · rw [List.getElem?_drop] at hk
            have := e2.cells (g := b) (by simp [sliceV, Value.ownBlock]) _ u hk
            rw [add_lit] at this ⊢
            rw [Nat.zero_add] at this
            exact this
          · cases hk) hp hm hd h6 hK
    · exact (ps_fail.1 h6).elim
  · exact (ps_fail.1 h4).elim
end

section
variable {P : Program} {o : Oper} {K : Act → World → Prop} {Q : Exit → Act → World → Prop} {ws : List (Key × Option (Val Γ.α))}
theorem get_wrCells_other {id : Nat} {k : Key} (hk : ∀ j, k ≠ .cell id j) : ∀ (cs : List (Lf Γ.α)) (off : Nat) (s : St Γ.α), (wr s (wrCells id off cs)).get k = s.get k
  | [], _, _ => rfl
  | l :: cs, off, s => by
    simp only [wrCells, wr]
    rw [get_wrCells_other hk cs, St.get_cons, if_neg (fun e => hk off e.symm)]
theorem get_wrCells_out {id j : Nat} : ∀ (cs : List (Lf Γ.α)) (off : Nat) (s : St Γ.α), (j < off ∨ off + cs.length ≤ j) → (wr s (wrCells id off cs)).get (.cell id j) = s.get (.cell id j)
  | [], _, _, _ => rfl
  | l :: cs, off, s, h => by
    simp only [List.length_cons] at h
    simp only [wrCells, wr]
    rw [get_wrCells_out cs (off + 1) _ (by omega), St.get_cons, if_neg (by simp; omega)]
theorem get_wrCells_in {id : Nat} : ∀ (cs : List (Lf Γ.α)) (off j : Nat) (s : St Γ.α) (l : Lf Γ.α), cs[j]? = some l → (wr s (wrCells id off cs)).get (.cell id (off + j)) = some (.lf l)
  | l :: cs, off, 0, s, l', h => by
    simp at h; subst h
    simp only [wrCells, wr, Nat.add_zero]
    rw [get_wrCells_out cs (off + 1) _ (by omega), St.get_cons, if_pos rfl]
  | l :: cs, off, j + 1, s, l', h => by
    simp only [wrCells, wr]
    rw [show off + (j + 1) = off + 1 + j by omega]
    exact get_wrCells_in cs (off + 1) j _ l' (by simpa using h)
/-- an operation that hands nothing back -/
theorem wp_skip' {w' : World} (hr : (execOp a.eval o).run P w = .ok .skip w') (h : K (a.put o.dst undef) w') : o.wp P a w K Q := by
  unfold Oper.wp; rw [hr]; exact h
def dstPart {α : TypeId → Type} (d : Option Tmp) : List (Key × Option (Val α)) := match d with | some d => [(.tmp d, some (.av .undef))] | none => []
theorem Rm.dst {d : Option Tmp} (h : Rm Γ w0 Bp F0 nt s a w m F) (hd : ∀ d', d = some d' → d' < nt) : Rm Γ w0 Bp F0 nt (wr s (dstPart d)) (a.put d undef) w m F := by
  cases d with
  | none => exact h
  | some d => exact h.put (v := .undef) (hd d rfl) rfl
theorem setRow_ch (w : World) (b : Nat) (C : Array Value) : Ch (fun x => x = b) w (w.setRow b C) :=
  ⟨rfl, rfl, rfl, by simp [World.setRow], fun k _ hk => setRow_other w b k C hk⟩
theorem storeVar_run {t : TypeId} {ti : TI} (hti : TIok P t ti) {w : World} {b off : Nat} {C : Array Value} {ty : TypeId} {u : Value} (hg : w.heap[b]? = some (.cells C ty (0, 0))) (hl : u.cells.toList.length = ti.size) (hn : off + ti.size ≤ C.size) (h1 : ∀ v ∈ u.cells.toList, v.oneCell' = true) :
    (storeVar t ⟨b, off, none⟩ u).run P w = .ok () (w.setRow b (C.toList.take off ++ u.cells.toList ++ C.toList.drop (off + ti.size)).toArray) := by
  have hst := run_storeCells_at P b off ty u.cells.toList 0 C w hg (by omega) h1
  simp only [Nat.add_zero, hl] at hst
  have hs : u.cells.size = ti.size := by simpa using hl
  simp [storeVar, sizeOf_run hti, hs, hst]
theorem cstAny_get {id : Nat} : ∀ {n off : Nat}, cstAny id off n = false → ∀ k, off ≤ k → k < off + n → cbit id k = false
  | 0, _, _, _, _, _ => by omega
  | n + 1, off, h, k, h1, h2 => by
    simp only [cstAny, Bool.or_eq_false_iff] at h
    by_cases e : k = off
    · rw [e]; exact h.1
    · exact cstAny_get h.2 k (by omega) (by omega)
theorem sim_store_box (hΓ : Γ.Ok P) {t : TypeId} {x y : Operand} {ti : TI} {id off n : Nat} {v : AV Γ.α} {cs : List (Lf Γ.α)} (ho : o.op = .store t x y) (hti : TIok P t ti) (hm : Rm Γ w0 Bp F0 nt s a w m F) (hd : ∀ d, o.dst = some d → d < nt)
    (hx : Opv s x (.one (.ptr id off))) (hy : Opv s y v) (hcs : v.cells = some cs) (hlen : cs.length = ti.size) (hu : s.get (.used id) = some (.num n)) (hn : off + ti.size ≤ n) (hca : cstAny id off ti.size = false)
    (hK : ∀ a' w', R Γ w0 Bp F0 nt (wr s (wrCells id off cs ++ dstPart o.dst)) a' w' → K a' w') : o.wp P a w K Q := by
  have hr := hm.opv hx
  generalize hev : a.eval x = u at hr
  cases hr with
  | ptr _ _ b N hb =>
    obtain ⟨p, hp, hp2, _⟩ := hm.used id n hu
    rw [hb] at hp
    cases hp
    have hNn := hp2 b N rfl
    obtain ⟨hbb, C, ty, hg, hC⟩ := hm.box id b N hb
    have hrel := (hm.opv hy).cells hcs
    have hl : (a.eval y).cells.toList.length = ti.size := by rw [← hrel.1, hlen]
    have hrun := storeVar_run hti (b := b) (off := off) hg hl (by omega) hrel.oneCell
    refine wp_skip' (w' := w.setRow b (C.toList.take off ++ (a.eval y).cells.toList ++ C.toList.drop (off + ti.size)).toArray) ?_ ?_
    · simp [execOp, ho, Instr.storeAt, hev, Instr.sureAddr, hrun]
    · have hown : Owns s m id b := .inl ⟨N, hb⟩
      have hgn := setRow_heap w b C (C.toList.take off ++ (a.eval y).cells.toList ++ C.toList.drop (off + ti.size)).toArray ty (0, 0) hg
      have hcellAt : ∀ j, (w.setRow b (C.toList.take off ++ (a.eval y).cells.toList ++ C.toList.drop (off + ti.size)).toArray).cell? ⟨b, j, none⟩ = (C.toList.take off ++ (a.eval y).cells.toList ++ C.toList.drop (off + ti.size))[j]? := fun j =>
        (cell_setRow_same w b j C _ ty (0, 0) hg).trans (by simp only [List.getElem?_toArray])
      have htk : (C.toList.take off).length = off := by simp; omega
      have hm' := hm.touch (s' := wr s (wrCells id off cs)) (w' := w.setRow b (C.toList.take off ++ (a.eval y).cells.toList ++ C.toList.drop (off + ti.size)).toArray) hown (setRow_ch _ _ _)
        (fun k h1 _ => get_wrCells_other h1 cs off s)
        (fun n' hn' => ⟨_, ty, hgn, by rw [hb] at hn'; cases hn'; simp only [List.size_toArray, List.length_append, htk, hl, List.length_drop, Array.length_toList]; omega⟩)
        (fun off' l hl' => by
          by_cases hin : off ≤ off' ∧ off' < off + cs.length
          · have hj : off' - off < cs.length := by omega
            have e1 := get_wrCells_in cs off (off' - off) s cs[off' - off] (List.getElem?_eq_getElem hj) (id := id)
            rw [show off + (off' - off) = off' by omega, hl'] at e1
            simp only [Option.some.injEq, Val.lf.injEq] at e1
            subst e1
            obtain ⟨u, hu1, hu2⟩ := hrel.get (List.getElem?_eq_getElem hj)
            refine ⟨N, u, hb, by omega, ?_, hu2⟩
            rw [hcellAt, List.append_assoc, List.getElem?_append_right (by omega), htk, List.getElem?_append_left (by omega)]
            exact hu1
          · rw [get_wrCells_out cs off s (by omega)] at hl'
            obtain ⟨b', n', v', a1, a2, a3, a4⟩ := hm.cell id off' l hl'
            rw [hb] at a1
            cases a1
            refine ⟨N, v', hb, a2, ?_, a4⟩
            simp only [World.cell?, hg, Option.isSome_none, Bool.false_eq_true, if_false] at a3
            rw [hcellAt]
            have a3' : C.toList[off']? = some v' := by simpa using a3
            by_cases hlt : off' < off
            · rw [List.append_assoc, List.getElem?_append_left (by omega), List.getElem?_take_of_lt hlt]; exact a3'
            · rw [List.getElem?_append_right (by simp only [List.length_append, htk, hl]; omega)]
              simp only [List.length_append, htk, hl, List.getElem?_drop]
              rw [show off + ti.size + (off' - (off + ti.size)) = off' by omega]; exact a3')
        (fun e xs hx' => by
          rw [get_wrCells_other (by simp) cs off s] at hx'
          obtain ⟨_, _, _, h1, _⟩ := hm.row id e xs hx'
          rw [hb] at h1; cases h1)
        (fun n' _ off' hk => by
          have hout : ¬ (off ≤ off' ∧ off' < off + ti.size) := fun ⟨h1, h2⟩ => by rw [cstAny_get hca off' h1 h2] at hk; cases hk
          rw [hcellAt]
          have hcw : w.cell? ⟨b, off', none⟩ = C.toList[off']? := by
            simp only [World.cell?, hg, Option.isSome_none, Bool.false_eq_true, if_false]; simp
          rw [hcw]
          by_cases hlt : off' < off
          · rw [List.append_assoc, List.getElem?_append_left (by omega), List.getElem?_take_of_lt hlt]
          · rw [List.getElem?_append_right (by simp only [List.length_append, htk, hl]; omega)]
            simp only [List.length_append, htk, hl, List.getElem?_drop]
            rw [show off + ti.size + (off' - (off + ti.size)) = off' by omega])
      rw [wr_append] at hK
      exact hK _ _ ⟨m, F, hm'.dst hd⟩
end

section
variable {P : Program} {o : Oper} {K : Act → World → Prop} {Q : Exit → Act → World → Prop} {ws : List (Key × Option (Val Γ.α))}
/-- a row that is frozen, as a list -/
theorem own_to_sl (hΓ : Γ.Ok P) {id : Nat} {e : TypeId} {xs : List (Γ.α e)} {v : Value} {F' : Nat → Prop} (hm : Rm Γ w0 Bp F0 nt s a w m F) (hr : s.get (.row id) = some (.row e xs)) (hv : RLf m F w (.own id : Lf Γ.α) v)
    (hF : ∀ b, F b → F' b) (hb : ∀ b n cap sz, m id = some (.row (some b) n cap sz) → F' b) : RLf m F' w (.sl e xs) v := by
  obtain ⟨o, cap, vals, h1, h2, h3, h4⟩ := hm.row id e xs hr
  cases hv with
  | own _ o' n' cap' sz' h =>
    rw [h1] at h
    simp only [Option.some.injEq, Place.row.injEq] at h
    obtain ⟨rfl, rfl, rfl, rfl⟩ := h
    have hcap : xs.length ≤ cap := by
      rcases h2.2 with ⟨hn, h0⟩ | ⟨g, cap', cur, hv, _, _, hc, _⟩
      · omega
      · simp [sliceV] at hv; omega
    have h3' := h3.mono (m' := m) (F' := F') (w' := w) (fun _ _ e => e) hF (fun _ _ => rfl)
    refine .sl e xs _ cap vals h2.1 hcap (fun k u hk => ?_) h3'.2
    cases o with
    | none =>
      rcases h2.2 with ⟨hn, h0⟩ | ⟨g, cap', cur, hv, _⟩
      · have : vals = [] := List.eq_nil_of_length_eq_zero (by rw [h2.1, h0, Nat.zero_mul])
        subst this; simp at hk
      · simp [sliceV] at hv
    | some b => exact ⟨⟨b, 0, none⟩, rfl, hb b _ _ _ h1, h2.cells (g := b) (by simp [sliceV, Value.ownBlock]) k u hk⟩
def plain' {α : TypeId → Type} : Lf α → Prop
  | .int .. => True | .bool _ => True | .str _ => True | .sl .. => True | .nil => True | _ => False
theorem plain'_cons {l : Lf Γ.α} {ls : List (Lf Γ.α)} (h : plain' l) (h' : ∀ l ∈ ls, plain' l) : ∀ x ∈ l :: ls, plain' x := by
  intro x hx
  rcases List.mem_cons.1 hx with rfl | hx
  · exact h
  · exact h' x hx
/-- leaves, closed and frozen -/
theorem close_true (hΓ : Γ.Ok P) {k : List (Lf Γ.α) → List (Key × Option (Val Γ.α)) → Prog Γ.α} : ∀ {ls : List (Lf Γ.α)} {vals : List Value} {s2 : St Γ.α} {F : Nat → Prop}, Rm Γ w0 Bp F0 nt s2 a w m F → (∀ id, s2.get (.row id) = s.get (.row id)) → PS O s (closeLf true ls k) ws → RLs m F w ls vals →
    ∃ cs wz F', PS O s (k cs wz) ws ∧ Rm Γ w0 Bp F0 nt (wr s2 wz) a w m F' ∧ (∀ b, F b → F' b) ∧ RLs m F' w cs vals ∧ (∀ key, (∀ id, key ≠ .mut id) → (wr s2 wz).get key = s2.get key) ∧ ∀ l ∈ cs, plain' l := by
  intro ls
  induction ls generalizing k with
  | nil =>
    intro vals s2 F hm _ hps hr
    exact ⟨[], [], F, hps, hm, fun _ x => x, hr, fun _ _ => rfl, by simp⟩
  | cons l ls ih =>
    intro vals s2 F hm hs hps hr
    obtain ⟨v, vs, rfl, h1, h2⟩ := hr.inv
    have plainCase : ∀ l', plain' l' → (∀ F' : Nat → Prop, (∀ b, F b → F' b) → RLf m F' w l' v) → PS O s (closeLf true ls fun cs ws => k (l' :: cs) ws) ws → ∃ cs wz F', PS O s (k cs wz) ws ∧ Rm Γ w0 Bp F0 nt (wr s2 wz) a w m F' ∧ (∀ b, F b → F' b) ∧ RLs m F' w cs (v :: vs) ∧ (∀ key, (∀ id, key ≠ .mut id) → (wr s2 wz).get key = s2.get key) ∧ ∀ l ∈ cs, plain' l := by
      intro l' hpl hl' hp
      obtain ⟨cs, wz, F', a1, a2, a3, a4, a5, a6⟩ := ih hm hs hp h2
      exact ⟨l' :: cs, wz, F', a1, a2, a3, .cons (hl' F' a3) a4, a5, plain'_cons hpl a6⟩
    cases l with
    | int j n => exact plainCase _ (by exact trivial) (fun F' _ => h1.mono (fun _ _ e => e) (by assumption) (fun _ _ => rfl)) hps
    | bool b => exact plainCase _ (by exact trivial) (fun F' _ => h1.mono (fun _ _ e => e) (by assumption) (fun _ _ => rfl)) hps
    | str b => exact plainCase _ (by exact trivial) (fun F' _ => h1.mono (fun _ _ e => e) (by assumption) (fun _ _ => rfl)) hps
    | nil => exact plainCase _ (by exact trivial) (fun F' _ => h1.mono (fun _ _ e => e) (by assumption) (fun _ _ => rfl)) hps
    | sl e xs => exact plainCase _ (by exact trivial) (fun F' _ => h1.mono (fun _ _ e => e) (by assumption) (fun _ _ => rfl)) hps
    | own id =>
      simp only [closeLf] at hps
      obtain ⟨x, g1, g2⟩ := ps_rd.1 hps
      split at g2
      · rename_i e xs
        simp only [cond_true] at g2
        have hrow : s2.get (.row id) = some (.row e xs) := by rw [hs]; exact g1
        have hfz := hm.freeze ⟨e, xs, hrow⟩
        have hs' : ∀ id', St.get ((.mut id, none) :: s2) (.row id') = s.get (.row id') := fun id' => by rw [St.get_cons, if_neg (by simp)]; exact hs id'
        obtain ⟨cs, wz, F', a1, a2, a3, a4, a5, a6⟩ := ih (k := fun cs ws => k (.sl e xs :: cs) ((.mut id, none) :: ws)) hfz hs' g2 (h2.mono (fun _ _ e => e) (fun _ => .inl) (fun _ _ => rfl))
        refine ⟨.sl e xs :: cs, (.mut id, none) :: wz, F', a1, a2, fun b hb => a3 b (.inl hb), .cons ?_ a4, fun key hk => ?_, plain'_cons trivial a6⟩
        · exact own_to_sl hΓ hm hrow h1 (fun b hb => a3 b (.inl hb)) (fun b n cap sz hb => a3 b (.inr ⟨n, cap, sz, hb⟩))
        · rw [show wr s2 ((Key.mut id, none) :: wz) = wr ((Key.mut id, none) :: s2) wz from rfl, a5 key hk, St.get_cons, if_neg (fun e => hk id e.symm)]
      · exact (ps_fail.1 g2).elim
    | ptr id off => exact (ps_fail.1 hps).elim
    | eptr id i off => exact (ps_fail.1 hps).elim
    | fptr e xs i off => exact (ps_fail.1 hps).elim
    | fn f cap => exact (ps_fail.1 hps).elim
    | nilp => exact (ps_fail.1 hps).elim
/-- the rows that a state tells of -/
def Rows' (s : St Γ.α) (m : Places) (b : Nat) : Prop := ∃ id e xs n cap sz, s.get (.row id) = some (.row e xs) ∧ m id = some (.row (some b) n cap sz)
/-- leaves, closed for the time of a call -/
theorem close_false (hΓ : Γ.Ok P) {k : List (Lf Γ.α) → List (Key × Option (Val Γ.α)) → Prog Γ.α} (hm : Rm Γ w0 Bp F0 nt s a w m F) : ∀ {ls : List (Lf Γ.α)} {vals : List Value}, PS O s (closeLf false ls k) ws → RLs m F w ls vals →
    ∃ cs, PS O s (k cs []) ws ∧ RLs m (fun b => F b ∨ Rows' s m b) w cs vals ∧ ∀ l ∈ cs, plain' l := by
  intro ls
  induction ls generalizing k with
  | nil => intro vals hps hr; exact ⟨[], hps, hr.mono (fun _ _ e => e) (fun _ => .inl) (fun _ _ => rfl), by simp⟩
  | cons l ls ih =>
    intro vals hps hr
    obtain ⟨v, vs, rfl, h1, h2⟩ := hr.inv
    have plainCase : ∀ l', plain' l' → RLf m (fun b => F b ∨ Rows' s m b) w l' v → PS O s (closeLf false ls fun cs ws => k (l' :: cs) ws) ws → ∃ cs, PS O s (k cs []) ws ∧ RLs m (fun b => F b ∨ Rows' s m b) w cs (v :: vs) ∧ ∀ l ∈ cs, plain' l := by
      intro l' hpl hl' hp
      obtain ⟨cs, a1, a2, a3⟩ := ih hp h2
      exact ⟨l' :: cs, a1, .cons hl' a2, plain'_cons hpl a3⟩
    have h1' := h1.mono (m' := m) (F' := fun b => F b ∨ Rows' s m b) (w' := w) (fun _ _ e => e) (fun _ => .inl) (fun _ _ => rfl)
    cases l with
    | int j n => exact plainCase _ (by exact trivial) h1' hps
    | bool b => exact plainCase _ (by exact trivial) h1' hps
    | str b => exact plainCase _ (by exact trivial) h1' hps
    | nil => exact plainCase _ (by exact trivial) h1' hps
    | sl e xs => exact plainCase _ (by exact trivial) h1' hps
    | own id =>
      simp only [closeLf] at hps
      obtain ⟨x, g1, g2⟩ := ps_rd.1 hps
      split at g2
      · rename_i e xs
        simp only [cond_false] at g2
        exact plainCase _ (by exact trivial) (own_to_sl hΓ hm g1 h1 (fun _ => .inl) (fun b n cap sz hb => .inr ⟨id, e, xs, n, cap, sz, g1, hb⟩)) g2
      · exact (ps_fail.1 g2).elim
    | ptr id off => exact (ps_fail.1 hps).elim
    | eptr id i off => exact (ps_fail.1 hps).elim
    | fptr e xs i off => exact (ps_fail.1 hps).elim
    | fn f cap => exact (ps_fail.1 hps).elim
    | nilp => exact (ps_fail.1 hps).elim

theorem RLs.le {ls ls' : List (Lf Γ.α)} {vals : List Value} (h : RLs m F w ls vals) (hl : ls.length = ls'.length) (hle : ∀ (k : Nat) l l', ls[k]? = some l → ls'[k]? = some l' → Lf.le l l') : RLs m F w ls' vals :=
  ⟨by rw [← hl, h.1], fun k l' v h1 h2 => by
    have hk : k < ls.length := by rw [hl]; exact (List.getElem?_eq_some_iff.1 h1).1
    exact (h.2 k _ v (List.getElem?_eq_getElem hk) h2).le (hle k _ _ (List.getElem?_eq_getElem hk) h1)⟩
theorem putAt_rel {ls cs : List (Lf Γ.α)} {vals us : List Value} {off : Nat} (h : RLs m F w ls vals) (h' : RLs m F w cs us) : RLs m F w (putAt ls off cs) (putAt vals off us) := by
  unfold putAt
  rw [← h'.1]
  exact ((h.take off).append h').append (h.drop _)
theorem flat_set (hΓ : Γ.Ok P) (e : TypeId) : ∀ (xs : List (Γ.α e)) (i : Nat) (x : Γ.α e), i < xs.length → flat Γ e (xs.set i x) = putAt (flat Γ e xs) (i * Γ.sz e) (Γ.pk e x)
  | y :: xs, 0, x, _ => by
    simp only [flat, putAt, List.set_cons_zero, List.flatMap_cons, Nat.zero_mul, List.take_zero, List.nil_append, Nat.zero_add]
    rw [hΓ.len e x, ← hΓ.len e y, List.drop_left]
  | y :: xs, i + 1, x, h => by
    have ih := flat_set hΓ e xs i x (by simpa using h)
    simp only [flat, putAt, List.set_cons_succ, List.flatMap_cons] at ih ⊢
    rw [ih, show (i + 1) * Γ.sz e = (Γ.pk e y).length + i * Γ.sz e by rw [hΓ.len, Nat.add_mul]; omega]
    rw [List.take_append, List.drop_append]
    simp only [List.append_assoc]
    rw [List.take_of_length_le (l := Γ.pk e y) (by omega), show (Γ.pk e y).length + i * Γ.sz e - (Γ.pk e y).length = i * Γ.sz e by omega, List.drop_of_length_le (l := Γ.pk e y) (by omega), show (Γ.pk e y).length + i * Γ.sz e + (Γ.pk e x).length - (Γ.pk e y).length = i * Γ.sz e + (Γ.pk e x).length by omega]
    simp
end

section
variable {P : Program} {o : Oper} {K : Act → World → Prop} {Q : Exit → Act → World → Prop} {ws : List (Key × Option (Val Γ.α))}
theorem putAt_length {β : Type} {l cs : List β} {off : Nat} (h : off + cs.length ≤ l.length) : (putAt l off cs).length = l.length := by
  simp only [putAt, List.length_append, List.length_take, List.length_drop]; omega
theorem putAt_putAt {β : Type} {l cs : List β} {p q k : Nat} (h : p + k ≤ l.length) (hq : q + cs.length ≤ k) : putAt l p (putAt ((l.drop p).take k) q cs) = putAt l (p + q) cs := by
  apply List.ext_getElem?
  intro j
  have hk : ((l.drop p).take k).length = k := by simp; omega
  have hl := putAt_length (l := (l.drop p).take k) (cs := cs) (off := q) (by rw [hk]; exact hq)
  rw [hk] at hl
  have e1 : (l.take p).length = p := by simp; omega
  have e2 : (l.take (p + q)).length = p + q := by simp; omega
  have e3 : (((l.drop p).take k).take q).length = q := by simp; omega
  unfold putAt at hl ⊢
  by_cases h1 : j < p
  · rw [List.append_assoc, List.getElem?_append_left (by omega), List.append_assoc, List.getElem?_append_left (by omega), List.getElem?_take_of_lt h1, List.getElem?_take_of_lt (by omega)]
  · by_cases h2 : j < p + k
    · rw [List.append_assoc, List.getElem?_append_right (by omega), e1, List.getElem?_append_left (by omega)]
      by_cases h3 : j < p + q
      · rw [List.append_assoc, List.getElem?_append_left (by omega), List.append_assoc (l.take (p + q)), List.getElem?_append_left (by omega), List.getElem?_take_of_lt (by omega), List.getElem?_take_of_lt (by omega), List.getElem?_take_of_lt h3, List.getElem?_drop]
        congr 1; omega
      · by_cases h4 : j < p + q + cs.length
        · rw [List.append_assoc, List.getElem?_append_right (by omega), e3, List.getElem?_append_left (by omega), List.append_assoc (l.take (p + q)), List.getElem?_append_right (by omega), e2, List.getElem?_append_left (by omega)]
          congr 1; omega
        · rw [List.getElem?_append_right (by simp only [List.length_append, e3]; omega), List.getElem?_append_right (by simp only [List.length_append, e2]; omega)]
          simp only [List.length_append, e3, e2, List.getElem?_drop]
          rw [List.getElem?_take_of_lt (by omega), List.getElem?_drop]
          congr 1; omega
    · rw [List.getElem?_append_right (by simp only [List.length_append, e1, List.length_append] at hl ⊢; omega), List.getElem?_append_right (by simp only [List.length_append, e2]; omega)]
      simp only [List.length_append, e1, e2, List.getElem?_drop] at hl ⊢
      congr 1; omega
theorem ps_bifn {c : Bool} {p : Prog Γ.α} (h : PS O s (cond c .fail p) ws) : c = false ∧ PS O s p ws := by
  cases c with
  | true => exact (ps_fail.1 h).elim
  | false => exact ⟨rfl, h⟩
theorem get_wr_notin {k : Key} : ∀ (ws : List (Key × Option (Val Γ.α))) (s : St Γ.α), keyIn k (ws.map (·.1)) = false → (wr s ws).get k = s.get k
  | [], _, _ => rfl
  | (k', v) :: ws, s, h => by
    simp only [List.map_cons, keyIn] at h
    cases hk : k'.same k with
    | true => rw [hk] at h; cases h
    | false =>
      rw [hk] at h
      simp only [wr]
      rw [get_wr_notin ws _ h, St.get_cons, if_neg (fun e => by rw [Key.same_iff.2 e] at hk; cases hk)]
theorem take_putAt {β : Type} {l cs : List β} {p k : Nat} (h : p + cs.length ≤ k) (hl : k ≤ l.length) : (putAt l p cs).take k = putAt (l.take k) p cs := by
  unfold putAt
  rw [List.take_append, List.take_append, List.take_take, List.drop_take]
  simp only [List.length_append, List.length_take]
  rw [Nat.min_eq_right (by omega : p ≤ k), List.take_take, Nat.min_eq_left (by omega : p ≤ k), List.take_of_length_le (l := cs) (by omega), Nat.min_eq_left (by omega : p ≤ l.length)]
theorem sim_store_elem (hΓ : Γ.Ok P) {t : TypeId} {x y : Operand} {ti : TI} {id i off : Nat} {v : AV Γ.α} {cs0 : List (Lf Γ.α)} (ho : o.op = .store t x y) (hti : TIok P t ti) (hm : Rm Γ w0 Bp F0 nt s a w m F) (hd : ∀ d, o.dst = some d → d < nt)
    (hx : Opv s x (.one (.eptr id i off))) (hy : Opv s y v) (hcs : v.cells = some cs0) (hlen : cs0.length = ti.size)
    (hps : PS O s (closeLf true cs0 fun cs ws => .rd (.mut id) fun _ => .rd (.row id) fun
              | .row e xs => bif keyIn (.mut id) (ws.map (·.1)) then .fail else .need (Γ.unpk e (putAt (Γ.pk e (rd xs i (Γ.dft e))) off cs)) fun x =>
                  .done (ws ++ (.row id, some (.row e (xs.set i x))) :: (match o.dst with | some d => [(.tmp d, some (.av .undef))] | none => []))
              | _ => .fail) ws)
    (hK : ∀ a' w', R Γ w0 Bp F0 nt (wr s ws) a' w' → K a' w') : o.wp P a w K Q := by
  have hr := hm.opv hx
  generalize hev : a.eval x = u at hr
  have hrel0 := (hm.opv hy).cells hcs
  obtain ⟨cs, wz, F', g1, hm2, hFF, hrel, hkeys, _⟩ := close_true hΓ hm (fun _ => rfl) hps hrel0
  obtain ⟨mv, g2, g3⟩ := ps_rd.1 g1
  obtain ⟨rv, g4, g5⟩ := ps_rd.1 g3
  split at g5
  · rename_i e xs
    obtain ⟨hki, g5⟩ := ps_bifn g5
    obtain ⟨x', g6, g7⟩ := ps_need.1 g5
    have hws := ps_done.1 g7
    subst hws
    cases hr with
    | eptr _ _ _ b n cap sz hb hi =>
      have hrow2 : (wr s wz).get (.row id) = some (.row e xs) := by rw [hkeys _ (by simp)]; exact g4
      obtain ⟨o', cap', vals, e1, e2, e3, _⟩ := hm2.row id e xs hrow2
      rw [hb] at e1
      simp only [Option.some.injEq, Place.row.injEq] at e1
      obtain ⟨rfl, rfl, rfl, rfl⟩ := e1
      have hmut2 : (wr s wz).get (.mut id) = s.get (.mut id) := get_wr_notin _ _ hki
      have hmutS : ((wr s wz).get (.mut id)).isSome = true := by rw [hmut2, g2]; rfl
      have hown : Owns (wr s wz) m id b := .inr ⟨_, _, _, hb, hmutS⟩
      obtain ⟨hu1, hu2⟩ := hΓ.unpk e _ _ g6
      have hlc : cs.length = ti.size := by rw [hrel.1, ← hrel0.1, hlen]
      have hpos := hti.pos
      have hfit : off + ti.size ≤ Γ.sz e := by
        have h1 := hu1
        simp only [putAt, List.length_append, List.length_take, List.length_drop, hΓ.len, hlc] at h1
        omega
      -- the element's values
      have hold := flat_elem hΓ e (Γ.dft e) xs i hi
      have hov : RLs m F' w (Γ.pk e (rd xs i (Γ.dft e))) ((vals.drop (i * Γ.sz e)).take (Γ.sz e)) := by rw [← hold]; exact (e3.drop _).take _
      have hnv := (putAt_rel (off := off) hov hrel).le hu1 hu2
      have hvl : vals.length = xs.length * Γ.sz e := e2.1
      have hbnd : i * Γ.sz e + Γ.sz e ≤ xs.length * Γ.sz e := by
        have := Nat.mul_le_mul_right (Γ.sz e) (show i + 1 ≤ xs.length from hi)
        rw [Nat.add_mul] at this; omega
      have hul : (a.eval y).cells.toList.length = ti.size := by rw [← hrel0.1, hlen]
      have hfl : RLs m F' w (flat Γ e (xs.set i x')) (putAt vals (i * Γ.sz e + off) (a.eval y).cells.toList) := by
        rw [flat_set hΓ e xs i x' hi, ← putAt_putAt (k := Γ.sz e) (by omega) (by rw [hul]; exact hfit)]
        exact putAt_rel e3 hnv
      rcases e2.2 with ⟨hn, _⟩ | ⟨g, cap2, cur, hv, hbg, hg, hnc, hcm, hcs2, htake⟩
      · simp [sliceV] at hn
      · simp only [sliceV, Option.map_some, Value.slice.injEq, Option.some.injEq, Addr.mk.injEq, and_true, true_and] at hv
        obtain ⟨rfl, rfl⟩ := hv
        have hsz : i * Γ.sz e + off + ti.size ≤ cur.size := by
          rw [hcs2]
          have := Nat.mul_le_mul_right (Γ.sz e) hnc
          omega
        have hrun := storeVar_run hti (u := a.eval y) hg hul hsz hrel0.oneCell
        refine wp_skip' (w' := w.setRow b (cur.toList.take (i * Γ.sz e + off) ++ (a.eval y).cells.toList ++ cur.toList.drop (i * Γ.sz e + off + ti.size)).toArray) ?_ ?_
        · simp [execOp, ho, Instr.storeAt, hev, Instr.sureAddr, hrun]
        · have hgn := setRow_heap w b cur (cur.toList.take (i * Γ.sz e + off) ++ (a.eval y).cells.toList ++ cur.toList.drop (i * Γ.sz e + off + ti.size)).toArray e (0, 0) hg
          have hm3 := hm2.touch (s' := (.row id, some (.row e (xs.set i x'))) :: wr s wz) hown (setRow_ch w b (cur.toList.take (i * Γ.sz e + off) ++ (a.eval y).cells.toList ++ cur.toList.drop (i * Γ.sz e + off + ti.size)).toArray)
            (fun k _ h2 => by rw [St.get_cons, if_neg (fun e => h2 e.symm)])
            (fun n hn => by rw [hb] at hn; cases hn)
            (fun off' l hl' => by
              rw [St.get_cons, if_neg (by simp)] at hl'
              obtain ⟨_, _, _, h1, _⟩ := hm2.cell id off' l hl'
              rw [hb] at h1; cases h1)
            (fun e' xs' hx' => by
              rw [St.get_cons, if_pos rfl] at hx'
              simp only [Option.some.injEq, Val.row.injEq] at hx'
              obtain ⟨rfl, hx'⟩ := hx'
              simp only [heq_eq_eq] at hx'
              subst hx'
              refine ⟨hmutS, cap, putAt vals (i * Γ.sz e + off) (a.eval y).cells.toList, by rw [List.length_set]; exact hb, ?_, hfl⟩
              rw [List.length_set]
              refine ⟨by rw [putAt_length (by rw [hul]; omega)]; exact hvl, .inr ⟨b, cap, _, rfl, hbg, hgn, hnc, hcm, ?_, ?_⟩⟩
              · simp only [List.size_toArray, List.length_append, List.length_take, List.length_drop, Array.length_toList, hul]; omega
              · rw [← htake]
                have := take_putAt (l := cur.toList) (cs := (a.eval y).cells.toList) (p := i * Γ.sz e + off) (k := xs.length * Γ.sz e) (by rw [hul]; omega) (by have := Nat.mul_le_mul_right (Γ.sz e) hnc; have h2 : cur.toList.length = cur.size := Array.length_toList; omega)
                rw [← this]
                simp only [putAt, hul])
            (fun n hn => by rw [hb] at hn; cases hn)
          have hst : wr s (wz ++ (Key.row id, some (Val.row e (xs.set i x'))) :: dstPart o.dst) = wr ((Key.row id, some (Val.row e (xs.set i x'))) :: wr s wz) (dstPart o.dst) := by rw [wr_append]; rfl
          exact hK _ _ ⟨m, F', by show Rm _ _ _ _ _ (wr s (wz ++ (Key.row id, some (Val.row e (xs.set i x'))) :: dstPart o.dst)) _ _ _ _; rw [hst]; exact hm3.dst hd⟩
  · exact (ps_fail.1 g5).elim
end

section
variable {P : Program} {o : Oper} {K : Act → World → Prop} {Q : Exit → Act → World → Prop} {ws : List (Key × Option (Val Γ.α))} {sg : FuncId → Option Sig}
theorem sim_store (hΓ : Γ.Ok P) (t : TypeId) (x y : Operand) (ho : o.op = .store t x y) (hm : Rm Γ w0 Bp F0 nt s a w m F) (hd : ∀ d, o.dst = some d → d < nt)
    (hps : PS O s (opProg Γ sg o) ws) (hK : ∀ a' w', R Γ w0 Bp F0 nt (wr s ws) a' w' → K a' w') : o.wp P a w K Q := by
  simp only [opProg, ho] at hps
  obtain ⟨ti, h1, h2⟩ := ps_need.1 hps
  have hti := hΓ.ti t ti h1
  obtain ⟨u, h3, h4⟩ := ps_opd.1 h2
  split at h4
  · rename_i id off
    obtain ⟨v, h5, h6⟩ := ps_opd.1 h4
    obtain ⟨cs, h7, h8⟩ := ps_need.1 h6
    obtain ⟨hl, h9⟩ := ps_bif h8
    simp only [Bool.and_eq_true, Bool.not_eq_true'] at hl
    obtain ⟨n, h10, h11⟩ := ps_rd.1 h9
    split at h11
    · obtain ⟨hn, h12⟩ := ps_ck.1 h11
      have := ps_done.1 h12
      subst this
      exact sim_store_box hΓ ho hti hm hd h3 h5 h7 (Nat.eq_of_beq_eq_true hl.1) h10 (Nat.le_of_ble_eq_true hn) hl.2 hK
    · exact (ps_fail.1 h11).elim
  · rename_i id i off
    obtain ⟨v, h5, h6⟩ := ps_opd.1 h4
    obtain ⟨cs, h7, h8⟩ := ps_need.1 h6
    obtain ⟨hl, h9⟩ := ps_bif h8
    exact sim_store_elem hΓ ho hti hm hd h3 h5 h7 (Nat.eq_of_beq_eq_true hl) h9 hK
  · exact (ps_fail.1 h4).elim
theorem sim_nilCheck (x : Operand) (ho : o.op = .nilCheck x) (hm : Rm Γ w0 Bp F0 nt s a w m F) (hd : ∀ d, o.dst = some d → d < nt)
    (hps : PS O s (opProg Γ sg o) ws) (hK : ∀ a' w', R Γ w0 Bp F0 nt (wr s ws) a' w' → K a' w') : o.wp P a w K Q := by
  simp only [opProg, ho] at hps
  obtain ⟨v, h1, h2⟩ := ps_opd.1 hps
  have hr := hm.opv h1
  have fin : ∀ (l : Lf Γ.α) (ad : Addr), v = .one l → a.eval x = .pointer (some ad) → PS O s (out o.dst (.one l)) ws → o.wp P a w K Q := by
    intro l ad hv hev hp
    subst hv
    refine wp_val (u := a.eval x) (w' := w) ?_ (out_sim hm hd hp hr hK)
    simp [execOp, ho, hev]
  split at h2
  · generalize hev : a.eval x = u at hr
    cases hr
    exact fin _ _ rfl hev h2
  · generalize hev : a.eval x = u at hr
    cases hr
    exact fin _ _ rfl hev h2
  · generalize hev : a.eval x = u at hr
    cases hr
    exact fin _ _ rfl hev h2
  · exact (ps_fail.1 h2).elim
theorem fieldAt_run (hΓ : Γ.Ok P) {t : TypeId} {ti : TI} {fs : List (TypeId × Nat)} {f ft o' : Nat} {fi : TI} {ad : Addr} (h1 : Γ.ti t = some ti) (h2 : ti.sh = .struct fs) (h3 : fs[f]? = some (ft, o')) (h4 : Γ.ti ft = some fi) (w : World) :
    (Instr.fieldAt t (.pointer (some ad)) f).run P w = .ok (.pointer (some (ad.add o'))) w := by
  have hs := (hΓ.ti t ti h1).sh
  rw [h2] at hs
  obtain ⟨fields, e1, e2, e3⟩ := hs
  have hf : ∃ fd, fields[f]? = some fd ∧ fd.type = ft ∧ fd.offset = o' := by
    rw [← e2, List.getElem?_map] at h3
    cases hq : fields.toList[f]? with
    | none => rw [hq] at h3; cases h3
    | some fd =>
      rw [hq] at h3
      simp at h3
      exact ⟨fd, by simpa using hq, h3.1, h3.2⟩
  obtain ⟨fd, e4, rfl, rfl⟩ := hf
  have hpos := (hΓ.ti _ fi h4).pos
  simp [Instr.fieldAt, run_underlying e1, e4, Instr.sureAddr, fieldPlace, sizeOf_run (hΓ.ti _ fi h4), show ¬ fi.size = 0 from by omega]
theorem sim_fieldAddr (hΓ : Γ.Ok P) (t : TypeId) (x : Operand) (f : Nat) (ho : o.op = .fieldAddr t x f) (hm : Rm Γ w0 Bp F0 nt s a w m F) (hd : ∀ d, o.dst = some d → d < nt)
    (hps : PS O s (opProg Γ sg o) ws) (hK : ∀ a' w', R Γ w0 Bp F0 nt (wr s ws) a' w' → K a' w') : o.wp P a w K Q := by
  simp only [opProg, ho] at hps
  obtain ⟨ti, h1, h2⟩ := ps_need.1 hps
  split at h2
  · rename_i fs hfs
    obtain ⟨⟨ft, o'⟩, h3, h4⟩ := ps_need.1 h2
    obtain ⟨fi, h5, h6⟩ := ps_need.1 h4
    obtain ⟨v, h7, h8⟩ := ps_opd.1 h6
    have hr := hm.opv h7
    have fin : ∀ (l : Lf Γ.α) (ad : Addr), a.eval x = .pointer (some ad) → RLf m F w l (.pointer (some (ad.add o'))) → PS O s (out o.dst (.one l)) ws → o.wp P a w K Q := by
      intro l ad hev hl hp
      refine wp_val (u := .pointer (some (ad.add o'))) (w' := w) ?_ (out_sim hm hd hp hl hK)
      simp [execOp, ho, hev, fieldAt_run hΓ h1 hfs h3 h5]
    split at h8
    · generalize hev : a.eval x = u at hr
      cases hr with
      | ptr id off b n hb => exact fin _ _ hev (by rw [add_lit]; exact .ptr _ _ b n hb) h8
    · generalize hev : a.eval x = u at hr
      cases hr with
      | eptr id i off b n cap sz hb hi => exact fin _ _ hev (by rw [add_lit, Nat.add_assoc]; exact .eptr _ _ _ b n cap sz hb hi) h8
    · generalize hev : a.eval x = u at hr
      cases hr with
      | fptr _ _ _ _ ad vals hl hi hF hc hrel => exact fin _ _ hev (by rw [Addr.add_add, Nat.add_assoc]; exact .fptr _ _ _ _ ad vals hl hi hF hc hrel) h8
    · exact (ps_fail.1 h8).elim
  · exact (ps_fail.1 h2).elim
theorem part_run {t : TypeId} {ti : TI} (h : TIok P t ti) (vals : List Value) (off : Nat) (hl : ((vals.drop off).take ti.size).length = ti.size) (w : World) : (part t vals.toArray off).run P w = .ok (valOf ti.agg ((vals.drop off).take ti.size)) w := by
  unfold part
  simp only [Sem.run_bind, isAgg_run h, Result.andThen_ok]
  cases hg : ti.agg with
  | true =>
    simp only [if_true, Sem.run_bind, sizeOf_run h, Result.andThen_ok, Sem.run_pure, valOf, List.extract_toArray, List.extract_eq_take_drop]
    rw [show off + ti.size - off = ti.size by omega]
  | false =>
    have h1 := h.one hg
    rw [h1] at hl ⊢
    have : ∃ u, vals[off]? = some u ∧ (vals.drop off).take 1 = [u] := by
      obtain ⟨u, hu⟩ := List.length_eq_one_iff.1 hl
      refine ⟨u, ?_, hu⟩
      have := congrArg (fun l => l[0]?) hu
      simpa [List.getElem?_take, List.getElem?_drop] using this
    obtain ⟨u, h2, h3⟩ := this
    rw [h3]
    simp [valOf, h2]
theorem sim_field (hΓ : Γ.Ok P) (t : TypeId) (x : Operand) (f : Nat) (ho : o.op = .field t x f) (hm : Rm Γ w0 Bp F0 nt s a w m F) (hd : ∀ d, o.dst = some d → d < nt)
    (hps : PS O s (opProg Γ sg o) ws) (hK : ∀ a' w', R Γ w0 Bp F0 nt (wr s ws) a' w' → K a' w') : o.wp P a w K Q := by
  simp only [opProg, ho] at hps
  obtain ⟨ti, h1, h2⟩ := ps_need.1 hps
  split at h2
  · rename_i fs hfs
    obtain ⟨⟨ft, o'⟩, h3, h4⟩ := ps_need.1 h2
    obtain ⟨fi, h5, h6⟩ := ps_need.1 h4
    obtain ⟨v, h7, h8⟩ := ps_opd.1 h6
    have hr := hm.opv h7
    split at h8
    · rename_i cs
      rw [forceL_eq] at h8
      obtain ⟨hlen, h9⟩ := ps_bif h8
      have hlen := Nat.eq_of_beq_eq_true hlen
      obtain ⟨vs, hev, hrel⟩ := hr
      have hp := (hrel.drop o').take fi.size
      have hfi := hΓ.ti _ fi h5
      have hs := (hΓ.ti t ti h1).sh
      rw [hfs] at hs
      obtain ⟨fields, e1, e2, e3⟩ := hs
      have hf : ∃ fd, fields[f]? = some fd ∧ fd.type = ft ∧ fd.offset = o' := by
        rw [← e2, List.getElem?_map] at h3
        cases hq : fields.toList[f]? with
        | none => rw [hq] at h3; cases h3
        | some fd =>
          rw [hq] at h3
          simp at h3
          exact ⟨fd, by simpa using hq, h3.1, h3.2⟩
      obtain ⟨fd, e4, rfl, rfl⟩ := hf
      refine wp_val (u := valOf fi.agg ((vs.drop fd.offset).take fi.size)) (w' := w) ?_ (out_sim hm hd h9 (RC.mk (RC.of hp (fun hg => by rw [hlen]; exact hfi.one hg))) hK)
      simp [execOp, ho, hev, Instr.field, run_underlying e1, e4, asAgg, part_run hfi vs fd.offset (by rw [← hp.1, hlen])]
    · exact (ps_fail.1 h8).elim
  · exact (ps_fail.1 h2).elim
theorem RCs.get : ∀ {r : List (Bool × List (Lf Γ.α))} {vs : List Value} {i : Nat} {b : Bool} {cs : List (Lf Γ.α)}, RCs m F w r vs → r[i]? = some (b, cs) → ∃ u, vs[i]? = some u ∧ RC m F w b cs u
  | (b', cs') :: r, v :: vs, 0, b, cs, h, hi => by simp at hi; obtain ⟨rfl, rfl⟩ := hi; exact ⟨v, rfl, h.1⟩
  | _ :: r, _ :: vs, i + 1, b, cs, h, hi => by obtain ⟨u, h1, h2⟩ := RCs.get (i := i) h.2 (by simpa using hi); exact ⟨u, by simpa using h1, h2⟩
  | [], _, _, _, _, _, hi => by simp at hi
  | _ :: _, [], _, _, _, h, _ => h.elim
theorem sim_extract (x : Operand) (i : Nat) (ho : o.op = .extract x i) (hm : Rm Γ w0 Bp F0 nt s a w m F) (hd : ∀ d, o.dst = some d → d < nt)
    (hps : PS O s (opProg Γ sg o) ws) (hK : ∀ a' w', R Γ w0 Bp F0 nt (wr s ws) a' w' → K a' w') : o.wp P a w K Q := by
  simp only [opProg, ho] at hps
  obtain ⟨v, h1, h2⟩ := ps_opd.1 hps
  have hr := hm.opv h1
  split at h2
  · rename_i vs
    obtain ⟨⟨b, cs⟩, h3, h4⟩ := ps_need.1 h2
    obtain ⟨us, hev, hrel⟩ := hr
    obtain ⟨u, h5, h6⟩ := hrel.get h3
    refine wp_val (u := u) (w' := w) ?_ (out_sim hm hd h4 (RC.mk h6) hK)
    simp [execOp, ho, hev, Instr.extract, h5]
  · exact (ps_fail.1 h2).elim
theorem sim_unOp (op : UnOp) (t : TypeId) (x : Operand) (ho : o.op = .unOp op t x) (hm : Rm Γ w0 Bp F0 nt s a w m F) (hd : ∀ d, o.dst = some d → d < nt)
    (hps : PS O s (opProg Γ sg o) ws) (hK : ∀ a' w', R Γ w0 Bp F0 nt (wr s ws) a' w' → K a' w') : o.wp P a w K Q := by
  simp only [opProg, ho] at hps
  obtain ⟨v, h1, h2⟩ := ps_opd.1 hps
  have hr := hm.opv h1
  split at h2
  · generalize hev : a.eval x = u at hr
    cases hr
    split at h2
    · refine wp_val (u := .int _ _) (w' := w) ?_ (out_sim hm hd h2 (RLf.int _ _) hK)
      simp [execOp, ho, hev, Op.unary, Op.intArith]
    · exact (ps_fail.1 h2).elim
  · generalize hev : a.eval x = u at hr
    cases hr
    split at h2
    · refine wp_val (u := .bool _) (w' := w) ?_ (out_sim hm hd h2 (RLf.bool _) hK)
      simp [execOp, ho, hev, Op.unary]
    · exact (ps_fail.1 h2).elim
  · exact (ps_fail.1 h2).elim
end
end
end Go.Proofs.Ytlhknehkcflkgaa.Ab
