/- How the abstract machine's state stands to the model's: the relation, and what keeps it. -/
import Derived.Test.YtlhknehkcflkgaaAbDef
import Derived.Maps.AppendAt
import Derived.DataElems
import Derived.Laws.Cells
import Derived.Laws.CopyRow
set_option autoImplicit false
namespace Go.Proofs.Ytlhknehkcflkgaa.Ab
open Go

inductive Place where
  | box (b n : Nat)
  | row (o : Option Nat) (n cap sz : Nat)
abbrev Places := Nat → Option Place
def Reg.sz (Γ : Reg) (e : TypeId) : Nat := match Γ.ti e with | some ti => ti.size | none => 0
def flat (Γ : Reg) (e : TypeId) (xs : List (Γ.α e)) : List (Lf Γ.α) := xs.flatMap (Γ.pk e)

section
variable {Γ : Reg}
/-- a leaf and the value of its cell: rows and variables by their places, frozen memory by its content -/
inductive RLf (m : Places) (F : Nat → Prop) (w : World) : Lf Γ.α → Value → Prop where
  | int (k : IntKind) (n : Int) : RLf m F w (.int k n) (.int k n)
  | bool (b : Bool) : RLf m F w (.bool b) (.bool b)
  | str (s : ByteArray) : RLf m F w (.str s) (.string s)
  | nil : RLf m F w .nil (.slice none 0 0)
  | nilp : RLf m F w .nilp (.pointer none)
  | fn (f : FuncId) : RLf m F w (.fn f []) (.func (.func f) #[] #[])
  | sl (e : TypeId) (xs : List (Γ.α e)) (A : Option Addr) (c : Nat) (vals : List Value) (hl : vals.length = xs.length * Γ.sz e) (hc : xs.length ≤ c)
      (hcell : ∀ (k : Nat) (u : Value), vals[k]? = some u → ∃ ad, A = some ad ∧ F ad.block ∧ w.cell? (ad.add k) = some u)
      (hrel : ∀ (k : Nat) (l : Lf Γ.α) (u : Value), (flat Γ e xs)[k]? = some l → vals[k]? = some u → RLf m F w l u) : RLf m F w (.sl e xs) (.slice A xs.length c)
  | own (id : Nat) (o : Option Nat) (n cap sz : Nat) (h : m id = some (.row o n cap sz)) : RLf m F w (.own id) (.slice (o.map fun b => ⟨b, 0, none⟩) n cap)
  | ptr (id off b n : Nat) (h : m id = some (.box b n)) : RLf m F w (.ptr id off) (.pointer (some ⟨b, off, none⟩))
  | eptr (id i off b n cap sz : Nat) (h : m id = some (.row (some b) n cap sz)) (hi : i < n) : RLf m F w (.eptr id i off) (.pointer (some ⟨b, i * sz + off, none⟩))
  | fptr (e : TypeId) (xs : List (Γ.α e)) (i off : Nat) (ad : Addr) (vals : List Value) (hl : vals.length = xs.length * Γ.sz e) (hi : i < xs.length) (hF : F ad.block)
      (hcell : ∀ (k : Nat) (u : Value), vals[k]? = some u → w.cell? (ad.add k) = some u)
      (hrel : ∀ (k : Nat) (l : Lf Γ.α) (u : Value), (flat Γ e xs)[k]? = some l → vals[k]? = some u → RLf m F w l u) : RLf m F w (.fptr e xs i off) (.pointer (some (ad.add (i * Γ.sz e + off))))

variable {m m' : Places} {F F' : Nat → Prop} {w w' : World}
theorem RLf.mono {l : Lf Γ.α} {v : Value} (h : RLf m F w l v) (hm : ∀ id p, m id = some p → m' id = some p) (hF : ∀ b, F b → F' b) (hw : ∀ a : Addr, F a.block → w'.cell? a = w.cell? a) : RLf m' F' w' l v := by
  induction h with
  | int k n => exact .int k n
  | bool b => exact .bool b
  | str s => exact .str s
  | nil => exact .nil
  | nilp => exact .nilp
  | fn f => exact .fn f
  | sl e xs A c vals hl hc hcell hrel ih =>
    exact .sl e xs A c vals hl hc (fun k u hu => by obtain ⟨ad, h1, h2, h3⟩ := hcell k u hu; exact ⟨ad, h1, hF _ h2, by rw [hw _ (by unfold Addr.add; split <;> exact h2)]; exact h3⟩) ih
  | own id o n cap sz h => exact .own id o n cap sz (hm _ _ h)
  | ptr id off b n h => exact .ptr id off b n (hm _ _ h)
  | eptr id i off b n cap sz h hi => exact .eptr id i off b n cap sz (hm _ _ h) hi
  | fptr e xs i off ad vals hl hi hF' hcell hrel ih =>
    exact .fptr e xs i off ad vals hl hi (hF _ hF') (fun k u hu => by rw [hw _ (by unfold Addr.add; split <;> exact hF')]; exact hcell k u hu) ih
theorem RLf.oneCell {l : Lf Γ.α} {v : Value} (h : RLf m F w l v) : v.oneCell' = true := by cases h <;> rfl
theorem RLf.cells {l : Lf Γ.α} {v : Value} (h : RLf m F w l v) : v.cells = #[v] := by cases h <;> rfl
def Lf.le (l l' : Lf Γ.α) : Prop := l = l' ∨ (l = .nil ∧ ∃ e, l' = .sl e [])
theorem RLf.le {l l' : Lf Γ.α} {v : Value} (h : RLf m F w l v) (hl : Lf.le l l') : RLf m F w l' v := by
  rcases hl with rfl | ⟨rfl, e, rfl⟩
  · exact h
  · cases h
    exact .sl e [] none 0 [] (by simp) (by simp) (by simp) (by simp [flat])

/-- lists, one by one -/
def RLs (m : Places) (F : Nat → Prop) (w : World) (ls : List (Lf Γ.α)) (vs : List Value) : Prop :=
  ls.length = vs.length ∧ ∀ (k : Nat) l v, ls[k]? = some l → vs[k]? = some v → RLf m F w l v
theorem RLs.mono {ls : List (Lf Γ.α)} {vs : List Value} (h : RLs m F w ls vs) (hm : ∀ id p, m id = some p → m' id = some p) (hF : ∀ b, F b → F' b) (hw : ∀ a : Addr, F a.block → w'.cell? a = w.cell? a) : RLs m' F' w' ls vs :=
  ⟨h.1, fun k l v h1 h2 => (h.2 k l v h1 h2).mono hm hF hw⟩
theorem RLs.nil : RLs m F w ([] : List (Lf Γ.α)) [] := ⟨rfl, by simp⟩
theorem RLs.cons {l : Lf Γ.α} {v : Value} {ls : List (Lf Γ.α)} {vs : List Value} (h : RLf m F w l v) (h' : RLs m F w ls vs) : RLs m F w (l :: ls) (v :: vs) :=
  ⟨by simp [h'.1], fun k a b h1 h2 => by
    cases k with
    | zero => simp at h1 h2; subst h1; subst h2; exact h
    | succ k => simp at h1 h2; exact h'.2 k a b h1 h2⟩
theorem RLs.inv {l : Lf Γ.α} {ls : List (Lf Γ.α)} {vs : List Value} (h : RLs m F w (l :: ls) vs) : ∃ v vs', vs = v :: vs' ∧ RLf m F w l v ∧ RLs m F w ls vs' := by
  obtain ⟨h1, h2⟩ := h
  cases vs with
  | nil => simp at h1
  | cons v vs => exact ⟨v, vs, rfl, h2 0 l v rfl rfl, by simpa using h1, fun k a b ha hb => h2 (k + 1) a b (by simpa using ha) (by simpa using hb)⟩
theorem RLs.inv_nil {vs : List Value} (h : RLs m F w ([] : List (Lf Γ.α)) vs) : vs = [] := by
  have := h.1
  cases vs with
  | nil => rfl
  | cons v vs => simp at this
theorem RLs.append {l1 l2 : List (Lf Γ.α)} {v1 v2 : List Value} (h1 : RLs m F w l1 v1) (h2 : RLs m F w l2 v2) : RLs m F w (l1 ++ l2) (v1 ++ v2) := by
  induction l1 generalizing v1 with
  | nil => rw [h1.inv_nil]; exact h2
  | cons l l1 ih => obtain ⟨v, vs, rfl, a, b⟩ := h1.inv; exact .cons a (ih b)
theorem RLs.take {ls : List (Lf Γ.α)} {vs : List Value} (h : RLs m F w ls vs) (n : Nat) : RLs m F w (ls.take n) (vs.take n) :=
  ⟨by simp [h.1], fun k l v h1 h2 => by
    rw [List.getElem?_take] at h1 h2
    split at h1 <;> simp_all
    exact h.2 k l v h1 h2⟩
theorem RLs.drop {ls : List (Lf Γ.α)} {vs : List Value} (h : RLs m F w ls vs) (n : Nat) : RLs m F w (ls.drop n) (vs.drop n) :=
  ⟨by simp [h.1], fun k l v h1 h2 => by
    rw [List.getElem?_drop] at h1 h2
    exact h.2 _ l v h1 h2⟩
theorem RLs.get {ls : List (Lf Γ.α)} {vs : List Value} (h : RLs m F w ls vs) {k : Nat} {l : Lf Γ.α} (hl : ls[k]? = some l) : ∃ v, vs[k]? = some v ∧ RLf m F w l v := by
  have hk : k < vs.length := by rw [← h.1]; exact (List.getElem?_eq_some_iff.1 hl).1
  exact ⟨vs[k], List.getElem?_eq_getElem hk, h.2 k l _ hl (List.getElem?_eq_getElem hk)⟩
theorem RLs.oneCell {ls : List (Lf Γ.α)} {vs : List Value} (h : RLs m F w ls vs) : ∀ v ∈ vs, v.oneCell' = true := by
  intro v hv
  obtain ⟨k, hk, rfl⟩ := List.getElem_of_mem hv
  have hk' : k < ls.length := by rw [h.1]; exact hk
  exact (h.2 k _ _ (List.getElem?_eq_getElem hk') (List.getElem?_eq_getElem hk)).oneCell

/-- cells that are a struct's or one leaf's -/
def RC (m : Places) (F : Nat → Prop) (w : World) (agg : Bool) (cs : List (Lf Γ.α)) (v : Value) : Prop :=
  match agg with
  | true => ∃ vs : List Value, v = .agg vs.toArray ∧ RLs m F w cs vs
  | false => ∃ l, cs = [l] ∧ RLf m F w l v
def RCs (m : Places) (F : Nat → Prop) (w : World) : List (Bool × List (Lf Γ.α)) → List Value → Prop
  | [], [] => True
  | (b, cs) :: r, v :: vs => RC m F w b cs v ∧ RCs m F w r vs
  | _, _ => False
def RAV (m : Places) (F : Nat → Prop) (w : World) : AV Γ.α → Value → Prop
  | .undef, v => v = undef
  | .one l, v => RLf m F w l v
  | .st cs, v => ∃ vs : List Value, v = .agg vs.toArray ∧ RLs m F w cs vs
  | .tup vs, v => ∃ us : List Value, v = .tuple us.toArray ∧ RCs m F w vs us
theorem RC.mono {b : Bool} {cs : List (Lf Γ.α)} {v : Value} (h : RC m F w b cs v) (hm : ∀ id p, m id = some p → m' id = some p) (hF : ∀ b, F b → F' b) (hw : ∀ a : Addr, F a.block → w'.cell? a = w.cell? a) : RC m' F' w' b cs v := by
  cases b with
  | true => obtain ⟨vs, h1, h2⟩ := h; exact ⟨vs, h1, h2.mono hm hF hw⟩
  | false => obtain ⟨l, h1, h2⟩ := h; exact ⟨l, h1, h2.mono hm hF hw⟩
theorem RCs.mono : ∀ {r : List (Bool × List (Lf Γ.α))} {vs : List Value} (_ : RCs m F w r vs) (_ : ∀ id p, m id = some p → m' id = some p) (_ : ∀ b, F b → F' b) (_ : ∀ a : Addr, F a.block → w'.cell? a = w.cell? a), RCs m' F' w' r vs
  | [], [], _, _, _, _ => trivial
  | (_, _) :: _, _ :: _, h, hm, hF, hw => ⟨h.1.mono hm hF hw, RCs.mono h.2 hm hF hw⟩
  | [], _ :: _, h, _, _, _ => h.elim
  | _ :: _, [], h, _, _, _ => h.elim
theorem RAV.mono {v : AV Γ.α} {u : Value} (h : RAV m F w v u) (hm : ∀ id p, m id = some p → m' id = some p) (hF : ∀ b, F b → F' b) (hw : ∀ a : Addr, F a.block → w'.cell? a = w.cell? a) : RAV m' F' w' v u := by
  cases v with
  | undef => exact h
  | one l => exact RLf.mono h hm hF hw
  | st cs => obtain ⟨vs, h1, h2⟩ := h; exact ⟨vs, h1, h2.mono hm hF hw⟩
  | tup vs => obtain ⟨us, h1, h2⟩ := h; exact ⟨us, h1, RCs.mono h2 hm hF hw⟩
theorem RC.mk {b : Bool} {cs : List (Lf Γ.α)} {v : Value} (h : RC m F w b cs v) : RAV m F w (mkAV b cs) v := by
  cases b with
  | true => exact h
  | false => obtain ⟨l, rfl, h2⟩ := h; exact h2
theorem RAV.cells {v : AV Γ.α} {u : Value} {cs : List (Lf Γ.α)} (h : RAV m F w v u) (hc : v.cells = some cs) : RLs m F w cs u.cells.toList := by
  cases v with
  | undef => cases hc
  | one l => cases hc; rw [RLf.cells h]; exact .cons h .nil
  | st cs' => cases hc; obtain ⟨vs, rfl, h2⟩ := h; simpa [Value.cells] using h2
  | tup vs => cases hc

/-! ### the store -/
theorem Key.same_iff {a b : Key} : a.same b = true ↔ a = b := by
  cases a <;> cases b <;> simp [Key.same]
theorem St.get_cons {α : TypeId → Type} (s : St α) (k k' : Key) (v : Option (Val α)) : St.get ((k, v) :: s) k' = if k = k' then v else St.get s k' := by
  by_cases h : k = k'
  · rw [if_pos h]; simp [St.get, Key.same_iff.2 h]
  · rw [if_neg h]
    have : k.same k' = false := by
      cases e : k.same k' with
      | false => rfl
      | true => exact absurd (Key.same_iff.1 e) h
    simp [St.get, this]
theorem wr_append {α : TypeId → Type} (s : St α) (xs ys : List (Key × Option (Val α))) : wr s (xs ++ ys) = wr (wr s xs) ys := by
  induction xs generalizing s with
  | nil => rfl
  | cons x xs ih => exact ih _
theorem wrK_eq {α : TypeId → Type} {β : Type} (s : St α) (ws : List (Key × Option (Val α))) (k : St α → β) : wrK s ws k = k (wr s ws) := by
  induction ws generalizing s with
  | nil => rfl
  | cons x xs ih => exact ih _
theorem forceL_eq {γ β : Type} (l : List γ) (k : List γ → β) : forceL l k = k l := by
  induction l generalizing k with
  | nil => rfl
  | cons x xs ih => simp [forceL, ih]

/-- what has become of the world: of what was there, nothing but the blocks of Bp has turned -/
structure Fr (Bp : Nat → Prop) (w0 w : World) : Prop where
  os : w.os = w0.os
  tape : w.tape = w0.tape
  output : w.output = w0.output
  size : w0.heap.size ≤ w.heap.size
  block : ∀ k, k < w0.heap.size → ¬ Bp k → w.heap[k]? = w0.heap[k]?
theorem Fr.refl (Bp : Nat → Prop) (w : World) : Fr Bp w w := ⟨rfl, rfl, rfl, Nat.le_refl _, fun _ _ _ => rfl⟩
/-- w' is w, but for the blocks of X -/
structure Ch (X : Nat → Prop) (w w' : World) : Prop where
  os : w'.os = w.os
  tape : w'.tape = w.tape
  output : w'.output = w.output
  size : w.heap.size ≤ w'.heap.size
  block : ∀ k, k < w.heap.size → ¬ X k → w'.heap[k]? = w.heap[k]?
theorem Ch.refl (X : Nat → Prop) (w : World) : Ch X w w := ⟨rfl, rfl, rfl, Nat.le_refl _, fun _ _ _ => rfl⟩
theorem Ch.alloc (X : Nat → Prop) (w : World) (o : Obj) : Ch X w (w.alloc o) := ⟨rfl, rfl, rfl, by simp, fun k hk _ => heap_alloc_old w o k hk⟩
theorem Ch.of_grown {w w' : World} {row : Option Nat} (h : w.grownBy w' row) : Ch (fun b => some b = row) w w' := ⟨h.os, h.tape, h.output, h.size, fun k hk hx => h.block k hk hx⟩
theorem Ch.cell {X : Nat → Prop} {w w' : World} (h : Ch X w w') {a : Addr} (ha : a.block < w.heap.size) (hx : ¬ X a.block) : w'.cell? a = w.cell? a := World.cell?_of_block (h.block _ ha hx)

/-- a box, or a row that is still the function's own, by its block -/
def Owns (s : St Γ.α) (m : Places) (id b : Nat) : Prop :=
  (∃ n, m id = some (.box b n)) ∨ (∃ n cap sz, m id = some (.row (some b) n cap sz) ∧ (s.get (.mut id)).isSome = true)
def sliceV (o : Option Nat) (n cap : Nat) : Value := .slice (o.map fun b => ⟨b, 0, none⟩) n cap
/-- the blocks that names are bound to for good -/
def BB (Bp : Nat → Nat → Prop) (b : Nat) : Prop := ∃ id, Bp id b
/-- those of them that have cells that are never written -/
def CB (Bp : Nat → Nat → Prop) (b : Nat) : Prop := ∃ id off, Bp id b ∧ cbit id off = true
structure Rm (Γ : Reg) (w0 : World) (Bp : Nat → Nat → Prop) (F0 : Nat → Prop) (nt : Nat) (s : St Γ.α) (a : Act) (w : World) (m : Places) (F : Nat → Prop) : Prop where
  fr : Fr (BB Bp) w0 w
  f0 : ∀ b, F0 b → F b
  f1 : ∀ b, F b → F0 b ∨ w0.heap.size ≤ b ∨ BB Bp b
  f2 : ∀ b, F b → b < w.heap.size
  bp : ∀ b, BB Bp b → b < w0.heap.size ∧ ¬ F0 b
  tmp : ∀ t v, s.get (.tmp t) = some (.av v) → RAV m F w v (a.tmps.getD t undef)
  cell : ∀ id off l, s.get (.cell id off) = some (.lf l) → ∃ b n v, m id = some (.box b n) ∧ off < n ∧ w.cell? ⟨b, off, none⟩ = some v ∧ RLf m F w l v
  row : ∀ id e xs, s.get (.row id) = some (.row e xs) → ∃ o cap vals, m id = some (.row o xs.length cap (Γ.sz e)) ∧ w.ownsRow 0 e (Γ.sz e) (sliceV o xs.length cap) xs.length vals ∧ RLs m F w (flat Γ e xs) vals ∧
      (s.get (.mut id) = none → ∀ b, o = some b → F b)
  used : ∀ id n, s.get (.used id) = some (.num n) → ∃ p, m id = some p ∧ (∀ b n', p = .box b n' → n' = n) ∧ ∀ o n' cap sz, p = .row o n' cap sz → n = n' + 1
  free : ∀ id, s.get (.used id) = none → m id = none
  box : ∀ id b n, m id = some (.box b n) → (w0.heap.size ≤ b ∨ BB Bp b) ∧ ∃ C t, w.heap[b]? = some (.cells C t (0, 0)) ∧ C.size = n
  ours : ∀ id b, Owns s m id b → ¬ F b ∧ (w0.heap.size ≤ b ∨ BB Bp b) ∧ b < w.heap.size
  dist : ∀ id id' b, Owns s m id b → Owns s m id' b → id = id'
  nodef : a.defers = []
  size : a.tmps.size = nt
  fix : nt ≤ 900000 ∧ (∀ id b, Bp id b → 900000 ≤ id) ∧ ∀ id b, Bp id b → ∀ p, m id = some p → ∃ n, p = .box b n ∧ ∃ C t, w0.heap[b]? = some (.cells C t (0, 0)) ∧ C.size = n
  mu : ∀ id, s.get (.used id) = none → s.get (.mut id) = none
  cst : (∀ id id' b, Bp id b → Bp id' b → id = id') ∧ (∀ id b, Owns s m id b → CB Bp b → Bp id b ∧ ∃ n, m id = some (.box b n)) ∧ ∀ id b off, Bp id b → cbit id off = true → w.cell? ⟨b, off, none⟩ = w0.cell? ⟨b, off, none⟩

variable {w0 : World} {Bp : Nat → Nat → Prop} {F0 : Nat → Prop} {nt : Nat} {s : St Γ.α} {a : Act}
/-- two stores that read alike -/
theorem Rm.freshCB {b : Nat} (h : Rm Γ w0 Bp F0 nt s a w m F) (hb : w0.heap.size ≤ b) : ¬ CB Bp b := fun ⟨id, _, h1, _⟩ => by have := (h.bp b ⟨id, h1⟩).1; omega
theorem Rm.rowCB {id b n cap sz : Nat} (h : Rm Γ w0 Bp F0 nt s a w m F) (hr : m id = some (.row (some b) n cap sz)) (hm : (s.get (.mut id)).isSome = true) : ¬ CB Bp b := fun hc => by
  obtain ⟨_, n', h2⟩ := h.cst.2.1 id b (.inr ⟨n, cap, sz, hr, hm⟩) hc
  rw [hr] at h2; cases h2
theorem Rm.congr {s' : St Γ.α} (h : Rm Γ w0 Bp F0 nt s a w m F) (he : ∀ k, s'.get k = s.get k) : Rm Γ w0 Bp F0 nt s' a w m F :=
  ⟨h.fr, h.f0, h.f1, h.f2, h.bp, fun t v => by rw [he]; exact h.tmp t v, fun id off l => by rw [he]; exact h.cell id off l, fun id e xs => by rw [he, he]; exact h.row id e xs,
    fun id n => by rw [he]; exact h.used id n, fun id => by rw [he]; exact h.free id, h.box,
    fun id b hb => h.ours id b (by simpa [Owns, he] using hb), fun id id' b h1 h2 => h.dist id id' b (by simpa [Owns, he] using h1) (by simpa [Owns, he] using h2), h.nodef, h.size, h.fix, fun id => by rw [he, he]; exact h.mu id, h.cst.1, fun id b hb => h.cst.2.1 id b (by simpa [Owns, he] using hb), h.cst.2.2⟩
theorem Act.put_some (a : Act) (d : Nat) (v : Value) : (a.put (some d) v).tmps = a.tmps.setIfInBounds d v := rfl
theorem getD_set (A : Array Value) (d t : Nat) (v : Value) (hd : d < A.size) : (A.setIfInBounds d v).getD t undef = if d = t then v else A.getD t undef := by
  simp only [Array.getD_eq_getD_getElem?, Array.getElem?_setIfInBounds]
  split
  · rename_i h
    subst h
    simp [hd]
  · rfl
/-- a temporary gets a value -/
theorem Rm.put {d : Nat} {v : AV Γ.α} {u : Value} (h : Rm Γ w0 Bp F0 nt s a w m F) (hd : d < nt) (hv : RAV m F w v u) : Rm Γ w0 Bp F0 nt ((.tmp d, some (.av v)) :: s) (a.put (some d) u) w m F := by
  have he : ∀ k, (∀ t, k ≠ .tmp t) → St.get ((.tmp d, some (.av v)) :: s) k = s.get k := fun k hk => by rw [St.get_cons, if_neg (fun e => hk d e.symm)]
  refine ⟨h.fr, h.f0, h.f1, h.f2, h.bp, fun t v' ht => ?_, fun id off l => by rw [he _ (by simp)]; exact h.cell id off l, fun id e xs => by rw [he _ (by simp), he _ (by simp)]; exact h.row id e xs,
    fun id n => by rw [he _ (by simp)]; exact h.used id n, fun id => by rw [he _ (by simp)]; exact h.free id, h.box,
    fun id b hb => h.ours id b (by simpa [Owns, he] using hb), fun id id' b h1 h2 => h.dist id id' b (by simpa [Owns, he] using h1) (by simpa [Owns, he] using h2), h.nodef, by simp [Act.put, h.size], h.fix, fun id => by rw [he _ (by simp), he _ (by simp)]; exact h.mu id, h.cst.1, fun id b hb => h.cst.2.1 id b (by simpa [Owns, he] using hb), h.cst.2.2⟩
  rw [Act.put_some, getD_set _ _ _ _ (by rw [h.size]; exact hd)]
  rw [St.get_cons] at ht
  by_cases e : d = t
  · subst e
    simp at ht
    subst ht
    simpa using hv
  · rw [if_neg (by simpa using e)] at ht
    rw [if_neg e]
    exact h.tmp t v' ht
/-- a slot of which nothing is told any more, or nothing new -/
theorem Rm.drop {k : Key} (h : Rm Γ w0 Bp F0 nt s a w m F) (hk : ∀ id, k ≠ .used id) (hm : ∀ id, k ≠ .mut id) : Rm Γ w0 Bp F0 nt ((k, none) :: s) a w m F := by
  have he : ∀ k' x, St.get ((k, none) :: s) k' = some x → s.get k' = some x := fun k' x hx => by
    rw [St.get_cons] at hx
    split at hx
    · cases hx
    · exact hx
  have hem : ∀ id, St.get ((k, none) :: s) (.mut id) = s.get (.mut id) := fun id => by rw [St.get_cons, if_neg (hm id)]
  refine ⟨h.fr, h.f0, h.f1, h.f2, h.bp, fun t v ht => h.tmp t v (he _ _ ht), fun id off l hl => h.cell id off l (he _ _ hl), fun id e xs hx => by rw [hem]; exact h.row id e xs (he _ _ hx),
    fun id n hn => h.used id n (he _ _ hn), fun id hu => ?_, h.box, fun id b hb => h.ours id b (by simpa [Owns, hem] using hb), fun id id' b h1 h2 => h.dist id id' b (by simpa [Owns, hem] using h1) (by simpa [Owns, hem] using h2), h.nodef, h.size, h.fix, fun id hn => by rw [St.get_cons, if_neg (hk id)] at hn; rw [hem]; exact h.mu id hn, h.cst.1, fun id b hb => h.cst.2.1 id b (by simpa [Owns, hem] using hb), h.cst.2.2⟩
  rw [St.get_cons, if_neg (hk id)] at hu
  exact h.free id hu

/-- of a row nothing is told any more but its length -/
theorem Rm.junk {id n : Nat} (h : Rm Γ w0 Bp F0 nt s a w m F) : Rm Γ w0 Bp F0 nt ((.row id, some (.num n)) :: s) a w m F := by
  have hk : ∀ k', k' ≠ .row id → St.get ((.row id, some (.num n)) :: s) k' = s.get k' := fun k' hk' => by rw [St.get_cons, if_neg (fun e => hk' e.symm)]
  refine ⟨h.fr, h.f0, h.f1, h.f2, h.bp, fun t v ht => h.tmp t v (by rwa [hk _ (by simp)] at ht), fun id' off l hl => h.cell id' off l (by rwa [hk _ (by simp)] at hl), fun id' e xs hx => ?_,
    fun id' n hn => h.used id' n (by rwa [hk _ (by simp)] at hn), fun id' hu => h.free id' (by rwa [hk _ (by simp)] at hu), h.box, fun id' b hb => h.ours id' b (by simpa [Owns, hk] using hb), fun i j b h1 h2 => h.dist i j b (by simpa [Owns, hk] using h1) (by simpa [Owns, hk] using h2), h.nodef, h.size, h.fix, fun id' hn => by rw [hk _ (by simp)] at hn ⊢; exact h.mu id' hn, h.cst.1, fun id' b hb => h.cst.2.1 id' b (by simpa [Owns, hk] using hb), h.cst.2.2⟩
  rw [St.get_cons] at hx
  split at hx
  · cases hx
  · rw [hk _ (by simp)]
    exact h.row id' e xs hx

/-- the world turns in blocks that nothing of the state stands on -/
theorem Rm.world {X : Nat → Prop} {w' : World} (h : Rm Γ w0 Bp F0 nt s a w m F) (hc : Ch X w w') (hX : ∀ b, X b → (w0.heap.size ≤ b ∨ BB Bp b)) (hF : ∀ b, X b → ¬ F b) (hbox : ∀ id b n, m id = some (.box b n) → ¬ X b)
    (hrow : ∀ id e xs b n cap sz, s.get (.row id) = some (.row e xs) → m id = some (.row (some b) n cap sz) → ¬ X b) (hXc : ∀ b, X b → ¬ CB Bp b) : Rm Γ w0 Bp F0 nt s a w' m F := by
  have hcell : ∀ ad : Addr, F ad.block → w'.cell? ad = w.cell? ad := fun ad hf => hc.cell (h.f2 _ hf) (fun hx => hF _ hx hf)
  have hid : ∀ id p, m id = some p → m id = some p := fun _ _ e => e
  refine ⟨⟨hc.os.trans h.fr.os, hc.tape.trans h.fr.tape, hc.output.trans h.fr.output, Nat.le_trans h.fr.size hc.size, fun k hk hb => ?_⟩, h.f0, h.f1, fun b hb => Nat.lt_of_lt_of_le (h.f2 b hb) hc.size, h.bp,
    fun t v ht => (h.tmp t v ht).mono hid (fun _ x => x) hcell, fun id off l hl => ?_, fun id e xs hx => ?_, h.used, h.free, fun id b n hm => ?_, fun id b hb => ?_, h.dist, h.nodef, h.size, h.fix, h.mu, h.cst.1, h.cst.2.1, fun id b off hb hk => by
      rw [hc.cell (Nat.lt_of_lt_of_le (h.bp b ⟨id, hb⟩).1 h.fr.size) (fun hx => hXc b hx ⟨id, off, hb, hk⟩)]
      exact h.cst.2.2 id b off hb hk⟩
  · rw [hc.block k (Nat.lt_of_lt_of_le hk h.fr.size) (fun hx => by rcases hX k hx with h1 | h1; · omega
                                                                   · exact hb h1)]
    exact h.fr.block k hk hb
  · obtain ⟨b, n, v, h1, h2, h3, h4⟩ := h.cell id off l hl
    refine ⟨b, n, v, h1, h2, ?_, h4.mono hid (fun _ x => x) hcell⟩
    rw [hc.cell (World.block_lt_of_cell? w ⟨b, off, none⟩ h3) (hbox _ _ _ h1)]
    exact h3
  · obtain ⟨o, cap, vals, h1, h2, h3, h4⟩ := h.row id e xs hx
    refine ⟨o, cap, vals, h1, ?_, h3.mono hid (fun _ x => x) hcell, h4⟩
    refine ⟨h2.1, ?_⟩
    rcases h2.2 with hn | ⟨g, cap', cur, hv, hb, hg, rest⟩
    · exact .inl hn
    · refine .inr ⟨g, cap', cur, hv, hb, ?_, rest⟩
      have ho : o = some g := by
        cases o with
        | none => simp [sliceV] at hv
        | some b => simp [sliceV] at hv; rw [hv.1]
      subst ho
      rw [hc.block g (Array.getElem?_eq_some_iff.1 hg).1 (hrow id e xs g _ _ _ hx h1)]
      exact hg
  · obtain ⟨h1, C, t, h2, h3⟩ := h.box id b n hm
    exact ⟨h1, C, t, by rw [hc.block b (Array.getElem?_eq_some_iff.1 h2).1 (hbox _ _ _ hm)]; exact h2, h3⟩
  · obtain ⟨h1, h2, h3⟩ := h.ours id b hb
    exact ⟨h1, h2, Nat.lt_of_lt_of_le h3 hc.size⟩

/-- a row is frozen: whoever holds it reads it as it is -/
theorem Rm.freeze {id : Nat} (h : Rm Γ w0 Bp F0 nt s a w m F) (hr : ∃ e xs, s.get (.row id) = some (.row e xs)) :
    Rm Γ w0 Bp F0 nt ((.mut id, none) :: s) a w m (fun b => F b ∨ ∃ n cap sz, m id = some (.row (some b) n cap sz)) := by
  obtain ⟨e, xs, hr⟩ := hr
  obtain ⟨o, cap, vals, h1, h2, h3, h4⟩ := h.row id e xs hr
  have he : ∀ k, k ≠ .mut id → St.get ((.mut id, none) :: s) k = s.get k := fun k hk => by rw [St.get_cons, if_neg (fun e => hk e.symm)]
  have hmn : St.get ((.mut id, none) :: s) (.mut id) = none := by rw [St.get_cons, if_pos rfl]
  have hid : ∀ id p, m id = some p → m id = some p := fun _ _ e => e
  have hw : ∀ ad : Addr, F ad.block → w.cell? ad = w.cell? ad := fun _ _ => rfl
  have hbase : ∀ b n cap sz, m id = some (.row (some b) n cap sz) → (F0 b ∨ w0.heap.size ≤ b ∨ BB Bp b) ∧ b < w.heap.size := by
    intro b n cap' sz hb
    cases hq : s.get (.mut id) with
    | some x =>
      have := h.ours id b (.inr ⟨n, cap', sz, hb, by rw [hq]; rfl⟩)
      exact ⟨.inr this.2.1, this.2.2⟩
    | none =>
      rw [h1] at hb
      simp only [Option.some.injEq, Place.row.injEq] at hb
      have hf := h4 hq b hb.1
      exact ⟨h.f1 b hf, h.f2 b hf⟩
  have howns : ∀ id' b, Owns ((.mut id, none) :: s) m id' b → Owns s m id' b ∧ (id' = id → ∃ n, m id = some (.box b n)) := by
    intro id' b hb
    rcases hb with hb | ⟨n, cap, sz, hb, hmm⟩
    · exact ⟨.inl hb, fun e => by subst e; exact hb⟩
    · by_cases hi : id' = id
      · subst hi
        rw [hmn] at hmm
        cases hmm
      · rw [he _ (by simpa using hi)] at hmm
        exact ⟨.inr ⟨n, cap, sz, hb, hmm⟩, fun e => absurd e hi⟩
  refine ⟨h.fr, fun b hb => .inl (h.f0 b hb), fun b hb => ?_, fun b hb => ?_, h.bp, fun t v ht => (h.tmp t v (by rwa [he _ (by simp)] at ht)).mono hid (fun _ => .inl) hw, fun id' off l hl => ?_, fun id' e' xs' hx => ?_,
    fun id' n => by rw [he _ (by simp)]; exact h.used id' n, fun id' => by rw [he _ (by simp)]; exact h.free id', h.box, fun id' b hb => ?_, fun i j b h1 h2 => h.dist i j b (howns _ _ h1).1 (howns _ _ h2).1, h.nodef, h.size, h.fix, fun id' hn => by
    rw [he _ (by simp)] at hn
    by_cases hi : id' = id
    · subst hi; exact hmn
    · rw [he _ (by simpa using hi)]; exact h.mu id' hn, h.cst.1, fun id' b hb => h.cst.2.1 id' b (howns id' b hb).1, h.cst.2.2⟩
  · rcases hb with hb | ⟨n, cap, sz, hb⟩
    · exact h.f1 b hb
    · exact (hbase _ _ _ _ hb).1
  · rcases hb with hb | ⟨n, cap, sz, hb⟩
    · exact h.f2 b hb
    · exact (hbase _ _ _ _ hb).2
  · rw [he _ (by simp)] at hl
    obtain ⟨b, n, v, a1, a2, a3, a4⟩ := h.cell id' off l hl
    exact ⟨b, n, v, a1, a2, a3, a4.mono hid (fun _ => .inl) hw⟩
  · rw [he _ (by simp)] at hx
    obtain ⟨o', cap', vals', a1, a2, a3, a4⟩ := h.row id' e' xs' hx
    refine ⟨o', cap', vals', a1, a2, a3.mono hid (fun _ => .inl) hw, fun hn b hb => ?_⟩
    by_cases hi : id' = id
    · subst hi; subst hb; exact .inr ⟨_, _, _, a1⟩
    · rw [he _ (by simpa using hi)] at hn
      exact .inl (a4 hn b hb)
  · obtain ⟨ho, hne⟩ := howns id' b hb
    obtain ⟨b1, b2, b3⟩ := h.ours id' b ho
    refine ⟨fun hf => ?_, b2, b3⟩
    rcases hf with hf | ⟨n, cap, sz, hf⟩
    · exact b1 hf
    · by_cases hmut : (s.get (.mut id)).isSome = true
      · have hi : id' = id := h.dist id' id b ho (.inr ⟨n, cap, sz, hf, hmut⟩)
        obtain ⟨n', hb'⟩ := hne hi
        rw [hb'] at hf
        cases hf
      · have hn : s.get (.mut id) = none := by cases hq : s.get (.mut id) with
          | none => rfl
          | some x => rw [hq] at hmut; simp at hmut
        rw [h1] at hf
        simp only [Option.some.injEq, Place.row.injEq] at hf
        exact b1 (h4 hn b hf.1)

def setPl (m : Places) (d : Nat) (p : Place) : Places := fun id => if id = d then some p else m id
theorem setPl_same (m : Places) (d : Nat) (p : Place) : setPl m d p d = some p := by simp [setPl]
theorem setPl_other {m : Places} {d id : Nat} {p : Place} (h : id ≠ d) : setPl m d p id = m id := by simp [setPl, h]
theorem setPl_mono {m : Places} {d : Nat} {p : Place} (h : m d = none) : ∀ id q, m id = some q → setPl m d p id = some q := by
  intro id q hq
  by_cases e : id = d
  · subst e; rw [h] at hq; cases hq
  · rw [setPl_other e]; exact hq

/-- a name gets a place -/
theorem Rm.nameG {d k : Nat} {p : Place} (h : Rm Γ w0 Bp F0 nt s a w m F) (hu : s.get (.used d) = none) (hdx : ∀ b, Bp d b → ∃ n, p = .box b n ∧ ∃ C t, w0.heap[b]? = some (.cells C t (0, 0)) ∧ C.size = n) (hp : ∀ b n, p = .box b n → k = n ∧ ¬ F b ∧ (w0.heap.size ≤ b ∨ BB Bp b) ∧ (∃ C t, w.heap[b]? = some (.cells C t (0, 0)) ∧ C.size = n) ∧ ∀ id, ¬ Owns s m id b) (hdb : ∀ b n, p = .box b n → CB Bp b → Bp d b) (hq : ∀ o n' cap sz, p = .row o n' cap sz → k = n' + 1) :
    Rm Γ w0 Bp F0 nt ((.used d, some (.num k)) :: s) a w (setPl m d p) F := by
  have hfree := h.free d hu
  have hmut := h.mu d hu
  have hm := setPl_mono (p := p) hfree
  have hw : ∀ ad : Addr, F ad.block → w.cell? ad = w.cell? ad := fun _ _ => rfl
  have hF : ∀ b, F b → F b := fun _ x => x
  have he : ∀ k', k' ≠ .used d → St.get ((.used d, some (.num k)) :: s) k' = s.get k' := fun k' hk => by rw [St.get_cons, if_neg (fun e => hk e.symm)]
  have hown : ∀ id b, Owns ((.used d, some (.num k)) :: s) (setPl m d p) id b → (id = d ∧ ∃ n, p = .box b n) ∨ Owns s m id b := by
    intro id b hb
    rcases hb with ⟨n, hb⟩ | ⟨n, cap, sz, hb, hmm⟩
    · by_cases e : id = d
      · subst e; rw [setPl_same] at hb; exact .inl ⟨rfl, n, by simpa using hb⟩
      · rw [setPl_other e] at hb; exact .inr (.inl ⟨n, hb⟩)
    · by_cases e : id = d
      · subst e; rw [he _ (by simp), hmut] at hmm; cases hmm
      · rw [setPl_other e] at hb; rw [he _ (by simp)] at hmm; exact .inr (.inr ⟨n, cap, sz, hb, hmm⟩)
  refine ⟨h.fr, h.f0, h.f1, h.f2, h.bp, fun t v ht => (h.tmp t v (by rwa [he _ (by simp)] at ht)).mono hm hF hw, fun id off l hl => ?_, fun id e xs hx => ?_, fun id n hn => ?_, fun id hn => ?_, fun id b n hb => ?_, fun id b hb => ?_, fun i j b h1 h2 => ?_, h.nodef, h.size, ⟨h.fix.1, h.fix.2.1, fun id b hb q hq => by
    by_cases e : id = d
    · subst e; rw [setPl_same] at hq; cases hq; exact hdx b hb
    · rw [setPl_other e] at hq
      exact h.fix.2.2 id b hb q hq⟩, fun id hn => by
    rw [St.get_cons] at hn
    split at hn
    · cases hn
    · rw [he _ (by simp)]; exact h.mu id hn, h.cst.1, fun id b hb hc => by
    rcases hown id b hb with ⟨rfl, n, hn⟩ | hb
    · exact ⟨hdb b n hn hc, n, by rw [setPl_same, hn]⟩
    · obtain ⟨h1, n, h2⟩ := h.cst.2.1 id b hb hc
      exact ⟨h1, n, hm _ _ h2⟩, h.cst.2.2⟩
  · rw [he _ (by simp)] at hl
    obtain ⟨b, n, v, a1, a2, a3, a4⟩ := h.cell id off l hl
    exact ⟨b, n, v, hm _ _ a1, a2, a3, a4.mono hm hF hw⟩
  · rw [he _ (by simp)] at hx
    obtain ⟨o, cap, vals, a1, a2, a3, a4⟩ := h.row id e xs hx
    exact ⟨o, cap, vals, hm _ _ a1, a2, a3.mono hm hF hw, fun hn => a4 (by rwa [he _ (by simp)] at hn)⟩
  · rw [St.get_cons] at hn
    by_cases e : d = id
    · subst e
      simp at hn
      subst hn
      exact ⟨p, setPl_same _ _ _, fun b n' hb => ((hp b n' hb).1).symm, hq⟩
    · rw [if_neg (by simpa using e)] at hn
      obtain ⟨q, hq, hq2⟩ := h.used id n hn
      exact ⟨q, hm _ _ hq, hq2⟩
  · rw [St.get_cons] at hn
    by_cases e : d = id
    · subst e; simp at hn
    · rw [if_neg (by simpa using e)] at hn
      rw [setPl_other (fun x => e x.symm)]
      exact h.free id hn
  · by_cases e : id = d
    · subst e
      rw [setPl_same] at hb
      obtain ⟨_, _, h1, h2, _⟩ := hp b n (by simpa using hb)
      exact ⟨h1, h2⟩
    · rw [setPl_other e] at hb; exact h.box id b n hb
  · rcases hown id b hb with ⟨rfl, n, hn⟩ | hb
    · obtain ⟨_, h1, h2, ⟨C, t, h3, _⟩, _⟩ := hp b n hn
      exact ⟨h1, h2, (Array.getElem?_eq_some_iff.1 h3).1⟩
    · exact h.ours id b hb
  · rcases hown i b h1 with ⟨rfl, n, hn⟩ | h1'
    · rcases hown j b h2 with ⟨rfl, _⟩ | h2'
      · rfl
      · exact absurd h2' ((hp b n hn).2.2.2.2 j)
    · rcases hown j b h2 with ⟨rfl, n, hn⟩ | h2'
      · exact absurd h1' ((hp b n hn).2.2.2.2 i)
      · exact h.dist i j b h1' h2'
/-- a name gets a place -/
theorem Rm.name {d k : Nat} {p : Place} (h : Rm Γ w0 Bp F0 nt s a w m F) (hu : s.get (.used d) = none) (hdx : d < 900000) (hp : ∀ b n, p = .box b n → k = n ∧ ¬ F b ∧ (w0.heap.size ≤ b ∨ BB Bp b) ∧ (∃ C t, w.heap[b]? = some (.cells C t (0, 0)) ∧ C.size = n) ∧ ∀ id, ¬ Owns s m id b) (hcb : ∀ b n, p = .box b n → ¬ CB Bp b) (hq : ∀ o n' cap sz, p = .row o n' cap sz → k = n' + 1) :
    Rm Γ w0 Bp F0 nt ((.used d, some (.num k)) :: s) a w (setPl m d p) F :=
  h.nameG hu (fun b hb => by have := h.fix.2.1 d b hb; omega) hp (fun b n hp hc => absurd hc (hcb b n hp)) hq
/-- a row that is the function's own -/
theorem Rm.row1 {d : Nat} {e : TypeId} {xs : List (Γ.α e)} {o : Option Nat} {cap : Nat} {vals : List Value} (h : Rm Γ w0 Bp F0 nt s a w m F) (hm : m d = some (.row o xs.length cap (Γ.sz e)))
    (hown : w.ownsRow 0 e (Γ.sz e) (sliceV o xs.length cap) xs.length vals) (hrel : RLs m F w (flat Γ e xs) vals) (hnew : ∀ b, o = some b → ¬ F b ∧ (w0.heap.size ≤ b ∨ BB Bp b) ∧ ∀ id, ¬ Owns s m id b) (hcb : ∀ b, o = some b → ¬ CB Bp b) :
    Rm Γ w0 Bp F0 nt ((.mut d, some (.num 0)) :: (.row d, some (.row e xs)) :: s) a w m F := by
  have he : ∀ k', k' ≠ .mut d → k' ≠ .row d → St.get ((.mut d, some (.num 0)) :: (.row d, some (.row e xs)) :: s) k' = s.get k' := fun k' h1 h2 => by
    rw [St.get_cons, if_neg (fun e => h1 e.symm), St.get_cons, if_neg (fun e => h2 e.symm)]
  have hb : ∀ b, o = some b → b < w.heap.size := by
    intro b ho
    subst ho
    exact (hown.lt b (by simp [sliceV, Value.ownBlock])).2
  have hO : ∀ id b, Owns ((.mut d, some (.num 0)) :: (.row d, some (.row e xs)) :: s) m id b → (id = d ∧ o = some b) ∨ Owns s m id b := by
    intro id b hb
    rcases hb with hb | ⟨n, cap', sz, hb, hmm⟩
    · exact .inr (.inl hb)
    · by_cases e' : id = d
      · subst e'
        rw [hm] at hb
        simp only [Option.some.injEq, Place.row.injEq] at hb
        exact .inl ⟨rfl, hb.1⟩
      · rw [he _ (by simpa using e') (by simp)] at hmm
        exact .inr (.inr ⟨n, cap', sz, hb, hmm⟩)
  refine ⟨h.fr, h.f0, h.f1, h.f2, h.bp, fun t v ht => h.tmp t v (by rwa [he _ (by simp) (by simp)] at ht), fun id off l hl => h.cell id off l (by rwa [he _ (by simp) (by simp)] at hl), fun id e' xs' hx => ?_,
    fun id n hn => h.used id n (by rwa [he _ (by simp) (by simp)] at hn), fun id hn => h.free id (by rwa [he _ (by simp) (by simp)] at hn), h.box, fun id b hb' => ?_, fun i j b h1 h2 => ?_, h.nodef, h.size, h.fix, fun id hn => by
    rw [he _ (by simp) (by simp)] at hn
    by_cases e2 : id = d
    · subst e2; rw [h.free _ hn] at hm; cases hm
    · rw [he _ (by simpa using e2) (by simp)]; exact h.mu id hn, h.cst.1, fun id b hb' hc => by
    rcases hO id b hb' with ⟨rfl, ho⟩ | hb'
    · exact absurd hc (hcb b ho)
    · exact h.cst.2.1 id b hb' hc, h.cst.2.2⟩
  · by_cases e2 : id = d
    · subst e2
      rw [St.get_cons, if_neg (by simp), St.get_cons, if_pos rfl] at hx
      simp only [Option.some.injEq, Val.row.injEq] at hx
      obtain ⟨rfl, hx⟩ := hx
      simp only [heq_eq_eq] at hx
      subst hx
      refine ⟨o, cap, vals, hm, hown, hrel, fun hn => ?_⟩
      rw [St.get_cons, if_pos rfl] at hn
      cases hn
    · rw [he _ (by simp) (by simpa using e2)] at hx
      obtain ⟨o', cap', vals', a1, a2, a3, a4⟩ := h.row id e' xs' hx
      exact ⟨o', cap', vals', a1, a2, a3, fun hn => a4 (by rwa [he _ (by simpa using e2) (by simp)] at hn)⟩
  · rcases hO id b hb' with ⟨rfl, ho⟩ | hb'
    · exact ⟨(hnew b ho).1, (hnew b ho).2.1, hb b ho⟩
    · exact h.ours id b hb'
  · rcases hO i b h1 with ⟨rfl, ho⟩ | h1'
    · rcases hO j b h2 with ⟨rfl, _⟩ | h2'
      · rfl
      · exact absurd h2' ((hnew b ho).2.2 j)
    · rcases hO j b h2 with ⟨rfl, ho⟩ | h2'
      · exact absurd h1' ((hnew b ho).2.2 i)
      · exact h.dist i j b h1' h2'
/-- where a row can lie -/
theorem Rm.rowBlk {id b n cap sz : Nat} {e : TypeId} {xs : List (Γ.α e)} (h : Rm Γ w0 Bp F0 nt s a w m F) (hr : s.get (.row id) = some (.row e xs)) (hb : m id = some (.row (some b) n cap sz)) : F0 b ∨ w0.heap.size ≤ b ∨ BB Bp b := by
  obtain ⟨o, cap', vals, h1, h2, h3, h4⟩ := h.row id e xs hr
  cases hq : s.get (.mut id) with
  | some x => exact .inr (h.ours id b (.inr ⟨n, cap, sz, hb, by rw [hq]; rfl⟩)).2.1
  | none =>
    rw [h1] at hb
    simp only [Option.some.injEq, Place.row.injEq] at hb
    exact h.f1 b (h4 hq b hb.1)
/-- what a variable's cell holds, told -/
theorem Rm.cell1 {id off b n : Nat} {l : Lf Γ.α} {v : Value} (h : Rm Γ w0 Bp F0 nt s a w m F) (hm : m id = some (.box b n)) (ho : off < n) (hc : w.cell? ⟨b, off, none⟩ = some v) (hl : RLf m F w l v) :
    Rm Γ w0 Bp F0 nt ((.cell id off, some (.lf l)) :: s) a w m F := by
  have he : ∀ k', (∀ i j, k' ≠ .cell i j) → St.get ((.cell id off, some (.lf l)) :: s) k' = s.get k' := fun k' h1 => by rw [St.get_cons, if_neg (fun e => h1 _ _ e.symm)]
  refine ⟨h.fr, h.f0, h.f1, h.f2, h.bp, fun t v ht => h.tmp t v (by rwa [he _ (by simp)] at ht), fun id' off' l' hl' => ?_, fun id e xs hx => ?_, fun id n hn => h.used id n (by rwa [he _ (by simp)] at hn), fun id hn => h.free id (by rwa [he _ (by simp)] at hn), h.box,
    fun i b hb => h.ours i b (by simpa [Owns, he] using hb), fun i j b h1 h2 => h.dist i j b (by simpa [Owns, he] using h1) (by simpa [Owns, he] using h2), h.nodef, h.size, h.fix, fun id hn => by rw [he _ (by simp)] at hn ⊢; exact h.mu id hn, h.cst.1, fun i b hb => h.cst.2.1 i b (by simpa [Owns, he] using hb), h.cst.2.2⟩
  · rw [St.get_cons] at hl'
    split at hl'
    · rename_i e
      simp only [Key.cell.injEq] at e
      obtain ⟨rfl, rfl⟩ := e
      simp only [Option.some.injEq, Val.lf.injEq] at hl'
      subst hl'
      exact ⟨b, n, v, hm, ho, hc, hl⟩
    · exact h.cell id' off' l' hl'
  · rw [he _ (by simp)] at hx
    obtain ⟨o', cap', vals', a1, a2, a3, a4⟩ := h.row id e xs hx
    exact ⟨o', cap', vals', a1, a2, a3, fun hn => a4 (by rwa [he _ (by simp)] at hn)⟩
theorem Rm.cells {id b n : Nat} (hm : m id = some (.box b n)) : ∀ (cs : List (Lf Γ.α)) (vals : List Value) (off : Nat) (s : St Γ.α), Rm Γ w0 Bp F0 nt s a w m F → off + cs.length ≤ n → (∀ k v, vals[k]? = some v → w.cell? ⟨b, off + k, none⟩ = some v) → RLs m F w cs vals →
    Rm Γ w0 Bp F0 nt (wr s (wrCells id off cs)) a w m F
  | [], _, _, _, h, _, _, _ => h
  | l :: cs, vals, off, s, h, hn, hc, hr => by
    obtain ⟨v, vs, rfl, h1, h2⟩ := hr.inv
    simp only [List.length_cons] at hn
    have := h.cell1 (off := off) hm (by omega) (by have := hc 0 v rfl; simpa using this) h1
    exact Rm.cells hm cs vs (off + 1) _ this (by omega) (fun k u hu => by have := hc (k + 1) u (by simpa using hu); rwa [show off + (k + 1) = off + 1 + k by omega] at this) h2
/-- one of the function's own blocks turns -/
theorem Rm.touch {id b : Nat} {s' : St Γ.α} {w' : World} (h : Rm Γ w0 Bp F0 nt s a w m F) (ho : Owns s m id b) (hc : Ch (fun x => x = b) w w')
    (he : ∀ k, (∀ off, k ≠ .cell id off) → k ≠ .row id → s'.get k = s.get k)
    (hbox : ∀ n, m id = some (.box b n) → ∃ C t, w'.heap[b]? = some (.cells C t (0, 0)) ∧ C.size = n)
    (hcell : ∀ off l, s'.get (.cell id off) = some (.lf l) → ∃ n v, m id = some (.box b n) ∧ off < n ∧ w'.cell? ⟨b, off, none⟩ = some v ∧ RLf m F w l v)
    (hrow : ∀ e xs, s'.get (.row id) = some (.row e xs) → (s.get (.mut id)).isSome = true ∧ ∃ cap vals, m id = some (.row (some b) xs.length cap (Γ.sz e)) ∧ w'.ownsRow 0 e (Γ.sz e) (sliceV (some b) xs.length cap) xs.length vals ∧ RLs m F w (flat Γ e xs) vals)
    (hcst : ∀ n, m id = some (.box b n) → ∀ off, cbit id off = true → w'.cell? ⟨b, off, none⟩ = w.cell? ⟨b, off, none⟩) :
    Rm Γ w0 Bp F0 nt s' a w' m F := by
  obtain ⟨hb1, hb2, hb3⟩ := h.ours id b ho
  have hid : ∀ id p, m id = some p → m id = some p := fun _ _ e => e
  have hF : ∀ b, F b → F b := fun _ x => x
  have hw : ∀ ad : Addr, F ad.block → w'.cell? ad = w.cell? ad := fun ad hf => hc.cell (h.f2 _ hf) (fun e => hb1 (e ▸ hf))
  have hO : ∀ i x, Owns s' m i x → Owns s m i x := fun i x hx => by
    rcases hx with hx | ⟨n, cap, sz, hx, hmm⟩
    · exact .inl hx
    · exact .inr ⟨n, cap, sz, hx, by rwa [he _ (by simp) (by simp)] at hmm⟩
  refine ⟨⟨hc.os.trans h.fr.os, hc.tape.trans h.fr.tape, hc.output.trans h.fr.output, Nat.le_trans h.fr.size hc.size, fun k hk hp => ?_⟩, h.f0, h.f1, fun b hb => Nat.lt_of_lt_of_le (h.f2 b hb) hc.size, h.bp,
    fun t v ht => (h.tmp t v (by rwa [he _ (by simp) (by simp)] at ht)).mono hid hF hw, fun id' off l hl => ?_, fun id' e xs hx => ?_, fun id' n hn => h.used id' n (by rwa [he _ (by simp) (by simp)] at hn), fun id' hn => h.free id' (by rwa [he _ (by simp) (by simp)] at hn),
    fun id' b' n hb => ?_, fun i x hx => ?_, fun i j x h1 h2 => h.dist i j x (hO _ _ h1) (hO _ _ h2), h.nodef, h.size, h.fix, fun id' hn => by rw [he _ (by simp) (by simp)] at hn ⊢; exact h.mu id' hn, h.cst.1, fun i x hx => h.cst.2.1 i x (hO i x hx), fun i x off hx hk => by
      by_cases e : x = b
      · subst e
        obtain ⟨h1, n, h2⟩ := h.cst.2.1 id x ho ⟨i, off, hx, hk⟩
        have := h.cst.1 _ _ _ h1 hx
        subst this
        rw [hcst n h2 off hk]
        exact h.cst.2.2 _ x off hx hk
      · rw [hc.cell (Nat.lt_of_lt_of_le (h.bp x ⟨i, hx⟩).1 h.fr.size) e]
        exact h.cst.2.2 i x off hx hk⟩
  · rw [hc.block k (Nat.lt_of_lt_of_le hk h.fr.size) (fun e => by subst e; rcases hb2 with h1 | h1; · omega
                                                                  · exact hp h1)]
    exact h.fr.block k hk hp
  · by_cases e : id' = id
    · subst e
      obtain ⟨n, v, a1, a2, a3, a4⟩ := hcell off l hl
      exact ⟨b, n, v, a1, a2, a3, a4.mono hid hF hw⟩
    · rw [he _ (by simp [e]) (by simp)] at hl
      obtain ⟨b', n, v, a1, a2, a3, a4⟩ := h.cell id' off l hl
      refine ⟨b', n, v, a1, a2, ?_, a4.mono hid hF hw⟩
      rw [hc.cell (World.block_lt_of_cell? w ⟨b', off, none⟩ a3) (fun e' => e (h.dist id' id b (.inl ⟨n, by rw [a1]; exact congrArg _ (by rw [show b' = b from e'])⟩) ho))]
      exact a3
  · by_cases e' : id' = id
    · subst e'
      obtain ⟨hs, cap, vals, a1, a2, a3⟩ := hrow e xs hx
      exact ⟨some b, cap, vals, a1, a2, a3.mono hid hF hw, fun hn => by rw [he _ (by simp) (by simp)] at hn; rw [hn] at hs; cases hs⟩
    · rw [he _ (by simp) (by simpa using e')] at hx
      obtain ⟨o, cap, vals, a1, a2, a3, a4⟩ := h.row id' e xs hx
      refine ⟨o, cap, vals, a1, ⟨a2.1, ?_⟩, a3.mono hid hF hw, fun hn => a4 (by rwa [he _ (by simp) (by simp)] at hn)⟩
      rcases a2.2 with hn | ⟨g, cap', cur, hv, hbg, hg, rest⟩
      · exact .inl hn
      · refine .inr ⟨g, cap', cur, hv, hbg, ?_, rest⟩
        have hog : o = some g := by
          cases o with
          | none => simp [sliceV] at hv
          | some q => simp [sliceV] at hv; rw [hv.1]
        subst hog
        rw [hc.block g (Array.getElem?_eq_some_iff.1 hg).1 (fun e2 => ?_)]
        · exact hg
        · subst e2
          by_cases hmut : (s.get (.mut id')).isSome = true
          · exact e' (h.dist id' id g (.inr ⟨_, _, _, a1, hmut⟩) ho)
          · exact hb1 (a4 (by cases hq : s.get (.mut id') with
              | none => rfl
              | some x => rw [hq] at hmut; simp at hmut) g rfl)
  · by_cases e : b' = b
    · subst e
      have : id' = id := h.dist id' id b' (.inl ⟨n, hb⟩) ho
      subst this
      exact ⟨(h.box id' b' n hb).1, hbox n hb⟩
    · obtain ⟨h1, C, t, h2, h3⟩ := h.box id' b' n hb
      exact ⟨h1, C, t, by rw [hc.block b' (Array.getElem?_eq_some_iff.1 h2).1 e]; exact h2, h3⟩
  · obtain ⟨x1, x2, x3⟩ := h.ours i x (hO i x hx)
    exact ⟨x1, x2, Nat.lt_of_lt_of_le x3 hc.size⟩
end
end Go.Proofs.Ytlhknehkcflkgaa.Ab
