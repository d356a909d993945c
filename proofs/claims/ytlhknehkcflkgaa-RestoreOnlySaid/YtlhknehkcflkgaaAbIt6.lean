/- restore.Next: its entry. -/
import Derived.Test.YtlhknehkcflkgaaAbIt5
import Derived.Laws.OwnMore
import Derived.Deep.CutBlock
import Derived.StillTailTactics
set_option autoImplicit false
set_option linter.unusedVariables false
set_option maxRecDepth 100000
namespace Go.Proofs.Ytlhknehkcflkgaa.It
open Go Go.RowKit Go.Maps Go.Shelf Ab
/-- a row of numbers among what came in -/
theorem ints_cells {F0 : Nat → Prop} {w : World} {xs : List Int} {v : Value} (h : RLf (Γ := reg) (fun _ => none) F0 w (.sl 3 xs) v) :
    ∃ A c, v = .slice A xs.length c ∧ (0 < xs.length → ∃ b off, A = some ⟨b, off, none⟩ ∧ F0 b ∧ ∀ i, i < xs.length → w.cell? ⟨b, off + i, none⟩ = some (.int .i64 (Ab.rd xs i 0))) := by
  generalize hV : v = V at h
  cases h with
  | sl e xs A c vals hvl hc hcell hrel =>
    refine ⟨A, c, rfl, fun hl => ?_⟩
    have hvl : vals.length = xs.length * 1 := hvl
    have hk : ∀ i, i < xs.length → vals[i]? = some (.int .i64 (Ab.rd xs i 0)) := fun i hi => by
      have h1 : i < vals.length := by omega
      have hg := hrel i (.int .i64 (Ab.rd xs i 0)) vals[i] (by
        have h2 := flat_get (Γ := reg) regOk (e := 3) (0 : Int) xs i (by decide) (by show i / 1 < xs.length; omega)
        have e1 : i / reg.sz 3 = i := by show i / 1 = i; omega
        have e2 : i % reg.sz 3 = 0 := by show i % 1 = 0; omega
        rw [e1, e2] at h2
        exact h2) (List.getElem?_eq_getElem h1)
      rw [List.getElem?_eq_getElem h1]
      generalize vals[i] = u at hg
      cases hg
      rfl
    obtain ⟨ad, e1, e2, e3⟩ := hcell 0 _ (hk 0 hl)
    subst e1
    obtain ⟨b, off, spot⟩ := ad
    have hspot : spot = none := by simpa [Addr.add] using World.cell?_spot e3
    subst hspot
    refine ⟨b, off, rfl, e2, fun i hi => ?_⟩
    obtain ⟨ad, e1, e2, e3⟩ := hcell i _ (hk i hi)
    cases e1
    rw [← e3, add_lit]
/-- the cuts among what came in -/
theorem cut_cells {F0 : Nat → Prop} {w : World} {xs : List T.Cut} {v : Value} (h : RLf (Γ := reg) (fun _ => none) F0 w (.sl 71 xs) v) :
    ∃ A c, v = .slice A xs.length c ∧ (0 < xs.length → ∃ b off, A = some ⟨b, off, none⟩ ∧ F0 b ∧ ∀ i, i < xs.length → w.cell? ⟨b, off + i * 3, none⟩ = some (.bool (Ab.rd xs i default).Off)) := by
  generalize hV : v = V at h
  cases h with
  | sl e xs A c vals hvl hc hcell hrel =>
    refine ⟨A, c, rfl, fun hl => ?_⟩
    have hvl : vals.length = xs.length * 3 := hvl
    have hk : ∀ i, i < xs.length → vals[i * 3]? = some (.bool (Ab.rd xs i default).Off) := fun i hi => by
      have h1 : i * 3 < vals.length := by omega
      have hg := hrel (i * 3) (.bool (Ab.rd xs i default).Off) vals[i * 3] (by
        have h2 := flat_get (Γ := reg) regOk (e := 71) (default : T.Cut) xs (i * 3) (by decide) (by show i * 3 / 3 < xs.length; omega)
        have e1 : i * 3 / reg.sz 71 = i := by show i * 3 / 3 = i; omega
        have e2 : i * 3 % reg.sz 71 = 0 := by show i * 3 % 3 = 0; omega
        rw [e1, e2] at h2
        exact h2) (List.getElem?_eq_getElem h1)
      rw [List.getElem?_eq_getElem h1]
      generalize vals[i * 3] = u at hg
      cases hg
      rfl
    obtain ⟨ad, e1, e2, e3⟩ := hcell (0 * 3) _ (hk 0 hl)
    subst e1
    obtain ⟨b, off, spot⟩ := ad
    have hspot : spot = none := by simpa [Addr.add] using World.cell?_spot e3
    subst hspot
    refine ⟨b, off, rfl, e2, fun i hi => ?_⟩
    obtain ⟨ad, e1, e2, e3⟩ := hcell (i * 3) _ (hk i hi)
    cases e1
    rw [← e3, add_lit]
theorem check_zones {f : T.Feeder} (h : feeder_Check f = some 0) : f.Zones.length ≤ 16 := by
  unfold feeder_Check feeder_Check.f at h
  cases h1 : decide ((f.Switches.length : Int) > 32) with
  | true => rw [h1] at h; cases h
  | false =>
  rw [h1] at h
  cases h2 : decide ((f.Zones.length : Int) > 16) with
  | true => rw [h2] at h; cases h
  | false =>
  have := of_decide_eq_false h2
  omega
theorem path_zones {f : T.Feeder} {s : Int} {xs : List Int} (h : feeder_Path f s = some xs) : xs.length ≤ 100 ∧ (0 < xs.length → f.Zones.length ≤ 16) := by
  unfold feeder_Path at h
  cases hE : feeder_Check f with
  | none => rw [hE] at h; cases h
  | some E =>
  rw [hE] at h
  have h : Ab.sel (E != 0) (some []) (Ab.sel (decide (s < 0)) (some []) (Ab.sel (decide (s ≥ (f.Switches.length : Int))) (some []) (pathUp f.Switches 100 s []))) = some xs := h
  cases h1 : (E != 0) with
  | true => rw [h1] at h; cases h; exact ⟨by simp, fun h => by simp at h⟩
  | false =>
  have hz : f.Zones.length ≤ 16 := check_zones (by rw [hE]; simpa using h1)
  rw [h1] at h
  refine ⟨?_, fun _ => hz⟩
  cases h2 : decide (s < 0) with
  | true => rw [h2] at h; cases h; simp
  | false =>
  rw [h2] at h
  cases h3 : decide (s ≥ (f.Switches.length : Int)) with
  | true => rw [h3] at h; cases h; simp
  | false =>
  rw [h3] at h
  have := pathUp_len (show pathUp f.Switches 100 s [] = some xs from h)
  simpa using this
/-- a call of feeder.Path later on -/
theorem path_at {F0 : Nat → Prop} {w W : World} {f : T.Feeder} {s : Int} {xs : List Int} {v1 v2 v3 : Value} (hF0 : ∀ b, F0 b → b < w.heap.size) (h1 : RLf (Γ := reg) (fun _ => none) F0 w (.sl 76 f.Switches) v1) (h2 : RLf (Γ := reg) (fun _ => none) F0 w (.sl 3 f.Zones) v2) (h3 : v3 = .int .i64 f.Reply)
    (hB : Below w.heap.size w W) (hP : feeder_Path f s = some xs) :
    Calls Go.Proofs.Try.prog 72 #[.agg #[v1, v2, v3], .int .i64 s] W fun e w' => ∃ A cap, e = .returned (.slice A xs.length cap) ∧ Below W.heap.size W w' ∧ (0 < xs.length → ∃ g, A = some ⟨g, 0, none⟩ ∧ W.heap.size ≤ g ∧ g < w'.heap.size ∧ IntsAt w' g xs) := by
  have hcell : ∀ ad : Addr, F0 ad.block → W.cell? ad = w.cell? ad := fun ad hf => World.cell?_of_block (hB.block _ (hF0 _ hf))
  refine (path_calls (fun b hb => Nat.lt_of_lt_of_le (hF0 b hb) hB.size) (h1.mono (fun _ _ e => e) (fun _ x => x) hcell) (h2.mono (fun _ _ e => e) (fun _ x => x) hcell) h3 hP).mono fun e w' => ?_
  rintro ⟨v, rfl, hrow, hb⟩
  rcases hrow.2 with ⟨rfl, h0⟩ | ⟨g, cap, cur, rfl, hge, hg, _⟩
  · rw [h0]
    exact ⟨none, 0, rfl, hb, fun h => by omega⟩
  · refine ⟨_, cap, rfl, hb, fun _ => ⟨g, rfl, hge, (Array.getElem?_eq_some_iff.1 hg).1, fun i hi => ?_⟩⟩
    rw [hrow.cellAt i (by omega)]
    simp [Ab.rd, hi, encI]
/-- Next's own world -/
structure NxAt (w : World) (A : Nat) (fv : Array Value) (a : Int) (W : World) : Prop where
  low : Below w.heap.size w W
  at_ : W.heap[A]? = some (.cells #[.int .i64 a] 3 (0, 0))
  box : W.heap[w.heap.size]? = some (.cells fv 45 (0, 0))
theorem NxAt.later {w : World} {A : Nat} {fv : Array Value} {a : Int} {W W' : World} (h : NxAt w A fv a W) (hb : Below W.heap.size W W') (hA : w.heap.size < A) : NxAt w A fv a W' :=
  ⟨h.low.trans (hb.mono h.low.size), (hb.block A (Array.getElem?_eq_some_iff.1 h.at_).1).trans h.at_, (hb.block _ (Array.getElem?_eq_some_iff.1 h.box).1).trans h.box⟩
theorem lastOpen_cons {sw : List T.Switch} {s a r : Int} {xs : List Int} (h : lastOpen sw (s :: xs) a = some r) : 0 ≤ s ∧ s < (sw.length : Int) ∧ ((Ab.rd sw s.toNat default).Shown ≠ 1 → lastOpen sw xs s = some r) ∧ ((Ab.rd sw s.toNat default).Shown = 1 → lastOpen sw xs a = some r) := by
  unfold lastOpen at h
  cases h1 : decide (0 ≤ s) with
  | false => rw [h1] at h; cases h
  | true =>
  rw [h1] at h
  cases h2 : decide (s < (sw.length : Int)) with
  | false => rw [h2] at h; cases h
  | true =>
  rw [h2] at h
  have h : Ab.sel ((Ab.rd sw s.toNat default).Shown != 1) (lastOpen sw xs s) (lastOpen sw xs a) = some r := h
  refine ⟨of_decide_eq_true h1, of_decide_eq_true h2, fun hn => ?_, fun hn => ?_⟩
  · rw [show ((Ab.rd sw s.toNat default).Shown != 1) = true by simpa using hn] at h
    exact h
  · rw [show ((Ab.rd sw s.toNat default).Shown != 1) = false by simpa using hn] at h
    exact h
theorem NxAt.put {w : World} {A : Nat} {fv : Array Value} {a : Int} {W : World} (h : NxAt w A fv a W) (hA : w.heap.size < A) (s : Int) : NxAt w A fv s (W.setCell ⟨A, 0, none⟩ (.int .i64 s)) :=
  ⟨h.low.grown (grownBy_setCell0_a _ _ _) h.low.size (fun k e => by cases e; omega), heap_setCell_box_a _ h.at_, (Below.heap_setCell _ _ _ _ (by show w.heap.size ≠ A; omega)).trans h.box⟩
theorem NxAt.frozen {w : World} {A : Nat} {fv : Array Value} {a : Int} {W : World} (h : NxAt w A fv a W) : W.frozen? ⟨A, 0, none⟩ = false := (cell_of_box_a h.at_).2
theorem NxAt.cell {w : World} {A : Nat} {fv : Array Value} {a : Int} {W : World} (h : NxAt w A fv a W) : W.cell? ⟨A, 0, none⟩ = some (.int .i64 a) := (cell_of_box_a h.at_).1
theorem IntsAt.put {W : World} {g A : Nat} {xs : List Int} {v : Value} (h : IntsAt W g xs) (hg : g ≠ A) : IntsAt (W.setCell ⟨A, 0, none⟩ v) g xs := fun i hi => (World.cell?_of_block (Below.heap_setCell _ _ _ g hg)).trans (h i hi)
theorem powered_cons {c : List T.Cut} {f : T.Feeder} {zone a own : Int} {z : Nat} {r : List Int} {b : Bool} (h : powered c f zone a z (own :: r) = some b) :
    ((z : Int) = zone ∧ powered c f zone a (z + 1) r = some b) ∨ ((z : Int) ≠ zone ∧ z < c.length ∧ (((Ab.rd c z default).Off = false ∧ powered c f zone a (z + 1) r = some b) ∨ ((Ab.rd c z default).Off = true ∧ ∃ o q, feeder_Path f own = some o ∧ anyOpen f.Switches a o = some q ∧
      ((o.contains a = true ∧ q = false ∧ b = true) ∨ ((o.contains a = true → q = true) ∧ powered c f zone a (z + 1) r = some b))))) := by
  unfold powered at h
  by_cases h1 : (z : Int) = zone
  · rw [show ((z : Int) == zone) = true by simpa using h1] at h
    exact .inl ⟨h1, h⟩
  · rw [show ((z : Int) == zone) = false by simpa using h1] at h
    refine .inr ⟨h1, ?_⟩
    cases h2 : decide ((z : Int) < (c.length : Int)) with
    | false => rw [h2] at h; cases h
    | true =>
    rw [h2] at h
    refine ⟨by have := of_decide_eq_true h2; omega, ?_⟩
    cases h3 : (Ab.rd c z default).Off with
    | false => rw [h3] at h; exact .inl ⟨rfl, h⟩
    | true =>
    rw [h3] at h
    refine .inr ⟨rfl, ?_⟩
    cases h4 : feeder_Path f own with
    | none => rw [h4] at h; cases h
    | some o =>
    rw [h4] at h
    cases h5 : anyOpen f.Switches a o with
    | none =>
      have h : Ab.obind (anyOpen f.Switches a o) (fun open_ => Ab.sel (o.contains a && !open_) (some true) (powered c f zone a (z + 1) r)) = some b := h
      rw [h5] at h; cases h
    | some q =>
    have h : Ab.obind (anyOpen f.Switches a o) (fun open_ => Ab.sel (o.contains a && !open_) (some true) (powered c f zone a (z + 1) r)) = some b := h
    rw [h5] at h
    have h : Ab.sel (o.contains a && !q) (some true) (powered c f zone a (z + 1) r) = some b := h
    refine ⟨o, q, rfl, h5, ?_⟩
    cases h6 : o.contains a with
    | false => rw [h6] at h; exact .inr ⟨(fun e => by cases e), h⟩
    | true =>
    rw [h6] at h
    cases q with
    | true => exact .inr ⟨fun _ => rfl, h⟩
    | false => cases h; exact .inl ⟨rfl, rfl, rfl⟩
set_option maxHeartbeats 8000000 in
theorem next_calls {F0 : Nat → Prop} {w : World} {c : List T.Cut} {f : T.Feeder} {zone : Int} {a : Int} {b : Bool} {v0 v1 v2 v3 : Value} (hF0 : ∀ b, F0 b → b < w.heap.size) (h0 : RLf (Γ := reg) (fun _ => none) F0 w (.sl 71 c) v0) (h1 : RLf (Γ := reg) (fun _ => none) F0 w (.sl 76 f.Switches) v1) (h2 : RLf (Γ := reg) (fun _ => none) F0 w (.sl 3 f.Zones) v2) (h3 : v3 = .int .i64 f.Reply) (hP : restore_Next c f zone = some (a, b)) :
    Calls Go.Proofs.Try.prog 53 #[v0, .agg #[v1, v2, v3], .int .i64 zone] w fun e w' => e = .returned (.tuple #[.int .i64 a, .bool b]) ∧ Below w.heap.size w w' := by
  unfold restore_Next at hP
  cases hz1 : decide (0 ≤ zone) with
  | false => rw [hz1] at hP; cases hP
  | true =>
  rw [hz1] at hP
  cases hz2 : decide (zone < (f.Zones.length : Int)) with
  | false => rw [hz2] at hP; cases hP
  | true =>
  rw [hz2] at hP
  have hz1 := of_decide_eq_true hz1
  have hz2 := of_decide_eq_true hz2
  obtain ⟨zn, rfl⟩ : ∃ n : Nat, zone = (n : Int) := ⟨zone.toNat, by omega⟩
  have hzn : zn < f.Zones.length := by omega
  rw [Int.toNat_natCast] at hP
  cases hpath : feeder_Path f (Ab.rd f.Zones zn default) with
  | none => rw [hpath] at hP; cases hP
  | some path =>
  rw [hpath] at hP
  have hP : Ab.sel (decide (0 < (path.length : Int))) (Ab.obind (lastOpen f.Switches path (Ab.rd path 0 default)) fun a => Ab.obind (powered c f zn a 0 f.Zones) fun b => some (a, b)) none = some (a, b) := hP
  cases hl : decide (0 < (path.length : Int)) with
  | false => rw [hl] at hP; cases hP
  | true =>
  rw [hl] at hP
  have hl : 0 < path.length := by have := of_decide_eq_true hl; omega
  cases hlo : lastOpen f.Switches path (Ab.rd path 0 default) with
  | none => rw [hlo] at hP; cases hP
  | some aL =>
  rw [hlo] at hP
  cases hpw : powered c f zn aL 0 f.Zones with
  | none => rw [show Ab.sel true (Ab.obind (some aL) fun a => Ab.obind (powered c f zn a 0 f.Zones) fun b => some (a, b)) none = Ab.obind (powered c f zn aL 0 f.Zones) fun b => some (aL, b) from rfl, hpw] at hP; cases hP
  | some bL =>
  rw [show Ab.sel true (Ab.obind (some aL) fun a => Ab.obind (powered c f zn a 0 f.Zones) fun b => some (a, b)) none = Ab.obind (powered c f zn aL 0 f.Zones) fun b => some (aL, b) from rfl, hpw] at hP
  cases hP
  obtain ⟨hpl, hzl⟩ := path_zones hpath
  have hzl := hzl hl
  have hsw : 0 < f.Switches.length := by
    cases path with
    | nil => simp at hl
    | cons s r => obtain ⟨x1, x2, _⟩ := lastOpen_cons hlo; omega
  obtain ⟨sb, so, sc, rfl, hsF, hSc⟩ := shown_cells h1 hsw
  obtain ⟨zA, zc, rfl, hZ⟩ := ints_cells h2
  obtain ⟨zb, zo, rfl, hzF, hZc⟩ := hZ (by omega)
  obtain ⟨cA, cc, rfl, hC⟩ := cut_cells h0
  subst h3
  obtain ⟨W0, hW0⟩ : ∃ W0, w.alloc (.cells #[.slice (some ⟨sb, so, none⟩) f.Switches.length sc, .slice (some ⟨zb, zo, none⟩) f.Zones.length zc, .int .i64 f.Reply] 45) = W0 := ⟨_, rfl⟩
  have hbox0 : W0.heap[w.heap.size]? = some (.cells #[.slice (some ⟨sb, so, none⟩) f.Switches.length sc, .slice (some ⟨zb, zo, none⟩) f.Zones.length zc, .int .i64 f.Reply] 45 (0, 0)) := by rw [← hW0]; exact World.alloc_heap_new w _
  have hb0 : Below w.heap.size w W0 := by rw [← hW0]; exact (Below.refl _ w).alloc (Nat.le_refl _) _
  obtain ⟨W1, hW1⟩ : ∃ W1, ({ W0 with drawn := W0.drawn + 1 } : World) = W1 := ⟨_, rfl⟩
  have hbox1 : W1.heap[w.heap.size]? = some (.cells #[.slice (some ⟨sb, so, none⟩) f.Switches.length sc, .slice (some ⟨zb, zo, none⟩) f.Zones.length zc, .int .i64 f.Reply] 45 (0, 0)) := by rw [← hW1]; exact hbox0
  have hb1 : Below w.heap.size w W1 := by rw [← hW1]; exact hb0.drew
  obtain ⟨hk0, hk1, hk2⟩ := cells3 hbox1
  have hcz := (hb1.cell (p := ⟨zb, zo + zn, none⟩) (hF0 _ hzF)).trans (hZc zn hzn)
  have hp1 := path_at hF0 h1 h2 rfl hb1 hpath
  have hrz : Ab.rd f.Zones zn default = Ab.rd f.Zones zn 0 := rfl
  rw [hrz] at hp1
  generalize Ab.rd f.Zones zn 0 = own0 at hp1 hcz
  go_enter Go.Proofs.Try.func53, Go.Proofs.Try.ntmps53
  go_wp2_with (fail)
  try rw [hW0]
  refine wp_region_still_tail 6 (by kernel_rfl) (by kernel_rfl) ?_
  simp only [List.take_succ_cons, List.take_zero, List.drop_succ_cons, List.drop_zero]
  rw [hW1]
  clear hW1 hbox0 hb0 hW0
  repeat still_step
  refine wpStill_nil ?_
  go_wp2_with (go_at_call 72; refine hp1.mono ?_; rintro e w1 ⟨A1, cap1, rfl, hb2, hrow1⟩; obtain ⟨g, rfl, hg1, hg2, hrow2⟩ := hrow1 hl; have hcx := hrow2 0 hl)
  obtain ⟨W2, hW2⟩ : ∃ W2, w1.alloc (.cells #[.int .i64 (Ab.rd path 0 0)] 3) = W2 := ⟨_, rfl⟩
  rw [hW2]
  have hw1 : w.heap.size < w1.heap.size := by have := (Array.getElem?_eq_some_iff.1 hbox1).1; have := hb2.size; omega
  obtain ⟨A, hA⟩ : ∃ A, w1.heap.size = A := ⟨_, rfl⟩
  have hN2 : NxAt w A #[.slice (some ⟨sb, so, none⟩) f.Switches.length sc, .slice (some ⟨zb, zo, none⟩) f.Zones.length zc, .int .i64 f.Reply] (Ab.rd path 0 0) W2 := by
    rw [← hW2, ← hA]
    exact ⟨(hb1.trans (hb2.mono (by have := hb1.size; omega))).alloc (by omega) _, World.alloc_heap_new w1 _, (Below.heap_alloc _ _ _ hw1).trans ((hb2.block _ (Array.getElem?_eq_some_iff.1 hbox1).1).trans hbox1)⟩
  have hx2 : IntsAt W2 g path := by
    rw [← hW2]
    exact fun i hi => (World.cell?_of_block (Below.heap_alloc _ _ g hg2)).trans (hrow2 i hi)
  rw [hA] at hw1 hg2 ⊢
  have hlo : lastOpen f.Switches path (Ab.rd path 0 0) = some a := hlo
  clear hW2 hA hrow2 hrow1 hcx hp1 hcz hk0 hk1 hk2 hbox1 hb1 hb2
  generalize Ab.rd path 0 0 = a0 at hN2 hlo ⊢
  go_loopg [28] path.length (fun gg s28 wr => ∃ (kk : Nat) (a' : Int), kk ≤ path.length ∧ path.length - kk ≤ gg ∧ s28 = .int .i64 kk ∧ NxAt w A #[.slice (some ⟨sb, so, none⟩) f.Switches.length sc, .slice (some ⟨zb, zo, none⟩) f.Zones.length zc, .int .i64 f.Reply] a' wr ∧ IntsAt wr g path ∧ lastOpen f.Switches (path.drop kk) a' = some a)
  case atStart => exact ⟨0, a0, Nat.zero_le _, by omega, rfl, hN2, hx2, hlo⟩
  case round =>
    obtain ⟨kk, a', hkk, hg, rfl, hN, hx, hk⟩ := hrel
    by_cases hlt : kk < path.length
    · have hltz : (kk : Int) < (path.length : Int) := by omega
      rw [rd_drop hlt] at hk
      obtain ⟨hs0, hs1, hst, hsf⟩ := lastOpen_cons hk
      have hcx := hx kk hlt
      obtain ⟨s, hs⟩ : ∃ s, Ab.rd path kk 0 = s := ⟨_, rfl⟩
      rw [hs] at hs0 hs1 hst hsf hcx
      clear hs hk
      obtain ⟨sn, rfl⟩ : ∃ n : Nat, s = (n : Int) := ⟨s.toNat, by omega⟩
      rw [Int.toNat_natCast] at hst hsf
      obtain ⟨hk0, hk1, hk2⟩ := cells3 hN.box
      have hcS := (hN.low.cell (p := ⟨sb, so + sn * 5 + 2, none⟩) (hF0 _ hsF)).trans (hSc sn (by omega))
      have hfA := hN.frozen
      have hcA := hN.cell
      generalize (Ab.rd f.Switches sn default).Shown = q at hst hsf hcS
      by_cases hq : q = 1
      · replace hsf := hsf hq
        subst hq
        clear hst
        go_wp2
        go_roundg (path.length - (kk + 1))
        case measure => omega
        case rel => exact ⟨kk + 1, a', by omega, by omega, by go_num, hN, hx, hsf⟩
      · replace hst := hst hq
        clear hsf
        go_wp2
        go_roundg (path.length - (kk + 1))
        case measure => omega
        case rel => exact ⟨kk + 1, sn, by omega, by omega, by go_num, hN.put hw1 _, hx.put (by omega), hst⟩
    · have hltz : ¬ (kk : Int) < (path.length : Int) := by omega
      have : kk = path.length := by omega
      subst this
      rw [List.drop_length] at hk
      cases hk
      obtain ⟨hk0, hk1, hk2⟩ := cells3 hN.box
      go_wp2
      go_loopg [44] f.Zones.length (fun gg s44 wr => ∃ z : Nat, z ≤ f.Zones.length ∧ f.Zones.length - z ≤ gg ∧ s44 = .int .i64 z ∧ NxAt w A #[.slice (some ⟨sb, so, none⟩) f.Switches.length sc, .slice (some ⟨zb, zo, none⟩) f.Zones.length zc, .int .i64 f.Reply] a wr ∧ powered c f zn a z (f.Zones.drop z) = some b)
      case atStart => exact ⟨0, Nat.zero_le _, by omega, rfl, hN, hpw⟩
      case round =>
        obtain ⟨z, hz, hg, rfl, hN, hk⟩ := hrel
        by_cases hlt : z < f.Zones.length
        · have hltz : (z : Int) < (f.Zones.length : Int) := by omega
          rw [rd_drop hlt] at hk
          have hcz := (hN.low.cell (p := ⟨zb, zo + z, none⟩) (hF0 _ hzF)).trans (hZc z hlt)
          obtain ⟨own, hown⟩ : ∃ own, Ab.rd f.Zones z 0 = own := ⟨_, rfl⟩
          rw [hown] at hk hcz
          clear hown
          rcases powered_cons hk with ⟨hzz, hk⟩ | ⟨hzz, hzc, hk⟩
          · have hzz : z = zn := by omega
            subst hzz
            go_wp2
            go_roundg (f.Zones.length - (z + 1))
            case measure => omega
            case rel => exact ⟨z + 1, by omega, by omega, by go_num, hN, hk⟩
          · obtain ⟨cb, co, rfl, hcF, hCc⟩ := hC (by omega)
            have hco := (hN.low.cell (p := ⟨cb, co + z * 3, none⟩) (hF0 _ hcF)).trans (hCc z hzc)
            rcases hk with ⟨ho, hk⟩ | ⟨ho, o, q, hpo, hao, hk⟩
            · rw [ho] at hco
              go_wp2
              go_roundg (f.Zones.length - (z + 1))
              case measure => omega
              case rel => exact ⟨z + 1, by omega, by omega, by go_num, hN, hk⟩
            · rw [ho] at hco
              obtain ⟨hk0, hk1, hk2⟩ := cells3 hN.box
              have hcA := hN.cell
              have hp := path_at hF0 h1 h2 rfl hN.low hpo
              obtain ⟨hol, _⟩ := path_zones hpo
              obtain ⟨r, hr⟩ : ∃ r, o.contains a = r := ⟨_, rfl⟩
              rw [hr] at hk
              have hS' : ∀ W : World, Below w.heap.size w W → ∀ i, i < f.Switches.length → W.cell? ⟨sb, so + i * 5 + 2, none⟩ = some (.int .i64 (Ab.rd f.Switches i default).Shown) := fun W hb i hi => (hb.cell (p := ⟨sb, so + i * 5 + 2, none⟩) (hF0 _ hsF)).trans (hSc i hi)
              rcases hk with ⟨rfl, rfl, rfl⟩ | ⟨hrq, hk⟩
              · go_wp2_with (first
                  | (go_at_call 72; refine hp.mono ?_; rintro e w3 ⟨A3, cap3, rfl, hb3, hrow3⟩; have hN3 := hN.later hb3 hw1; have hcA3 := hN3.cell; have hRow3 : RowAt w3 A3 o := fun hl => (by obtain ⟨g3, e3, _, _, hi⟩ := hrow3 hl; exact ⟨g3, e3, hi⟩))
                  | (go_at_call 73; refine (contains_calls hN3.at_ hN3.box (hS' w3 hN3.low) hRow3 (by omega) hao).mono ?_; rintro e w4 ⟨rfl, rfl⟩)
                  | (go_at_call 75; refine (holds_calls hr hRow3 (by omega)).mono ?_; rintro e w5 ⟨rfl, rfl⟩))
                go_ret2
                exact ⟨rfl, hN3.low⟩
              · cases r with
                | true =>
                  replace hrq := hrq rfl
                  subst hrq
                  go_wp2_with (first
                  | (go_at_call 72; refine hp.mono ?_; rintro e w3 ⟨A3, cap3, rfl, hb3, hrow3⟩; have hN3 := hN.later hb3 hw1; have hcA3 := hN3.cell; have hRow3 : RowAt w3 A3 o := fun hl => (by obtain ⟨g3, e3, _, _, hi⟩ := hrow3 hl; exact ⟨g3, e3, hi⟩))
                  | (go_at_call 73; refine (contains_calls hN3.at_ hN3.box (hS' w3 hN3.low) hRow3 (by omega) hao).mono ?_; rintro e w4 ⟨rfl, rfl⟩)
                  | (go_at_call 75; refine (holds_calls hr hRow3 (by omega)).mono ?_; rintro e w5 ⟨rfl, rfl⟩))
                  go_roundg (f.Zones.length - (z + 1))
                  case measure => omega
                  case rel => exact ⟨z + 1, by omega, by omega, by go_num, hN3, hk⟩
                | false =>
                  clear hrq
                  go_wp2_with (first
                  | (go_at_call 72; refine hp.mono ?_; rintro e w3 ⟨A3, cap3, rfl, hb3, hrow3⟩; have hN3 := hN.later hb3 hw1; have hcA3 := hN3.cell; have hRow3 : RowAt w3 A3 o := fun hl => (by obtain ⟨g3, e3, _, _, hi⟩ := hrow3 hl; exact ⟨g3, e3, hi⟩))
                  | (go_at_call 73; refine (contains_calls hN3.at_ hN3.box (hS' w3 hN3.low) hRow3 (by omega) hao).mono ?_; rintro e w4 ⟨rfl, rfl⟩)
                  | (go_at_call 75; refine (holds_calls hr hRow3 (by omega)).mono ?_; rintro e w5 ⟨rfl, rfl⟩))
                  go_roundg (f.Zones.length - (z + 1))
                  case measure => omega
                  case rel => exact ⟨z + 1, by omega, by omega, by go_num, hN3, hk⟩
        · have hltz : ¬ (z : Int) < (f.Zones.length : Int) := by omega
          have : z = f.Zones.length := by omega
          subst this
          rw [List.drop_length] at hk
          cases hk
          have hcA := hN.cell
          go_wp2
          go_ret2
          exact ⟨rfl, hN.low⟩
end Go.Proofs.Ytlhknehkcflkgaa.It
namespace Go.Proofs.Ytlhknehkcflkgaa
open Go Go.RowKit Go.Maps Go.Shelf Ab
theorem ok53 : EntryOk Go.Proofs.Try.prog 53 e53 where
  ok := by
    rintro ⟨a0, a1, a2⟩ y css hy hx w F0 vs bb wb hF0 hA hnd hnF
    have hy : restore_Next a0 a1 a2 = some y := hy
    cases hA with
    | @val _ ti0 _ _ c0 css0 va _ _ _ hti0 hr0 hA =>
    cases hA with
    | @val _ ti1 _ _ c1 css1 vb _ _ _ hti1 hr1 hA =>
    cases hA with
    | @val _ ti2 _ _ c2 css2 vc _ _ _ hti2 hr2 hA =>
    cases hA
    have hx : opt2 (reg.unpk 23 c0) (unpkPar reg [(false, 45), (false, 3)] [c1, c2]) = some (a0, a1, a2) := hx
    cases hq0 : reg.unpk 23 c0 with
    | none => rw [hq0] at hx; cases hx
    | some q0 =>
    rw [hq0] at hx
    cases hq1 : reg.unpk 45 c1 with
    | none =>
      rw [show unpkPar reg [(false, 45), (false, 3)] [c1, c2] = opt2 (reg.unpk 45 c1) (unpkPar reg [(false, 3)] [c2]) from rfl, hq1] at hx
      cases hx
    | some q1 =>
    rw [show unpkPar reg [(false, 45), (false, 3)] [c1, c2] = opt2 (reg.unpk 45 c1) (unpkPar reg [(false, 3)] [c2]) from rfl, hq1] at hx
    cases hq2 : unpkPar reg [(false, 3)] [c2] with
    | none => rw [hq2] at hx; cases hx
    | some q2 =>
    rw [hq2] at hx
    have hq2 : reg.unpk 3 c2 = some q2 := hq2
    cases hx
    cases hti0
    cases hti1
    cases hti2
    obtain ⟨v1, v2, v3, rfl, h1, h2, h3⟩ := It.feeder_arg hq1 hr1
    have h4 := It.int_arg hq2 hr2
    subst h4
    obtain ⟨r1, r2⟩ := regOk.unpk 23 c0 a0 hq0
    obtain ⟨l, el, h0⟩ := hr0.le r1 r2
    have el : [(.sl 71 a0 : Lf reg.α)] = [l] := el
    cases el
    obtain ⟨a, b⟩ := y
    refine (It.next_calls hF0 h0 h1 h2 h3 hy).mono fun e w' => ?_
    rintro ⟨rfl, hb⟩
    refine ⟨F0, [.int .i64 a, .bool b], [], [], rfl, rfl, ⟨hb.os, hb.tape, hb.output, hb.size, fun k hk _ => hb.block k hk⟩, fun _ h => h, fun _ h => .inl h, fun b h => Nat.lt_of_lt_of_le (hF0 b h) hb.size, by simp, by simp, ?_, .nil⟩
    have hLa : Leafs (Γ := reg) F0 w' 0 [false] [.int .i64 a] [.int .i64 a] [] := .plain (by simp) (.int _ _) .nil
    have hLb : Leafs (Γ := reg) F0 w' 0 [false] [.bool b] [.bool b] [] := .plain (by simp) (.bool _) .nil
    have := ResRel.cons (Γ := reg) (t := 3) (ti := ⟨1, 8, .int .i64, [.int .i64]⟩) (rs := [(4, [false])]) rfl rfl hLa (ResRel.cons (Γ := reg) (t := 4) (ti := ⟨1, 1, .bool, [.bool]⟩) (rs := []) rfl rfl hLb .nil)
    exact this
  here := ⟨_, Go.Proofs.Try.func53, by decide, by kernel_rfl⟩
end Go.Proofs.Ytlhknehkcflkgaa
