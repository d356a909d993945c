/- feeder.Path: its entry. -/
import Derived.Test.YtlhknehkcflkgaaAbIt3
set_option autoImplicit false
set_option linter.unusedVariables false
set_option maxRecDepth 100000
namespace Go.Proofs.Ytlhknehkcflkgaa.It
open Go Go.RowKit Go.Maps Go.Shelf Ab
theorem pathUp_len {sw : List T.Switch} : ∀ {m : Nat} {s : Int} {pre xs : List Int}, pathUp sw m s pre = some xs → xs.length ≤ pre.length + m
  | 0, _, _, _, h => by cases h
  | m + 1, s, pre, xs, h => by
    unfold pathUp at h
    cases h1 : decide (s ≥ 0) with
    | false => rw [h1] at h; cases h; omega
    | true =>
      rw [h1] at h
      cases h2 : decide (s < (sw.length : Int)) with
      | false => rw [h2] at h; cases h
      | true =>
        rw [h2] at h
        have := pathUp_len (show pathUp sw m (Ab.rd sw s.toNat default).Above (pre ++ [s]) = some xs from h)
        simp only [List.length_append, List.length_cons, List.length_nil] at this
        omega
/-- a network among what came in -/
theorem feeder_arg {F0 : Nat → Prop} {w : World} {cs : List (Lf reg.α)} {v : Value} {f : T.Feeder} (hu : reg.unpk 45 cs = some f) (hr : RC (Γ := reg) (fun _ => none) F0 w true cs v) :
    ∃ v1 v2 v3, v = .agg #[v1, v2, v3] ∧ RLf (Γ := reg) (fun _ => none) F0 w (.sl 76 f.Switches) v1 ∧ RLf (Γ := reg) (fun _ => none) F0 w (.sl 3 f.Zones) v2 ∧ v3 = .int .i64 f.Reply := by
  obtain ⟨vs, rfl, hr⟩ := hr
  obtain ⟨h1, h2⟩ := regOk.unpk 45 cs f hu
  have hr := hr.le h1 h2
  have hr : RLs (Γ := reg) (fun _ => none) F0 w [.sl 76 f.Switches, .sl 3 f.Zones, .int .i64 f.Reply] vs := hr
  obtain ⟨v1, vs1, rfl, a1, r1⟩ := hr.inv
  obtain ⟨v2, vs2, rfl, a2, r2⟩ := r1.inv
  obtain ⟨v3, vs3, rfl, a3, r3⟩ := r2.inv
  have := r3.inv_nil
  subst this
  cases a3
  exact ⟨v1, v2, _, rfl, a1, a2, rfl⟩
/-- a number among what came in -/
theorem int_arg {F0 : Nat → Prop} {w : World} {c : List (Lf reg.α)} {v : Value} {s : Int} (hu : reg.unpk 3 c = some s) (hr : RC (Γ := reg) (fun _ => none) F0 w false c v) : v = .int .i64 s := by
  obtain ⟨h1, h2⟩ := regOk.unpk 3 c s hu
  obtain ⟨l, e, h⟩ := hr.le h1 h2
  have e : [(.int .i64 s : Lf reg.α)] = [l] := e
  cases e
  cases h
  rfl
/-- a call of feeder.Check -/
theorem check_calls {F0 : Nat → Prop} {w W : World} {f : T.Feeder} {v1 v2 v3 : Value} (hF0 : ∀ b, F0 b → b < w.heap.size) (h1 : RLf (Γ := reg) (fun _ => none) F0 w (.sl 76 f.Switches) v1) (h2 : RLf (Γ := reg) (fun _ => none) F0 w (.sl 3 f.Zones) v2) (h3 : v3 = .int .i64 f.Reply) (hB : Below w.heap.size w W) {E : Int} (hE : feeder_Check f = some E) :
    Calls Go.Proofs.Try.prog 52 #[.agg #[v1, v2, v3]] W fun e w' => e = .returned (.int .i64 E) ∧ Below W.heap.size W w' := by
  have hcell : ∀ ad : Addr, F0 ad.block → W.cell? ad = w.cell? ad := fun ad hf => World.cell?_of_block (hB.block _ (hF0 _ hf))
  have hA : ArgsRel (Γ := reg) F0 W [(false, 45)] [] [[.sl 76 f.Switches, .sl 3 f.Zones, .int .i64 f.Reply]] [.agg #[v1, v2, v3]] [] [] :=
    .val (ti := ⟨3, 56, .struct [(42, 0), (43, 1), (3, 2)], [.nil, .nil, .int .i64]⟩) rfl ⟨[v1, v2, v3], rfl, .cons (h1.mono (fun _ _ e => e) (fun _ x => x) hcell) (.cons (h2.mono (fun _ _ e => e) (fun _ x => x) hcell) (.cons (by rw [h3]; exact .int _ _) .nil))⟩ .nil
  refine (ok52.ok f E _ hE rfl W F0 [.agg #[v1, v2, v3]] [] [] (fun b hb => Nat.lt_of_lt_of_le (hF0 b hb) hB.size) hA (by simp) (by simp)).mono fun e w' => ?_
  rintro ⟨F', us, us2, own, hret, hul, hfr, _, _, _, _, _, hres, hbx⟩
  have hret : e = .returned (retV us) := hret
  cases hbx
  rw [List.append_nil us] at hres
  have hres : ResRel (Γ := reg) F' w' 0 [(52, [false])] [[.int .i64 E]] us own := hres
  cases hres with
  | cons g1 gl gL gt =>
    cases gt
    cases gL with
    | plain hn hv ht =>
      cases ht
      cases hv
      have g1 : some (⟨1, 8, .int .i64, [.int .i64]⟩ : TI) = some _ := g1
      cases g1
      exact ⟨hret, hfr.os, hfr.tape, hfr.output, hfr.size, fun k hk => hfr.block k hk (by simp)⟩
/-- a call of feeder.up -/
theorem upf_calls (n : Nat) (fv : Array Value) (s : Int) (W : World) :
    CallsIn Fence.wide n Go.Proofs.Try.prog 95 #[.agg fv, .int .i64 s] W fun e w' => e = .returned (.func (.func 106) #[] #[.pointer (some ⟨W.heap.size + 1, 0, none⟩), .pointer (some ⟨W.heap.size, 0, none⟩)]) ∧ w' = (W.alloc (.cells fv 45)).alloc (.cells #[.int .i64 s] 3) := by
  refine callsIn_of_wp Go.Proofs.Try.func95 rfl trivial ?_ rfl
  simp only [Go.Proofs.Try.ntmps95, List.size_toArray, List.length_cons, List.length_nil, Nat.reduceAdd, Nat.reduceSub, Array.replicate_succ, Array.replicate_zero, List.push_toArray, List.append_toArray, List.nil_append, List.cons_append]
  gi_wp2
  go_ret
  exact ⟨rfl, rfl⟩
/-- the switches' cells that say what is above -/
theorem above_cells {F0 : Nat → Prop} {w : World} {sw : List T.Switch} {v1 : Value} (h : RLf (Γ := reg) (fun _ => none) F0 w (.sl 76 sw) v1) (hl : 0 < sw.length) :
    ∃ b off c, v1 = .slice (some ⟨b, off, none⟩) sw.length c ∧ F0 b ∧ ∀ i, i < sw.length → w.cell? ⟨b, off + i * 5, none⟩ = some (.int .i64 (Ab.rd sw i default).Above) := by
  generalize hV : v1 = V at h
  cases h with
  | sl e xs A c vals hvl hc hcell hrel =>
    have hvl : vals.length = sw.length * 5 := hvl
    have hk : ∀ i, i < sw.length → vals[i * 5]? = some (.int .i64 (Ab.rd sw i default).Above) := fun i hi => by
      have h1 : i * 5 < vals.length := by omega
      have hg := hrel (i * 5) (.int .i64 (Ab.rd sw i default).Above) vals[i * 5] (by
        have h2 := flat_get (Γ := reg) regOk (e := 76) (default : T.Switch) sw (i * 5) (by decide) (by show i * 5 / 5 < sw.length; rw [Nat.mul_div_cancel i (by decide)]; exact hi)
        have e1 : i * 5 / reg.sz 76 = i := by show i * 5 / 5 = i; omega
        have e2 : i * 5 % reg.sz 76 = 0 := by show i * 5 % 5 = 0; omega
        rw [e1, e2] at h2
        exact h2) (List.getElem?_eq_getElem h1)
      rw [List.getElem?_eq_getElem h1]
      generalize vals[i * 5] = u at hg
      cases hg
      rfl
    obtain ⟨ad, e1, e2, e3⟩ := hcell (0 * 5) _ (hk 0 hl)
    subst e1
    obtain ⟨b, off, spot⟩ := ad
    have hspot : spot = none := by simpa [Addr.add] using World.cell?_spot e3
    subst hspot
    refine ⟨b, off, c, rfl, e2, fun i hi => ?_⟩
    obtain ⟨ad, e1, e2, e3⟩ := hcell (i * 5) _ (hk i hi)
    cases e1
    rw [← e3, add_lit]
theorem cells3 {W : World} {B : Nat} {x y z : Value} {t : TypeId} (h : W.heap[B]? = some (.cells #[x, y, z] t (0, 0))) : W.cell? ⟨B, 0, none⟩ = some x ∧ W.cell? ⟨B, 1, none⟩ = some y ∧ W.cell? ⟨B, 2, none⟩ = some z := by
  refine ⟨?_, ?_, ?_⟩ <;> simp [World.cell?, h]
set_option maxHeartbeats 2000000 in
theorem rls_ints {F : Nat → Prop} {w : World} : ∀ xs : List Int, RLs (Γ := reg) (fun _ => none) F w (flat reg 3 xs) (xs.map encI)
  | [] => .nil
  | x :: xs => .cons (.int .i64 x) (rls_ints xs)
theorem path_calls {F0 : Nat → Prop} {w : World} {f : T.Feeder} {s : Int} {xs : List Int} {v1 v2 v3 : Value} (hF0 : ∀ b, F0 b → b < w.heap.size) (h1 : RLf (Γ := reg) (fun _ => none) F0 w (.sl 76 f.Switches) v1) (h2 : RLf (Γ := reg) (fun _ => none) F0 w (.sl 3 f.Zones) v2) (h3 : v3 = .int .i64 f.Reply) (hP : feeder_Path f s = some xs) :
    Calls Go.Proofs.Try.prog 72 #[.agg #[v1, v2, v3], .int .i64 s] w fun e w' => ∃ v, e = .returned v ∧ w'.ownsRow w.heap.size 3 1 v xs.length (xs.map encI) ∧ Below w.heap.size w w' := by
  unfold feeder_Path at hP
  cases hE : feeder_Check f with
  | none => rw [hE] at hP; cases hP
  | some E =>
    rw [hE] at hP
    have hP : Ab.sel (E != 0) (some []) (Ab.sel (decide (s < 0)) (some []) (Ab.sel (decide (s ≥ (f.Switches.length : Int))) (some []) (pathUp f.Switches 100 s []))) = some xs := hP
    have hl1 : ∃ A c, v1 = .slice A f.Switches.length c := by
      generalize hV : v1 = V at h1
      cases h1 with
      | sl e xs A c vals hvl hc hcell hrel => exact ⟨A, c, rfl⟩
    obtain ⟨A1, c1, hv1⟩ := hl1
    refine (callsIn_wide (n := 8)).1 ?_
    refine callsIn_of_wp Go.Proofs.Try.func72 rfl trivial ?_ rfl
    simp only [Go.Proofs.Try.ntmps72, List.size_toArray, List.length_cons, List.length_nil, Nat.reduceAdd, Nat.reduceSub, Array.replicate_succ, Array.replicate_zero, List.push_toArray, List.append_toArray, List.nil_append, List.cons_append]
    subst hv1; subst h3
    have hch := check_calls hF0 h1 h2 rfl ((Below.refl _ w).alloc (Nat.le_refl _) (.cells #[.slice A1 f.Switches.length c1, v2, .int .i64 f.Reply] 45)) hE
    have nil_end : ∀ w' : World, Below (w.heap.size + 1) (w.alloc (.cells #[.slice A1 f.Switches.length c1, v2, .int .i64 f.Reply] 45)) w' → xs = [] → w'.ownsRow w.heap.size 3 1 (.slice none 0 0) xs.length (xs.map encI) ∧ Below w.heap.size w w' := fun w' hb hx => by
      subst hx
      exact ⟨World.ownsRow_nil _ _ _ _, ((Below.refl _ w).alloc (Nat.le_refl _) _).trans (hb.mono (by omega))⟩
    have hsz1 : (w.alloc (.cells #[.slice A1 f.Switches.length c1, v2, .int .i64 f.Reply] 45)).heap.size = w.heap.size + 1 := by simp
    rw [hsz1] at hch
    have hbox : ∀ w' : World, Below (w.heap.size + 1) (w.alloc (.cells #[.slice A1 f.Switches.length c1, v2, .int .i64 f.Reply] 45)) w' → w'.heap[w.heap.size]? = some (.cells #[.slice A1 f.Switches.length c1, v2, .int .i64 f.Reply] 45 (0, 0)) := fun w' hb =>
      (hb.block _ (by omega)).trans (World.alloc_heap_new w _)
    by_cases hE0 : E = 0
    · subst hE0
      by_cases hs : s < 0
      · gi_wp2_with (refine ⟨trivial, ?_⟩; gi_at_call 52; refine (callsIn_wide.2 hch).mono ?_; rintro e w' ⟨rfl, hb⟩; obtain ⟨hc0, hc1, hc2⟩ := cells3 (hbox w' hb))
        go_ret
        obtain ⟨e1, e2⟩ := nil_end _ hb (by rw [decide_eq_true hs] at hP; cases hP; rfl)
        exact ⟨_, rfl, e1, e2⟩
      · by_cases hs2 : s ≥ (f.Switches.length : Int)
        · gi_wp2_with (refine ⟨trivial, ?_⟩; gi_at_call 52; refine (callsIn_wide.2 hch).mono ?_; rintro e w' ⟨rfl, hb⟩; obtain ⟨hc0, hc1, hc2⟩ := cells3 (hbox w' hb))
          go_ret
          obtain ⟨e1, e2⟩ := nil_end _ hb (by rw [decide_eq_false (show ¬ s < 0 by omega), decide_eq_true hs2] at hP; cases hP; rfl)
          exact ⟨_, rfl, e1, e2⟩
        · rw [decide_eq_false (show ¬ s < 0 by omega), decide_eq_false hs2] at hP
          have hP : pathUp f.Switches 100 s [] = some xs := hP
          obtain ⟨b, off, c, e1, hbF, hcells⟩ := above_cells h1 (by omega)
          simp only [Value.slice.injEq] at e1
          obtain ⟨rfl, _, rfl⟩ := e1
          have hbw : b < w.heap.size := hF0 b hbF
          have hxl := pathUp_len hP
          simp only [List.length_nil] at hxl
          have hSw : ∀ w' : World, Below (w.heap.size + 1) (w.alloc (.cells #[.slice (some ⟨b, off, none⟩) f.Switches.length c1, v2, .int .i64 f.Reply] 45)) w' → w.heap.size + 1 ≤ w'.heap.size ∧ SwAt (w'.heap.size + 1) w'.heap.size #[.slice (some ⟨b, off, none⟩) f.Switches.length c1, v2, .int .i64 f.Reply] b off c1 f.Switches s ((w'.alloc (.cells #[.slice (some ⟨b, off, none⟩) f.Switches.length c1, v2, .int .i64 f.Reply] 45)).alloc (.cells #[.int .i64 s] 3)) := fun w' hb => by
            have hsz := hb.size
            rw [hsz1] at hsz
            refine ⟨hsz, ?_, ?_, fun i hi => ?_⟩
            · have := World.alloc_heap_new (w'.alloc (.cells #[.slice (some ⟨b, off, none⟩) f.Switches.length c1, v2, .int .i64 f.Reply] 45)) (.cells #[.int .i64 s] 3)
              rwa [World.size_alloc] at this
            · exact (Below.heap_alloc _ _ _ (by simp)).trans (World.alloc_heap_new w' _)
            · refine (World.cell?_of_block ?_).trans (hcells i hi)
              exact (Below.heap_alloc _ _ b (by simp; omega)).trans ((Below.heap_alloc _ _ b (by omega)).trans ((hb.block b (by omega)).trans (Below.heap_alloc _ _ b hbw)))
          gi_wp2_with (first
            | (refine ⟨trivial, ?_⟩; gi_at_call 52; refine (callsIn_wide.2 hch).mono ?_; rintro e w' ⟨rfl, hb⟩; obtain ⟨hc0, hc1, hc2⟩ := cells3 (hbox w' hb); obtain ⟨hsz, hS⟩ := hSw w' hb)
            | (refine ⟨trivial, ?_⟩; gi_at_call 95; refine (upf_calls _ _ _ _).mono ?_; rintro e w2 ⟨rfl, rfl⟩)
            | (refine ⟨trivial, ?_⟩; gi_at_call 94; refine (collect_calls Fence.wide rfl _ (by decide) trivial trivial trivial w'.heap.size (w'.heap.size + 1) w'.heap.size #[.slice (some ⟨b, off, none⟩) f.Switches.length c1, v2, .int .i64 f.Reply] b off c1 f.Switches rfl (by omega) (by omega) (by omega) 100 (by simp [maxLen]) (by omega) xs (by omega) 100 s hP _ hS (by simp) (by simp; omega) (by simp; omega) (by simp; omega)).mono ?_; rintro e w3 ⟨v, rfl, hrow, hb3⟩))
          go_ret
          refine ⟨v, rfl, ownsRow_mono hrow (by simp only [World.size_alloc]; omega), ?_⟩
          refine ((Below.refl _ w).alloc (Nat.le_refl _) _).trans ((hb.mono (by omega)).trans ?_)
          exact (((Below.refl _ w').alloc (show w.heap.size ≤ w'.heap.size by omega) _).alloc (by simp only [World.size_alloc]; omega) _).trans (hb3.mono (show w.heap.size ≤ w'.heap.size by omega))
    · gi_wp2_with (refine ⟨trivial, ?_⟩; gi_at_call 52; refine (callsIn_wide.2 hch).mono ?_; rintro e w' ⟨rfl, hb⟩; obtain ⟨hc0, hc1, hc2⟩ := cells3 (hbox w' hb))
      go_ret
      obtain ⟨e1, e2⟩ := nil_end _ hb (by rw [show (E != 0) = true by simpa using hE0] at hP; cases hP; rfl)
      exact ⟨_, rfl, e1, e2⟩
end Go.Proofs.Ytlhknehkcflkgaa.It
namespace Go.Proofs.Ytlhknehkcflkgaa
open Go Go.RowKit Go.Maps Go.Shelf Ab
theorem ok72 : EntryOk Go.Proofs.Try.prog 72 e72 where
  ok := by
    rintro ⟨a0, a1⟩ y css hy hx w F0 vs bb wb hF0 hA hnd hnF
    have hy : feeder_Path a0 a1 = some y := hy
    cases hA with
    | @val _ ti0 _ _ c0 css0 va _ _ _ hti0 hr0 hA =>
    cases hA with
    | @val _ ti1 _ _ c1 css1 vb _ _ _ hti1 hr1 hA =>
    cases hA
    have hx : unpkPar reg [(false, 45), (false, 3)] [c0, c1] = some (a0, a1) := hx
    obtain ⟨f, hf, hx⟩ : ∃ f, reg.unpk 45 c0 = some f ∧ opt2 (reg.unpk 45 c0) (unpkPar reg [(false, 3)] [c1]) = some (a0, a1) := by
      have hx : opt2 (reg.unpk 45 c0) (unpkPar reg [(false, 3)] [c1]) = some (a0, a1) := hx
      cases h : reg.unpk 45 c0 with
      | none => rw [h] at hx; cases hx
      | some f => exact ⟨f, rfl, h ▸ hx⟩
    rw [hf] at hx
    cases hs : unpkPar reg [(false, 3)] [c1] with
    | none => rw [hs] at hx; cases hx
    | some s =>
    rw [hs] at hx
    cases hx
    have hs : reg.unpk 3 c1 = some a1 := hs
    cases hti0
    cases hti1
    obtain ⟨v1, v2, v3, rfl, h1, h2, h3⟩ := It.feeder_arg hf hr0
    have h4 := It.int_arg hs hr1
    subst h4
    refine (It.path_calls hF0 h1 h2 h3 hy).mono fun e w' => ?_
    rintro ⟨v, rfl, hrow, hb⟩
    obtain ⟨o, cap, rfl, hown⟩ := ownsRow_form hrow
    refine ⟨F0, [sliceV o y.length cap], [], o.toList ++ [], rfl, rfl, ⟨hb.os, hb.tape, hb.output, hb.size, fun k hk _ => hb.block k hk⟩, fun _ h => h, fun _ h => .inl h, fun b h => Nat.lt_of_lt_of_le (hF0 b h) hb.size, ?_, ?_, ?_, .nil⟩
    · cases o <;> simp
    · intro b hbo
      have hge : w.heap.size ≤ b := by
        rcases hrow.2 with ⟨e, _⟩ | ⟨g, cap', cur, e, hg, _⟩
        · cases o with
          | none => simp at hbo
          | some o => cases e
        · cases o with
          | none => cases e
          | some o =>
            simp [sliceV] at e
            simp at hbo
            omega
      exact ⟨fun h => by have := hF0 b h; omega, .inl hge⟩
    · have hL : Leafs (Γ := reg) F0 w' 0 [true] [.sl 3 y] [sliceV o y.length cap] (o.toList ++ []) := .own (ownsRow_mono hrow (Nat.zero_le _)) (It.rls_ints y) .nil
      have := ResRel.cons (Γ := reg) (t := 43) (ti := ⟨1, 24, .slice 3, [.nil]⟩) (rs := []) rfl rfl hL .nil
      rw [List.append_nil] at this
      exact this
  here := ⟨_, Go.Proofs.Try.func72, by decide, by kernel_rfl⟩
end Go.Proofs.Ytlhknehkcflkgaa
