/- restore.Next: its closure, and slices.ContainsFunc over it. -/
import Derived.Test.YtlhknehkcflkgaaAbIt4
import Derived.Shelf.RegionOpenPlain
import Derived.Deep.LoopGhost
set_option autoImplicit false
set_option linter.unusedVariables false
set_option maxRecDepth 100000
namespace Go.Proofs.Ytlhknehkcflkgaa.It
open Go Go.RowKit Go.Maps Go.Shelf Ab
/-- the switches' cells that say what is shown -/
theorem shown_cells {F0 : Nat → Prop} {w : World} {sw : List T.Switch} {v1 : Value} (h : RLf (Γ := reg) (fun _ => none) F0 w (.sl 76 sw) v1) (hl : 0 < sw.length) :
    ∃ b off c, v1 = .slice (some ⟨b, off, none⟩) sw.length c ∧ F0 b ∧ ∀ i, i < sw.length → w.cell? ⟨b, off + i * 5 + 2, none⟩ = some (.int .i64 (Ab.rd sw i default).Shown) := by
  obtain ⟨b, off, c, rfl, hbF, _⟩ := above_cells h hl
  refine ⟨b, off, c, rfl, hbF, fun i hi => ?_⟩
  generalize hV : Value.slice (some ⟨b, off, none⟩) sw.length c = V at h
  cases h with
  | sl e xs A c vals hvl hc hcell hrel =>
    cases hV
    have hvl : vals.length = sw.length * 5 := hvl
    have hk : vals[i * 5 + 2]? = some (.int .i64 (Ab.rd sw i default).Shown) := by
      have h1 : i * 5 + 2 < vals.length := by omega
      have hg := hrel (i * 5 + 2) (.int .i64 (Ab.rd sw i default).Shown) vals[i * 5 + 2] (by
        have h2 := flat_get (Γ := reg) regOk (e := 76) (default : T.Switch) sw (i * 5 + 2) (by decide) (by show (i * 5 + 2) / 5 < sw.length; omega)
        have e1 : (i * 5 + 2) / reg.sz 76 = i := by show (i * 5 + 2) / 5 = i; omega
        have e2 : (i * 5 + 2) % reg.sz 76 = 2 := by show (i * 5 + 2) % 5 = 2; omega
        rw [e1, e2] at h2
        exact h2) (List.getElem?_eq_getElem h1)
      rw [List.getElem?_eq_getElem h1]
      generalize vals[i * 5 + 2] = u at hg
      cases hg
      rfl
    obtain ⟨ad, e1, e2, e3⟩ := hcell (i * 5 + 2) _ hk
    cases e1
    rw [← e3, add_lit, Nat.add_assoc]
/-- what Next's closure says of a switch -/
def shut (sw : List T.Switch) (a s : Int) : Option Bool := Ab.sel (s != a) (Ab.sel (decide (0 ≤ s)) (Ab.sel (decide (s < (sw.length : Int))) (some ((Ab.rd sw s.toNat default).Shown == -1)) none) none) (some false)
theorem next1_calls {W : World} {A B b off c : Nat} {sw : List T.Switch} {a s : Int} {v2 v3 : Value} {r : Bool} (hA : W.heap[A]? = some (.cells #[.int .i64 a] 3 (0, 0))) (hB : W.heap[B]? = some (.cells #[.slice (some ⟨b, off, none⟩) sw.length c, v2, v3] 45 (0, 0)))
    (hS : ∀ i, i < sw.length → W.cell? ⟨b, off + i * 5 + 2, none⟩ = some (.int .i64 (Ab.rd sw i default).Shown)) (hr : shut sw a s = some r) :
    Calls Go.Proofs.Try.prog 74 #[.int .i64 s, .pointer (some ⟨A, 0, none⟩), .pointer (some ⟨B, 0, none⟩)] W fun e w' => e = .returned (.bool r) ∧ w' = W := by
  obtain ⟨hcA, hfA⟩ := cell_of_box_a hA
  obtain ⟨hc0, hc1, hc2⟩ := cells3 hB
  unfold shut at hr
  by_cases hsa : s = a
  · subst hsa
    have e : (s != s) = false := by simp
    rw [e] at hr
    cases hr
    go_enter Go.Proofs.Try.func74, Go.Proofs.Try.ntmps74
    go_wp2
    go_ret
    exact ⟨rfl, rfl⟩
  · have e : (s != a) = true := by simpa using hsa
    rw [e] at hr
    cases h1 : decide (0 ≤ s) with
    | false => rw [h1] at hr; cases hr
    | true =>
    rw [h1] at hr
    cases h2 : decide (s < (sw.length : Int)) with
    | false => rw [h2] at hr; cases hr
    | true =>
    rw [h2] at hr
    have hr : some ((Ab.rd sw s.toNat default).Shown == -1) = some r := hr
    simp only [Option.some.injEq] at hr
    have h1 := of_decide_eq_true h1
    have h2 := of_decide_eq_true h2
    obtain ⟨n, rfl⟩ : ∃ n : Nat, s = (n : Int) := ⟨s.toNat, by omega⟩
    have hn : n < sw.length := by omega
    rw [Int.toNat_natCast] at hr
    have hcS := hS n hn
    go_enter Go.Proofs.Try.func74, Go.Proofs.Try.ntmps74
    go_wp2
    go_ret
    exact ⟨rfl, rfl⟩
/-- the cells of a row of numbers -/
def IntsAt (W : World) (g : Nat) (xs : List Int) : Prop := ∀ i, i < xs.length → W.cell? ⟨g, i, none⟩ = some (.int .i64 (Ab.rd xs i 0))
theorem anyOpen_cons {sw : List T.Switch} {a s : Int} {xs : List Int} {r : Bool} (h : anyOpen sw a (s :: xs) = some r) : ∃ q, shut sw a s = some q ∧ (q = true → r = true) ∧ (q = false → anyOpen sw a xs = some r) := by
  unfold anyOpen at h
  cases h1 : (s != a) with
  | false => rw [h1] at h; exact ⟨false, (by unfold shut; rw [h1]; rfl), (fun e => by cases e), fun _ => h⟩
  | true =>
  rw [h1] at h
  cases h2 : decide (0 ≤ s) with
  | false => rw [h2] at h; cases h
  | true =>
  rw [h2] at h
  cases h3 : decide (s < (sw.length : Int)) with
  | false => rw [h3] at h; cases h
  | true =>
  rw [h3] at h
  have h : Ab.sel ((Ab.rd sw s.toNat default).Shown == -1) (some true) (anyOpen sw a xs) = some r := h
  cases h4 : (Ab.rd sw s.toNat default).Shown == -1 with
  | false => rw [h4] at h; exact ⟨false, (by unfold shut; rw [h1, h2, h3, h4]; rfl), (fun e => by cases e), fun _ => h⟩
  | true => rw [h4] at h; cases h; exact ⟨true, (by unfold shut; rw [h1, h2, h3, h4]; rfl), fun _ => rfl, (fun e => by cases e)⟩
theorem rd_drop {xs : List Int} {k : Nat} (h : k < xs.length) : xs.drop k = Ab.rd xs k 0 :: xs.drop (k + 1) := by
  rw [List.drop_eq_getElem_cons h]
  simp [Ab.rd, h]
/-- a row of numbers in a value -/
def RowAt (W : World) (Ad : Option Addr) (xs : List Int) : Prop := 0 < xs.length → ∃ g, Ad = some ⟨g, 0, none⟩ ∧ IntsAt W g xs
set_option maxHeartbeats 2000000 in
theorem index_calls {W : World} {A B b off c cap : Nat} {Ad : Option Addr} {sw : List T.Switch} {a : Int} {v2 v3 : Value} {xs : List Int} {r : Bool} (hA : W.heap[A]? = some (.cells #[.int .i64 a] 3 (0, 0))) (hB : W.heap[B]? = some (.cells #[.slice (some ⟨b, off, none⟩) sw.length c, v2, v3] 45 (0, 0)))
    (hS : ∀ i, i < sw.length → W.cell? ⟨b, off + i * 5 + 2, none⟩ = some (.int .i64 (Ab.rd sw i default).Shown)) (hx : RowAt W Ad xs) (hl : xs.length ≤ 9223372036854775807) (hr : anyOpen sw a xs = some r) :
    Calls Go.Proofs.Try.prog 96 #[.slice Ad xs.length cap, .func (.func 74) #[] #[.pointer (some ⟨A, 0, none⟩), .pointer (some ⟨B, 0, none⟩)]] W fun e w' => ∃ i : Int, e = .returned (.int .i64 i) ∧ w' = W ∧ decide (0 ≤ i) = r := by
  go_enter Go.Proofs.Try.func96, Go.Proofs.Try.ntmps96
  go_wp2
  go_loopg [5, 8] xs.length (fun gg _ s8 wr => ∃ kk : Nat, kk ≤ xs.length ∧ xs.length - kk ≤ gg ∧ s8 = .int .i64 kk ∧ wr = W ∧ anyOpen sw a (xs.drop kk) = some r)
  case atStart => exact ⟨0, Nat.zero_le _, by omega, rfl, rfl, hr⟩
  case round =>
    obtain ⟨kk, hkk, hg, rfl, rfl, hk⟩ := hrel
    by_cases hlt : kk < xs.length
    · have hltz : (kk : Int) < (xs.length : Int) := by omega
      rw [rd_drop hlt] at hk
      obtain ⟨q, hq, ht, hf⟩ := anyOpen_cons hk
      obtain ⟨g, rfl, hx2⟩ := hx (show 0 < xs.length by omega)
      have hcx := hx2 kk hlt
      have hcall := next1_calls hA hB hS hq
      generalize Ab.rd xs kk 0 = x at hcx hcall
      cases q with
      | true =>
        replace ht := ht rfl
        clear hf
        go_wp2_with (go_at_call 74; refine hcall.mono ?_; rintro e w' ⟨rfl, rfl⟩)
        go_ret
        exact ⟨_, rfl, rfl, by rw [ht]; simp⟩
      | false =>
        replace hf := hf rfl
        clear ht
        go_wp2_with (go_at_call 74; refine hcall.mono ?_; rintro e w' ⟨rfl, rfl⟩)
        go_roundg (xs.length - (kk + 1))
        case measure => omega
        case rel => exact ⟨kk + 1, by omega, by omega, by go_num, rfl, hf⟩
    · have hltz : ¬ (kk : Int) < (xs.length : Int) := by omega
      have : kk = xs.length := by omega
      subst this
      go_wp2
      go_ret
      rw [List.drop_length] at hk
      cases hk
      exact ⟨_, rfl, rfl, rfl⟩
theorem contains_calls {W : World} {A B b off c cap : Nat} {Ad : Option Addr} {sw : List T.Switch} {a : Int} {v2 v3 : Value} {xs : List Int} {r : Bool} (hA : W.heap[A]? = some (.cells #[.int .i64 a] 3 (0, 0))) (hB : W.heap[B]? = some (.cells #[.slice (some ⟨b, off, none⟩) sw.length c, v2, v3] 45 (0, 0)))
    (hS : ∀ i, i < sw.length → W.cell? ⟨b, off + i * 5 + 2, none⟩ = some (.int .i64 (Ab.rd sw i default).Shown)) (hx : RowAt W Ad xs) (hl : xs.length ≤ 9223372036854775807) (hr : anyOpen sw a xs = some r) :
    Calls Go.Proofs.Try.prog 73 #[.slice Ad xs.length cap, .func (.func 74) #[] #[.pointer (some ⟨A, 0, none⟩), .pointer (some ⟨B, 0, none⟩)]] W fun e w' => e = .returned (.bool r) ∧ w' = W := by
  go_enter Go.Proofs.Try.func73, Go.Proofs.Try.ntmps73
  go_wp2_with (go_at_call 96; refine (index_calls hA hB hS hx hl hr).mono ?_; rintro e w' ⟨i, rfl, rfl, hi⟩)
  go_ret
  rw [← hi]
  exact ⟨rfl, rfl⟩
theorem has_calls {W : World} {cap : Nat} {Ad : Option Addr} {a : Int} {xs : List Int} {r : Bool} (hr : xs.contains a = r) (hx : RowAt W Ad xs) (hl : xs.length ≤ 9223372036854775807) :
    Calls Go.Proofs.Try.prog 97 #[.slice Ad xs.length cap, .int .i64 a] W fun e w' => ∃ i : Int, e = .returned (.int .i64 i) ∧ w' = W ∧ decide (0 ≤ i) = r := by
  go_enter Go.Proofs.Try.func97, Go.Proofs.Try.ntmps97
  go_wp2
  go_loopg [5, 8] xs.length (fun gg _ s8 wr => ∃ kk : Nat, kk ≤ xs.length ∧ xs.length - kk ≤ gg ∧ s8 = .int .i64 kk ∧ wr = W ∧ (xs.drop kk).contains a = r)
  case atStart => exact ⟨0, Nat.zero_le _, by omega, rfl, rfl, hr⟩
  case round =>
    obtain ⟨kk, hkk, hg, rfl, rfl, hk⟩ := hrel
    by_cases hlt : kk < xs.length
    · have hltz : (kk : Int) < (xs.length : Int) := by omega
      rw [rd_drop hlt] at hk
      obtain ⟨g, rfl, hx2⟩ := hx (show 0 < xs.length by omega)
      have hcx := hx2 kk hlt
      generalize Ab.rd xs kk 0 = x at hcx hk
      by_cases hax : a = x
      · subst hax
        go_wp2
        go_ret
        exact ⟨_, rfl, rfl, by rw [← hk]; simp⟩
      · go_wp2
        go_roundg (xs.length - (kk + 1))
        case measure => omega
        case rel => exact ⟨kk + 1, by omega, by omega, by go_num, rfl, by rw [← hk]; simp [hax]⟩
    · have hltz : ¬ (kk : Int) < (xs.length : Int) := by omega
      have : kk = xs.length := by omega
      subst this
      go_wp2
      go_ret
      rw [List.drop_length] at hk
      exact ⟨_, rfl, rfl, by rw [← hk]; rfl⟩
theorem holds_calls {W : World} {cap : Nat} {Ad : Option Addr} {a : Int} {xs : List Int} {r : Bool} (hr : xs.contains a = r) (hx : RowAt W Ad xs) (hl : xs.length ≤ 9223372036854775807) :
    Calls Go.Proofs.Try.prog 75 #[.slice Ad xs.length cap, .int .i64 a] W fun e w' => e = .returned (.bool r) ∧ w' = W := by
  go_enter Go.Proofs.Try.func75, Go.Proofs.Try.ntmps75
  go_wp2_with (go_at_call 97; refine (has_calls hr hx hl).mono ?_; rintro e w' ⟨i, rfl, rfl, hi⟩)
  go_ret
  rw [← hi]
  exact ⟨rfl, rfl⟩
end Go.Proofs.Ytlhknehkcflkgaa.It
