/- The plain law of RestoreOthers: the networks, the switch that is next, who else would have power. -/
import Derived.Test.YtlhknehkcflkgaaPlPath
import Derived.Test.YtlhknehkcflkgaaPlKit
set_option autoImplicit false
set_option linter.unusedVariables false
set_option linter.unusedSimpArgs false
set_option maxRecDepth 100000
namespace Go.Proofs.Ytlhknehkcflkgaa
open Go Ab
theorem one_ok {c : T.draw_Codes} (h : CodesOk c) {n : Int} (hn : 1 ≤ n) (hn2 : n ≤ 1000000) : ∃ b a, Codes_One c n = some (b, ⟨[], a⟩) ∧ 0 ≤ a ∧ a ≤ (c.l.length : Int) := by
  obtain ⟨v, a, e, h1, h2, h3, h4⟩ := next_ok h hn
  unfold Codes_One Codes_One.f
  rw [e, obind_some]
  exact ⟨_, _, rfl, h3, h4⟩
/-- the last switch of a path that is not known to be closed -/
def lastO (sw : List T.Switch) : List Int → Int → Int
  | [], a => a
  | s :: r, a => if (rd sw s.toNat default).Shown != 1 then lastO sw r s else lastO sw r a
/-- another switch of a path is known to be open -/
def anyO (sw : List T.Switch) (a : Int) (p : List Int) : Bool := p.any fun s => s != a && (rd sw s.toNat default).Shown == -1
def InR (sw : List T.Switch) (p : List Int) : Prop := ∀ x ∈ p, 0 ≤ x ∧ x < (sw.length : Int)
theorem lastOpen_O {sw : List T.Switch} : ∀ (p : List Int) (a : Int), InR sw p → lastOpen sw p a = some (lastO sw p a)
  | [], a, h => rfl
  | s :: r, a, h => by
    have hs := h s (by simp)
    have hr : InR sw r := fun x hx => h x (by simp [hx])
    unfold lastOpen lastO
    rw [sel_pos (decide_eq_true hs.1), sel_pos (decide_eq_true hs.2)]
    by_cases hx : ((rd sw s.toNat default).Shown != 1) = true
    · rw [sel_pos hx, if_pos hx, lastOpen_O r s hr]
    · rw [sel_neg (by simpa using hx), if_neg hx, lastOpen_O r a hr]
theorem anyOpen_O {sw : List T.Switch} {a : Int} : ∀ (p : List Int), InR sw p → anyOpen sw a p = some (anyO sw a p)
  | [], h => rfl
  | s :: r, h => by
    have hs := h s (by simp)
    have hr : InR sw r := fun x hx => h x (by simp [hx])
    have ih := anyOpen_O (a := a) r hr
    unfold anyOpen
    show _ = some ((s != a && (rd sw s.toNat default).Shown == -1) || anyO sw a r)
    by_cases hx : (s != a) = true
    · rw [sel_pos hx, sel_pos (decide_eq_true hs.1), sel_pos (decide_eq_true hs.2)]
      by_cases hy : ((rd sw s.toNat default).Shown == -1) = true
      · rw [sel_pos hy, hx, hy]; rfl
      · have hy : ((rd sw s.toNat default).Shown == -1) = false := by simpa using hy
        rw [sel_neg hy, ih, hy]; simp
    · have hx : (s != a) = false := by simpa using hx
      rw [sel_neg hx, ih, hx]; simp
theorem lastO_snoc {sw : List T.Switch} : ∀ (p : List Int) (x a : Int), lastO sw (p ++ [x]) a = if (rd sw x.toNat default).Shown != 1 then x else lastO sw p a
  | [], x, a => by simp [lastO]
  | s :: r, x, a => by
    show (if (rd sw s.toNat default).Shown != 1 then lastO sw (r ++ [x]) s else lastO sw (r ++ [x]) a) = if (rd sw x.toNat default).Shown != 1 then x else (if (rd sw s.toNat default).Shown != 1 then lastO sw r s else lastO sw r a)
    rw [lastO_snoc r x s, lastO_snoc r x a]
    split <;> split <;> rfl
theorem lastO_mem {sw : List T.Switch} : ∀ (p : List Int) (a : Int), lastO sw p a = a ∨ lastO sw p a ∈ p
  | [], a => .inl rfl
  | s :: r, a => by
    unfold lastO
    split
    · rcases lastO_mem (sw := sw) r s with h | h
      · right; rw [h]; simp
      · right; simp [h]
    · rcases lastO_mem (sw := sw) r a with h | h
      · left; exact h
      · right; simp [h]
theorem rd_take {β : Type} [Inhabited β] {p : List β} {m : Nat} (h : m < p.length) : p.take (m + 1) = p.take m ++ [rd p m default] := by
  rw [List.take_add_one, show p[m]? = some p[m] from List.getElem?_eq_getElem h]
  simp [rd, List.getD, h]
theorem rd_drop {β : Type} [Inhabited β] {p : List β} {m : Nat} (h : m < p.length) : p.drop m = rd p m default :: p.drop (m + 1) := by
  rw [List.drop_eq_getElem_cons h]
  simp [rd, List.getD, h]
section
variable (rT rS r2 r1 rZ : Int) (l : List T.Span) (cuts : List T.Cut) (n fR : Int) (fZ : List Int) (sw : List T.Switch) (zs : List T.Zone) (ps : List T.Person) (cs : List T.Cond) (ss : List T.Sensor) (ds : List T.Door) (fs : List T.Fan) (rs : List T.Road) (pl : List T.Place)
theorem o2_loop (own : Int) (p : List Int) (hp : InR sw p) (hl : p.length ≤ 1000) : ∀ (m it : Nat), m ≤ p.length → m < it →
    law21_RestoreOthers.j2 K it ((m : Int) - 1, own, p, own, rT, rS, r2, r1, rZ, (), l, cuts, n, fR, fZ, sw, (), zs, ps, cs, ss, ds, fs, rs, pl, ()) = law21_RestoreOthers.j9 K (lastO sw (p.take m) own, own, rT, rS, r2, r1, rZ, (), l, cuts, n, fR, fZ, sw, (), zs, ps, cs, ss, ds, fs, rs, pl, ())
  | 0, it + 1, hm, hit => by
    unfold law21_RestoreOthers.j2
    rw [sel_neg (decide_eq_false (by omega))]
    rfl
  | m + 1, it + 1, hm, hit => by
    have hx := hp _ (rd_mem (xs := p) (i := m) (d := default) (by omega))
    have hn : (((m + 1 : Nat) : Int) - 1).toNat = m := by omega
    unfold law21_RestoreOthers.j2
    rw [hn, sel_pos (decide_eq_true (by omega)), sel_pos (by simp), sel_pos (decide_eq_true (by omega)), sel_pos (decide_eq_true (by omega)), sel_pos (decide_eq_true hx.1), sel_pos (decide_eq_true hx.2), sel_pos (decide_eq_true (by omega)), sel_pos (decide_eq_true (by omega))]
    rw [rd_take (by omega), lastO_snoc]
    by_cases hy : ((rd sw (rd p m default).toNat default).Shown != 1) = true
    · rw [sel_pos hy, if_pos hy]
    · rw [sel_neg (by simpa using hy), if_neg hy, w64_small (by omega) (by omega), show (((m + 1 : Nat) : Int) - 1 - 1) = (m : Int) - 1 by omega]
      exact o2_loop own p hp hl m it (by omega) (by omega)
theorem o4_loop (g : _) (k want next own : Int) (p : List Int) (hp : InR sw p) (hl : p.length ≤ 1000) : ∀ (d i it : Nat) (held under : Bool), i + d = p.length → d < it →
    law21_RestoreOthers.j4 K g it ((i : Int), (p.length : Int), p, held, under, k, want, next, own, rT, rS, r2, r1, rZ, (), l, cuts, n, fR, fZ, sw, (), zs, ps, cs, ss, ds, fs, rs, pl, ()) = law21_RestoreOthers.j5 K g (held || anyO sw next (p.drop i), under || (p.drop i).contains next, k, want, next, own, rT, rS, r2, r1, rZ, (), l, cuts, n, fR, fZ, sw, (), zs, ps, cs, ss, ds, fs, rs, pl, ())
  | 0, i, it + 1, held, under, hi, hit => by
    unfold law21_RestoreOthers.j4
    rw [sel_neg (decide_eq_false (by omega)), List.drop_eq_nil_of_le (by omega)]
    simp [anyO]
  | d + 1, i, it + 1, held, under, hi, hit => by
    have hx := hp _ (rd_mem (xs := p) (i := i) (d := default) (by omega))
    have ih := fun h u => o4_loop g k want next own p hp hl d (i + 1) it h u (by omega) (by omega)
    push_cast at ih
    unfold law21_RestoreOthers.j4
    rw [Int.toNat_natCast]
    rw [rd_drop (by omega : i < p.length)]
    generalize rd p i default = x at *
    simp (disch := omega) only [sel_dt, w64_small]
    have e1 : anyO sw next (x :: p.drop (i + 1)) = ((x != next && (rd sw x.toNat default).Shown == -1) || anyO sw next (p.drop (i + 1))) := rfl
    have e2 : (x :: p.drop (i + 1)).contains next = ((x == next) || (p.drop (i + 1)).contains next) := by
      rw [List.contains_cons, BEq.comm]
    rw [e1, e2]
    by_cases hxn : x = next
    · subst hxn
      cases held <;> cases under <;> simp only [sel_t, sel_f, ih, Bool.true_or, Bool.false_or, Bool.or_false, Bool.or_true, Bool.true_and, Bool.false_and, bne_self_eq_false, beq_self_eq_true]
    · have hne : (x != next) = true := by simp [hxn]
      have heq : (x == next) = false := by simp [hxn]
      rw [hne, heq]
      cases held <;> cases under <;> simp only [sel_t, sel_f, ih, Bool.true_or, Bool.false_or, Bool.or_false, Bool.or_true, Bool.true_and, Bool.false_and, bne_self_eq_false, beq_self_eq_true]
/-- what is said of one other zone -/
def unsafeO (sw : List T.Switch) (off : Bool) (next : Int) (p : List Int) : Bool := off && (p.contains next && !anyO sw next p)
theorem o5_eq (g : _) (held under : Bool) (k want next own : Int) (hk0 : 0 ≤ k) (hk : k < (cuts.length : Int)) (hk2 : k < 1000) :
    law21_RestoreOthers.j5 K g (held, under, k, want, next, own, rT, rS, r2, r1, rZ, (), l, cuts, n, fR, fZ, sw, (), zs, ps, cs, ss, ds, fs, rs, pl, ()) = g (k + 1, (if (rd cuts k.toNat default).Off && (under && !held) then 20 else want), next, own, rT, rS, r2, r1, rZ, (), l, cuts, n, fR, fZ, sw, (), zs, ps, cs, ss, ds, fs, rs, pl, ()) := by
  unfold law21_RestoreOthers.j5 law21_RestoreOthers.j6
  dsimp only
  rw [sel_pos (decide_eq_true hk0), sel_pos (decide_eq_true hk), w64_small (by omega) (by omega)]
  cases (rd cuts k.toNat default).Off <;> cases under <;> cases held <;> rfl
end
theorem path_InR {sw : List T.Switch} (h : SwsOk sw) {s : Int} (hs : s < (sw.length : Int)) : InR sw (pathO sw s) := upL_range h 6 s hs
theorem path_len {sw : List T.Switch} (s : Int) : (pathO sw s).length ≤ 6 := upL_len 6 s
/-- the rounds over the other zones -/
theorem o3_eq (rT rS r2 r1 rZ : Int) (l : List T.Span) (c0 c1 c2 : T.Cut) (n : Int) (sw : List T.Switch) (h : SwsOk sw) (h3 : 3 ≤ sw.length) (h6 : sw.length ≤ 6) (zs : List T.Zone) (ps : List T.Person) (cs : List T.Cond) (ss : List T.Sensor) (ds : List T.Door) (fs : List T.Fan) (rs : List T.Road) (pl : List T.Place) (want next own : Int) :
    law21_RestoreOthers.j8 K (want, next, own, rT, rS, r2, r1, rZ, (), l, [c0, c1, c2], n, 3, (feedO sw).Zones, sw, (), zs, ps, cs, ss, ds, fs, rs, pl, ()) = law21_RestoreOthers.j7 K ((if unsafeO sw c2.Off next (pathO sw ((sw.length : Int) - 3)) then 20 else if unsafeO sw c1.Off next (pathO sw ((sw.length : Int) - 2)) then 20 else want), next, own, rT, rS, r2, r1, rZ, (), l, [c0, c1, c2], n, 3, (feedO sw).Zones, sw, (), zs, ps, cs, ss, ds, fs, rs, pl, ()) := by
  have hK : ∃ k, K = k + 4 := ⟨K - 4, by unfold K; omega⟩
  have hKb := K_big
  have hf : ({ Switches := sw, Zones := (feedO sw).Zones, Reply := 3 } : T.Feeder) = feedO sw := rfl
  have hz1 : rd (feedO sw).Zones 1 default = (sw.length : Int) - 2 := rfl
  have hz2 : rd (feedO sw).Zones 2 default = (sw.length : Int) - 3 := rfl
  have p1 := rpath_O h h3 h6 (s := (sw.length : Int) - 2) (by omega) (by omega)
  have p2 := rpath_O h h3 h6 (s := (sw.length : Int) - 3) (by omega) (by omega)
  have r1' := path_InR h (s := (sw.length : Int) - 2) (by omega)
  have r2' := path_InR h (s := (sw.length : Int) - 3) (by omega)
  have l1 := path_len (sw := sw) ((sw.length : Int) - 2)
  have l2 := path_len (sw := sw) ((sw.length : Int) - 3)
  unfold law21_RestoreOthers.j8
  dsimp only
  obtain ⟨k, hk⟩ := hK
  suffices H : ∀ it, law21_RestoreOthers.j3 K (it + 3) (1, want, next, own, rT, rS, r2, r1, rZ, (), l, [c0, c1, c2], n, 3, (feedO sw).Zones, sw, (), zs, ps, cs, ss, ds, fs, rs, pl, ()) = _ from by
    have := H (k + 1)
    rw [show k + 1 + 3 = K by omega] at this
    exact this
  intro it
  show law21_RestoreOthers.j3 K ((it + 2) + 1) _ = _
  unfold law21_RestoreOthers.j3
  rw [sel_pos (by rfl), sel_pos (by rfl), sel_pos (by rfl)]
  rw [show Int.toNat 1 = 1 from rfl, hz1, hf, p1, obind_some]
  have e4 := o4_loop rT rS r2 r1 rZ l [c0, c1, c2] n 3 (feedO sw).Zones sw zs ps cs ss ds fs rs pl (law21_RestoreOthers.j3 K (it + 1 + 1)) 1 want next own _ r1' (by omega) _ 0 K false false (Nat.zero_add _) (by omega)
  rw [show ((0 : Nat) : Int) = 0 from rfl] at e4
  rw [e4, o5_eq _ _ _ _ _ _ _ _ _ _ _ _ _ _ _ _ _ _ _ _ _ _ _ _ _ _ (by omega) (by simp) (by omega)]
  show law21_RestoreOthers.j3 K ((it + 1) + 1) _ = _
  unfold law21_RestoreOthers.j3
  rw [show (1 : Int) + 1 = 2 from rfl]
  rw [sel_pos (by rfl), sel_pos (by rfl), sel_pos (by rfl)]
  rw [show Int.toNat 2 = 2 from rfl, hz2, hf, p2, obind_some]
  have e5 := fun w => o4_loop rT rS r2 r1 rZ l [c0, c1, c2] n 3 (feedO sw).Zones sw zs ps cs ss ds fs rs pl (law21_RestoreOthers.j3 K (it + 1)) 2 w next own _ r2' (by omega) _ 0 K false false (Nat.zero_add _) (by omega)
  rw [show ((0 : Nat) : Int) = 0 from rfl] at e5
  rw [e5, o5_eq _ _ _ _ _ _ _ _ _ _ _ _ _ _ _ _ _ _ _ _ _ _ _ _ _ _ (by omega) (by simp) (by omega)]
  unfold law21_RestoreOthers.j3
  rw [show (2 : Int) + 1 = 3 from rfl, sel_neg (by decide)]
  simp only [List.drop_zero, Bool.false_or]
  rfl
end Go.Proofs.Ytlhknehkcflkgaa
