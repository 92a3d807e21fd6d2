/- DelayOrder by contracts. -/
import Derived.Test.YtlijncmjcecppaaDoorSmall9
import Derived.Deep.Cut
namespace Go.Proofs.YtlijncmjcecppaaDoor
open Go.RowKit

set_option maxRecDepth 100000 in
set_option maxHeartbeats 4000000 in
theorem order_core (st sg s0 s1 s2 warn more x0 x1 x2 y0 y1 y2 : Int) (w : World) (hg : ErrTypeAt w)
    (k1 : ¬ st < 0) (k2 : ¬ more < 0) (k3 : ¬ warn < 0) (k4 : ¬ 1099511627776 < warn) (k5 : ¬ 1099511627776 < more)
    (ha : ∀ W, Calls Tryd.prog 13 #[.agg #[.int .i64 st, .int .i64 sg, .int .i64 s0, .int .i64 s1, .int .i64 s2], .int .i64 warn] W fun r w' => r = .returned (.agg #[.int .i64 x0, .int .i64 x1, .int .i64 x2]) ∧ Below W.heap.size W w')
    (hb : ∀ W, Calls Tryd.prog 13 #[.agg #[.int .i64 st, .int .i64 sg, .int .i64 s0, .int .i64 s1, .int .i64 s2], .int .i64 (warn + more)] W fun r w' => r = .returned (.agg #[.int .i64 y0, .int .i64 y1, .int .i64 y2]) ∧ Below W.heap.size W w')
    (h0 : 0 ≤ x0 ∧ x0 ≤ 9223372036854775807 ∧ decide (x0 < y0) = false ∧ (y0 != mx 0 (x0 - more)) = false)
    (h1 : 0 ≤ x1 ∧ x1 ≤ 9223372036854775807 ∧ decide (x1 < y1) = false ∧ (y1 != mx 0 (x1 - more)) = false)
    (h2 : 0 ≤ x2 ∧ x2 ≤ 9223372036854775807 ∧ decide (x2 < y2) = false ∧ (y2 != mx 0 (x2 - more)) = false)
    (g1 : decide (1 ≤ s0) = false ∨ (decide (1 ≤ s0) = true ∧ decide (s0 ≤ s1) = false) ∨ (decide (1 ≤ s0) = true ∧ decide (s0 ≤ s1) = true ∧ decide (x0 < x1) = false))
    (g2 : decide (1 ≤ s1) = false ∨ (decide (1 ≤ s1) = true ∧ decide (s1 ≤ s2) = false) ∨ (decide (1 ≤ s1) = true ∧ decide (s1 ≤ s2) = true ∧ decide (x1 < x2) = false)) :
    Calls Tryd.prog 3 #[.agg #[.int .i64 st, .int .i64 sg, .int .i64 s0, .int .i64 s1, .int .i64 s2], .int .i64 warn, .int .i64 more] w fun r w' => r = .returned (.bool true) ∧ Below w.heap.size w w' := by
  have HA := hid ha
  have HB := hid hb
  have H0 := hid h0
  have H1 := hid h1
  have H2 := hid h2
  have G1 := hid g1
  have G2 := hid g2
  have G := hid hg
  clear ha hb h0 h1 h2 g1 g2 hg
  have hb1 : Below w.heap.size w (w.alloc (.cells #[.int .i64 st, .int .i64 sg, .int .i64 s0, .int .i64 s1, .int .i64 s2] 24)) := (Below.refl _ _).alloc (Nat.le_refl _) _
  have HB1 := hid hb1
  clear hb1
  go_enter Tryd.func3, Tryd.ntmps3
  go_wp2_with fail
  refine (small9_any _ (G.out.keepTo HB1.out)).mono ?_
  rintro r wa ⟨rfl, hba⟩
  have bx := Box.below (Box.new w 24 #[.int .i64 st, .int .i64 sg, .int .i64 s0, .int .i64 s1, .int .i64 s2]) hba (by simp)
  have BA := hid (And.intro (HB1.out.trans (hba.mono (by simp))) bx)
  clear hba bx HB1
  have c0 := (BA.out.2.cell 0).trans (show _ = some (.int .i64 st) from rfl)
  have c1 := (BA.out.2.cell 1).trans (show _ = some (.int .i64 sg) from rfl)
  have c2 := (BA.out.2.cell 2).trans (show _ = some (.int .i64 s0) from rfl)
  have c3 := (BA.out.2.cell 3).trans (show _ = some (.int .i64 s1) from rfl)
  have c4 := (BA.out.2.cell 4).trans (show _ = some (.int .i64 s2) from rfl)
  go_wp2_with fail
  refine (HA.out _).mono ?_
  rintro r wb ⟨rfl, hbb⟩
  have bx := BA.out.2.below hbb BA.out.2.lt
  have BB := hid (And.intro (BA.out.1.trans (hbb.mono BA.out.1.size)) bx)
  have hsz := bx.lt
  clear hbb bx BA c0 c1 c2 c3 c4
  have c0 := (BB.out.2.cell 0).trans (show _ = some (.int .i64 st) from rfl)
  have c1 := (BB.out.2.cell 1).trans (show _ = some (.int .i64 sg) from rfl)
  have c2 := (BB.out.2.cell 2).trans (show _ = some (.int .i64 s0) from rfl)
  have c3 := (BB.out.2.cell 3).trans (show _ = some (.int .i64 s1) from rfl)
  have c4 := (BB.out.2.cell 4).trans (show _ = some (.int .i64 s2) from rfl)
  go_wp2_with fail
  refine (HB.out _).mono ?_
  rintro r wc ⟨rfl, hbc⟩
  have by8 := Box.below (Box.new wb 22 #[.int .i64 x0, .int .i64 x1, .int .i64 x2]) hbc (by simp)
  have bx := (BB.out.2.alloc (.cells #[.int .i64 x0, .int .i64 x1, .int .i64 x2] 22)).below hbc (by simp; omega)
  have BC := hid (And.intro ((BB.out.1.alloc BB.out.1.size (.cells #[.int .i64 x0, .int .i64 x1, .int .i64 x2] 22)).trans (hbc.mono (by simp; omega))) (And.intro bx by8))
  clear hbc bx by8 BB c0 c1 c2 c3 c4 HA HB
  have hsz2 := BC.out.2.2.lt
  go_wp2_with fail
  go_loopg [10] 3 (fun gg s10 wr => ∃ kk : Nat, kk ≤ 3 ∧ 3 - kk ≤ gg ∧ s10 = .int .i64 kk ∧ Hid (Below w.heap.size w wr ∧ Box wr w.heap.size 24 #[.int .i64 st, .int .i64 sg, .int .i64 s0, .int .i64 s1, .int .i64 s2] ∧ Box wr wb.heap.size 22 #[.int .i64 x0, .int .i64 x1, .int .i64 x2] ∧ Box wr wc.heap.size 22 #[.int .i64 y0, .int .i64 y1, .int .i64 y2]))
  case atStart => exact ⟨0, by omega, by omega, rfl, BC.out.1.alloc BC.out.1.size _, BC.out.2.1.alloc _, BC.out.2.2.alloc _, Box.new wc _ _⟩
  case round =>
    obtain ⟨kk, hkk, hg, rfl, R⟩ := hrel
    have c2 := (R.out.2.1.cell 2).trans (show _ = some (.int .i64 s0) from rfl)
    have c3 := (R.out.2.1.cell 3).trans (show _ = some (.int .i64 s1) from rfl)
    have c4 := (R.out.2.1.cell 4).trans (show _ = some (.int .i64 s2) from rfl)
    have d0 := (R.out.2.2.1.cell 0).trans (show _ = some (.int .i64 x0) from rfl)
    have d1 := (R.out.2.2.1.cell 1).trans (show _ = some (.int .i64 x1) from rfl)
    have d2 := (R.out.2.2.1.cell 2).trans (show _ = some (.int .i64 x2) from rfl)
    have e0 := (R.out.2.2.2.cell 0).trans (show _ = some (.int .i64 y0) from rfl)
    have e1 := (R.out.2.2.2.cell 1).trans (show _ = some (.int .i64 y1) from rfl)
    have e2 := (R.out.2.2.2.cell 2).trans (show _ = some (.int .i64 y2) from rfl)
    clear hsz hsz2
    rcases (show kk = 0 ∨ kk = 1 ∨ kk = 2 ∨ kk = 3 by omega) with rfl | rfl | rfl | rfl
    · obtain ⟨p1, p2, p3, p4⟩ := H0.out
      go_upto_region 9 with (fail)
      go_quiet (fail)
      go_wp2
      go_roundg 2
      case measure => omega
      case rel => exact ⟨1, by omega, by omega, rfl, below_drewN R.out.1 _, R.out.2.1, R.out.2.2.1, R.out.2.2.2⟩
    · obtain ⟨p1, p2, p3, p4⟩ := H1.out
      rcases G1.out with q1 | ⟨q1, q2⟩ | ⟨q1, q2, q3⟩
      all_goals
        go_upto_region 9 with (fail)
        go_quiet (fail)
        go_wp2
        go_roundg 1
        case measure => omega
        case rel => exact ⟨2, by omega, by omega, rfl, below_drewN R.out.1 _, R.out.2.1, R.out.2.2.1, R.out.2.2.2⟩
    · obtain ⟨p1, p2, p3, p4⟩ := H2.out
      rcases G2.out with q1 | ⟨q1, q2⟩ | ⟨q1, q2, q3⟩
      all_goals
        go_upto_region 9 with (fail)
        go_quiet (fail)
        go_wp2
        go_roundg 0
        case measure => omega
        case rel => exact ⟨3, by omega, by omega, rfl, below_drewN R.out.1 _, R.out.2.1, R.out.2.2.1, R.out.2.2.2⟩
    · clear c2 c3 c4 d0 d1 d2 e0 e1 e2
      go_wp2
      go_ret
      exact ⟨rfl, R.out.1⟩

set_option maxRecDepth 100000 in
set_option maxHeartbeats 4000000 in
theorem order_out (st sg s0 s1 s2 warn more : Int) (w : World) (hg : ErrTypeAt w) (h : st < 0 ∨ more < 0 ∨ warn < 0 ∨ 1099511627776 < warn ∨ 1099511627776 < more) :
    Calls Tryd.prog 3 #[.agg #[.int .i64 st, .int .i64 sg, .int .i64 s0, .int .i64 s1, .int .i64 s2], .int .i64 warn, .int .i64 more] w fun r w' => r = .returned (.bool true) ∧ Below w.heap.size w w' := by
  have G := hid hg
  have hb1 : Below w.heap.size w (w.alloc (.cells #[.int .i64 st, .int .i64 sg, .int .i64 s0, .int .i64 s1, .int .i64 s2] 24)) := (Below.refl _ _).alloc (Nat.le_refl _) _
  have HB1 := hid hb1
  clear hb1 hg
  have h' : decide (st < 0) = true ∨ (decide (st < 0) = false ∧ decide (more < 0) = true) ∨ (decide (st < 0) = false ∧ decide (more < 0) = false ∧ decide (warn < 0) = true) ∨ (decide (st < 0) = false ∧ decide (more < 0) = false ∧ decide (warn < 0) = false ∧ decide (1099511627776 < warn) = true) ∨ (decide (st < 0) = false ∧ decide (more < 0) = false ∧ decide (warn < 0) = false ∧ decide (1099511627776 < warn) = false ∧ decide (1099511627776 < more) = true) := by
    simp only [decide_eq_true_eq, decide_eq_false_iff_not]
    omega
  clear h
  rcases h' with k1 | ⟨k1, k2⟩ | ⟨k1, k2, k3⟩ | ⟨k1, k2, k3, k4⟩ | ⟨k1, k2, k3, k4, k5⟩
  all_goals
    go_enter Tryd.func3, Tryd.ntmps3
    go_wp2_with fail
    refine (small9_any _ (G.out.keepTo HB1.out)).mono ?_
    rintro r wa ⟨rfl, hba⟩
    have bx := Box.below (Box.new w 24 #[.int .i64 st, .int .i64 sg, .int .i64 s0, .int .i64 s1, .int .i64 s2]) hba (by simp)
    have BA := hid (HB1.out.trans (hba.mono (by simp)))
    have c0 := (bx.cell 0).trans (show _ = some (.int .i64 st) from rfl)
    clear hba bx HB1
    go_wp2
    go_ret
    exact ⟨rfl, BA.out⟩

theorem Dly.of1_facts (st warn s : Int) (hst : I64 st) : 0 ≤ Dly.of1 st warn s ∧ Dly.of1 st warn s ≤ 9223372036854775807 := by
  unfold Dly.of1
  split
  · omega
  · rename_i h
    have h1 : 0 ≤ st / s := Int.ediv_nonneg (by omega) (by omega)
    have h2 : st / s ≤ st := Int.ediv_le_self _ (by omega)
    have h3 := hst.2
    unfold mx
    omega
theorem Dly.of1_more (st warn more s : Int) (hw : 0 ≤ warn) (hm : 0 ≤ more) : Dly.of1 st (warn + more) s = mx 0 (Dly.of1 st warn s - more) := by
  unfold Dly.of1
  split
  · unfold mx; omega
  · unfold mx; omega
theorem Dly.of1_faster (st warn s s' : Int) (h0 : 0 ≤ st) (h1 : 1 ≤ s) (h : s ≤ s') : Dly.of1 st warn s' ≤ Dly.of1 st warn s := by
  unfold Dly.of1
  rw [if_neg (by omega), if_neg (by omega)]
  have h2 : st / s' ≤ st / s := by
    have := Int.ediv_le_ediv (a := s' * (st / s')) (b := st) (c := s) (by omega) (Int.mul_ediv_self_le (by omega))
    have h3 : 0 ≤ st / s' := Int.ediv_nonneg h0 (by omega)
    have h4 : s * (st / s') ≤ s' * (st / s') := Int.mul_le_mul_of_nonneg_right h h3
    have h5 := Int.ediv_le_ediv (a := s * (st / s')) (b := s' * (st / s')) (c := s) (by omega) h4
    rw [Int.mul_ediv_cancel_left _ (by omega)] at h5
    omega
  unfold mx
  omega
theorem order_any (st sg s0 s1 s2 warn more : Int) (w : World) (hg : ErrTypeAt w) (hst : I64 st) (h0 : I64 s0) (h1 : I64 s1) (h2 : I64 s2) :
    Calls Tryd.prog 3 #[.agg #[.int .i64 st, .int .i64 sg, .int .i64 s0, .int .i64 s1, .int .i64 s2], .int .i64 warn, .int .i64 more] w fun r w' => r = .returned (.bool true) ∧ Below w.heap.size w w' := by
  by_cases h : st < 0 ∨ more < 0 ∨ warn < 0 ∨ 1099511627776 < warn ∨ 1099511627776 < more
  · exact order_out st sg s0 s1 s2 warn more w hg h
  · have hw : I64 warn := ⟨by omega, by omega⟩
    have hwm : I64 (warn + more) := ⟨by omega, by omega⟩
    have ha := fun W => of_any st sg s0 s1 s2 warn W hst h0 h1 h2 hw
    have hb := fun W => of_any st sg s0 s1 s2 (warn + more) W hst h0 h1 h2 hwm
    have f : ∀ s, 0 ≤ Dly.of1 st warn s ∧ Dly.of1 st warn s ≤ 9223372036854775807 ∧ decide (Dly.of1 st warn s < Dly.of1 st (warn + more) s) = false ∧ (Dly.of1 st (warn + more) s != mx 0 (Dly.of1 st warn s - more)) = false := by
      intro s
      have f1 := Dly.of1_facts st warn s hst
      have f2 := Dly.of1_more st warn more s (by omega) (by omega)
      refine ⟨f1.1, f1.2, ?_, ?_⟩
      · rw [f2, decide_eq_false_iff_not]
        unfold mx
        omega
      · rw [f2]; simp
    have g : ∀ s s', decide (1 ≤ s) = false ∨ (decide (1 ≤ s) = true ∧ decide (s ≤ s') = false) ∨ (decide (1 ≤ s) = true ∧ decide (s ≤ s') = true ∧ decide (Dly.of1 st warn s < Dly.of1 st warn s') = false) := by
      intro s s'
      have q := Dly.of1_faster st warn s s' (by omega)
      simp only [decide_eq_true_eq, decide_eq_false_iff_not]
      omega
    exact order_core st sg s0 s1 s2 warn more _ _ _ _ _ _ w hg (by omega) (by omega) (by omega) (by omega) (by omega) ha hb (f s0) (f s1) (f s2) (g s0 s1) (g s1 s2)
end Go.Proofs.YtlijncmjcecppaaDoor
